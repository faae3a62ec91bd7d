/- The walk of the reference's Frames. -/
import Derived.Test.YtcppmmdkblmfoaaFrames
namespace Go.Proofs.Ytcppmmdkblmfoaa
open Go.RowKit
theorem rd4_eq (x : List UInt8) (S : Nat) (hx : 4 ≤ x.length) (hS : S < 4294967296) : rd4 x = S ↔ x.take 4 = be4b S := by
  match x, hx with
  | b0 :: b1 :: b2 :: b3 :: r, _ =>
    have := b0.toNat_lt; have := b1.toNat_lt; have := b2.toNat_lt; have := b3.toNat_lt
    simp only [rd4, val4, be4b, List.take_succ_cons, List.take_zero, List.cons.injEq, and_true]
    constructor
    · intro h
      refine ⟨?_, ?_, ?_, ?_⟩ <;> (apply UInt8.toNat_inj.1; rw [UInt8.toNat_ofNat']; omega)
    · rintro ⟨h0, h1, h2, h3⟩
      have e0 := congrArg UInt8.toNat h0; have e1 := congrArg UInt8.toNat h1; have e2 := congrArg UInt8.toNat h2; have e3 := congrArg UInt8.toNat h3
      rw [UInt8.toNat_ofNat'] at e0 e1 e2 e3
      omega
theorem take_step (u v : List UInt8) (j : Nat) (hu : j < u.length) (hv : j < v.length) (h : u.take j = v.take j) : u.take (j + 1) = v.take (j + 1) ↔ u[j] = v[j] := by
  have e1 := List.take_succ_eq_append_getElem hu
  have e2 := List.take_succ_eq_append_getElem hv
  rw [e1, e2, h]
  constructor
  · intro h; have := List.append_cancel_left h; simpa using this
  · intro h; rw [h]
theorem be4b_len (S : Nat) : (be4b S).length = 4 := rfl
/-- The loop's relation in the reference's Frames. -/
def RfRel (w : World) (n c : Nat) (l : List UInt8) (s4 s5 : Value) (wr : World) : Prop :=
  ∃ (vs : List Value) (ps : List (List UInt8)) (k : Nat), k ≤ n ∧ n ≤ c ∧
    wr.ownsRow w.heap.size 22 1 s4 ps.length vs ∧ Pays wr s4.ownBlock vs ps ∧ 9 * ps.length ≤ k ∧ s5 = .int .i64 k ∧ frames l = (ps ++ (frames (l.drop k)).1, k + (frames (l.drop k)).2) ∧ Below w.heap.size w wr
set_option maxRecDepth 100000 in
set_option maxHeartbeats 1000000 in
theorem rframes_any (A : Option Addr) (n c B : Nat) (l : List UInt8) (w : World) (hr : Reads w B 1 A n (l.map byteV)) (hB : B ≤ w.heap.size) (hn : n ≤ 1000000000) (hc : n ≤ c) :
    Calls Try.prog 18 #[.slice A n c] w (FrEnd w l) := by
  obtain ⟨i0, hi, hz0, hz1, hz2⟩ := info_parts Try.info22
  obtain ⟨j0, ji, jz0, jz1, jz2⟩ := info_parts Try.info5
  have hll : l.length = n := by have := hr.1; simpa using this
  have HLL := Lib.hid hll
  clear hll
  go_enter Try.func18, Try.ntmps18
  go_wp2
  go_loopw [4, 5] (fun s4 s5 wr => RfRel w n c l s4 s5 wr) (fun _ s5 _ => n - (intOf s5).toNat)
  case atStart => exact ⟨[], [], 0, by omega, hc, World.ownsRow_nil _ _ _ _, Pays.nil _ _, by simp, rfl, by simp, Below.refl _ _⟩
  case round =>
    obtain ⟨vs, ps, k, hk, _, hown, hps, h9, rfl, hf, hb⟩ := hrel
    obtain ⟨Al, cl, rfl⟩ := own_form hown
    have hrr : Reads wr B 1 (if c = k then A else A.map (·.add k)) (n - k) ((l.drop k).map byteV) := by
      have h := (hr.below (hb.mono hB)).cut (k := k) (cap := c) hk hc
      simpa [List.map_drop] using h
    have hml : (l.drop k).length = n - k := by rw [List.length_drop, HLL.out]
    obtain ⟨r, hrl⟩ : ∃ r, r = l.drop k := ⟨_, rfl⟩
    rw [← hrl] at hf hrr hml
    have HR := Lib.hid hrl
    clear hrl
    by_cases h8 : n - k < 8
    · have h8' : ((n - k : Nat) : Int) < 8 := by omega
      have hs : step1 r = none := by unfold step1; rw [if_pos (by omega)]
      rw [frames_none hs] at hf
      simp only [List.append_nil, Nat.add_zero] at hf
      have HF := Lib.hid hf
      clear hf hs
      go_wp2_with fail
      all_goals
        go_ret2
        unfold FrEnd
        rw [HF.out]
        exact ⟨Al, cl, vs, rfl, hown, hps, hb⟩
    · have h8' : ¬ ((n - k : Nat) : Int) < 8 := by omega
      obtain ⟨b, o, rfl, hbl, _⟩ := hr.form (by omega)
      rw [if_neg (by omega)] at hrr
      simp only [Option.map_some, addr_add] at hrr
      obtain ⟨b0, b1, b2, b3, r', rfl⟩ : ∃ b0 b1 b2 b3 r', r = b0 :: b1 :: b2 :: b3 :: r' := by
        match r, hml with
        | b0 :: b1 :: b2 :: b3 :: r', _ => exact ⟨_, _, _, _, _, rfl⟩
        | [_, _, _], h => simp at h; omega
        | [_, _], h => simp at h; omega
        | [_], h => simp at h; omega
        | [], h => simp at h; omega
      obtain ⟨b', o', e, _, hc4⟩ := hrr.form (by omega)
      simp only [Option.some.injEq, Addr.mk.injEq, and_true] at e
      obtain ⟨rfl, rfl⟩ := e
      have c0 := hc4 0 _ rfl
      have c1 := hc4 1 _ rfl
      have c2 := hc4 2 _ rfl
      have c3 := hc4 3 _ rfl
      rw [Nat.add_zero] at c0
      unfold byteV at c0 c1 c2 c3
      clear hc4
      have l0 := b0.toNat_lt; have l1 := b1.toNat_lt; have l2 := b2.toNat_lt; have l3 := b3.toNat_lt
      have hN : rd4 (b0 :: b1 :: b2 :: b3 :: r') = val4 b0.toNat b1.toNat b2.toNat b3.toNat := rfl
      obtain ⟨r, hr4⟩ : ∃ r, r = b0 :: b1 :: b2 :: b3 :: r' := ⟨_, rfl⟩
      rw [← hr4] at hf hrr hml hN HR
      clear hr4
      obtain ⟨N, hNe⟩ : ∃ N, N = rd4 r := ⟨_, rfl⟩
      rw [← hNe] at hN
      have HN := Lib.hid hNe
      clear hNe
      have hNl : N < 4294967296 := by rw [HN.out]; exact rd4_lt r
      generalize b0.toNat = x0 at *
      generalize b1.toNat = x1 at *
      generalize b2.toNat = x2 at *
      generalize b3.toNat = x3 at *
      have w0 : IntKind.i64.wrap (x0 : Int) = x0 := IntWalk.i64_in _ (by omega)
      have w1 : IntKind.i64.wrap (x1 : Int) = x1 := IntWalk.i64_in _ (by omega)
      have w2 : IntKind.i64.wrap (x2 : Int) = x2 := IntWalk.i64_in _ (by omega)
      have w3 : IntKind.i64.wrap (x3 : Int) = x3 := IntWalk.i64_in _ (by omega)
      have v0 : IntKind.i64.wrap ((x0 : Int) * 16777216) = x0 * 16777216 := IntWalk.i64_in _ (by omega)
      have v1 : IntKind.i64.wrap ((x1 : Int) * 65536) = x1 * 65536 := IntWalk.i64_in _ (by omega)
      have v2 : IntKind.i64.wrap ((x2 : Int) * 256) = x2 * 256 := IntWalk.i64_in _ (by omega)
      have v3 : IntKind.i64.wrap ((x0 : Int) * 16777216 + x1 * 65536) = x0 * 16777216 + x1 * 65536 := IntWalk.i64_in _ (by omega)
      have v4 : IntKind.i64.wrap ((x0 : Int) * 16777216 + x1 * 65536 + x2 * 256) = x0 * 16777216 + x1 * 65536 + x2 * 256 := IntWalk.i64_in _ (by omega)
      have v5 : IntKind.i64.wrap ((x0 : Int) * 16777216 + x1 * 65536 + x2 * 256 + x3) = N := by rw [IntWalk.i64_in _ (by omega), hN]; unfold val4; omega
      have g0 : 0 < n - k := by omega
      have g1 : (1 : Int) < ((n - k : Nat) : Int) := by omega
      have g2 : (2 : Int) < ((n - k : Nat) : Int) := by omega
      have g3 : (3 : Int) < ((n - k : Nat) : Int) := by omega
      clear hN
      go_wp2_with fail
      go_quiet (fail)
      clear v0 v1 v2 v3 v4 v5 w0 w1 w2 w3 c0 c1 c2 c3 l0 l1 l2 l3 g0 g1 g2 g3
      have hq := below_drewN (Below.refl wr.heap.size wr) nq
      have hrr1 := hrr.below (hq.mono (by have := hb.size; omega))
      have hown1 := own_below hown hq
      have hps1 := hps.below hq
      have hb1 := hb.trans (hq.mono hb.size)
      generalize wr.drewN nq = w1 at *
      clear hq hrr hown hps hb wr
      by_cases hbad : N < 1 ∨ 1048576 < N ∨ n - k - 8 < N
      · have hs : step1 r = none := by
          rw [HN.out] at hbad
          unfold step1; rw [if_neg (by omega), if_pos (by omega)]
        rw [frames_none hs] at hf
        simp only [List.append_nil, Nat.add_zero] at hf
        have HF := Lib.hid hf
        clear hf hs
        have fin : FrEnd w l (.returned (.tuple #[.slice Al ps.length cl, .int .i64 k])) w1 := by
          unfold FrEnd
          rw [HF.out]
          exact ⟨Al, cl, vs, rfl, hown1, hps1, hb1⟩
        have FIN := Lib.hid fin
        clear fin HF hown1 hps1 hb1 hrr1
        by_cases g1 : N < 1
        · go_wp2_with fail
          go_ret2
          exact FIN.out
        · by_cases g2 : 1048576 < N
          · go_wp2_with fail
            go_ret2
            exact FIN.out
          · have g3' : ((n - k : Nat) : Int) - 8 < (N : Int) := by omega
            go_wp2_with fail
            go_ret2
            exact FIN.out
      · have g1 : ¬ N < 1 := by omega
        have g2 : ¬ 1048576 < N := by omega
        have g3 : ¬ (((n - k : Nat) : Int) - 8 < (N : Int)) := by omega
        have g4 : 8 + N ≤ n - k := by omega
        clear hbad
        have rP : Reads w1 B 1 (some ⟨b, o + k + 8, none⟩) N (((r.drop 8).take N).map byteV) := by
          have h := hrr1.cut (k := 8) (cap := c - k) (by omega) (by omega)
          rw [if_neg (by omega)] at h
          have h2 := h.take_ (k := N) (by omega)
          simpa [List.map_drop, List.map_take, addr_add] using h2
        have hpl : ((r.drop 8).take N).length = N := by simp; omega
        have HPL := Lib.hid hpl
        clear hpl
        go_wp2_with fail
        refine (rsum_any _ N _ B _ w1 rP (by omega)).mono ?_
        rintro e w2 ⟨rfl, rfl⟩
        obtain ⟨S, hS⟩ : ∃ S, S = Crc.sum (bytes ((r.drop 8).take N)) := ⟨_, rfl⟩
        have hSl : S < 4294967296 := by rw [hS]; exact Crc.sum_lt _ (bytes_lt _)
        have hS' : Crc.sum (((r.drop 8).take N).map UInt8.toNat) = S := hS.symm
        rw [hS']
        have HS := Lib.hid hS
        clear hS hS'
        go_wp2_with fail
        refine (number_any S w1 hSl).mono ?_
        rintro e w2 ⟨rfl, hownS, hq⟩
        have hrr2 := hrr1.below (hq.mono (by have := hb1.size; omega))
        have rP2 := rP.below (hq.mono (by have := hb1.size; omega))
        have hown2 := own_below hown1 hq
        have hps2 := hps1.below hq
        have hb2 := hb1.trans (hq.mono hb1.size)
        have rS := Reads.of_own hownS
        have hgS : w1.heap.size < w2.heap.size := (hownS.lt w1.heap.size rfl).2
        generalize w1.heap.size = g at *
        clear hq hrr1 hown1 hps1 hb1 rP hownS w1
        go_wp2_with fail
        have HFR := Lib.hid hf
        clear hf
        go_loopw [63] (fun i wr => ∃ j : Nat, j ≤ 4 ∧ i = .int .i64 j ∧ Below w2.heap.size w2 wr ∧ (r.drop 4).take j = (be4b S).take j) (fun i _ => 4 - (intOf i).toNat)
        case atStart => exact ⟨0, by omega, rfl, Below.refl _ _, by simp⟩
        case round =>
          obtain ⟨j, hj, rfl, hq, htk⟩ := hrel
          have hrr3 := hrr2.below (hq.mono (by have := hb2.size; omega))
          have rP3 := rP2.below (hq.mono (by have := hb2.size; omega))
          have hown3 := own_below hown2 hq
          have hps3 := hps2.below hq
          have hb3 := hb2.trans (hq.mono hb2.size)
          have rS3 := rS.below hq
          have HTK := Lib.hid htk
          clear htk
          by_cases hj4 : j < 4
          · have hx : (be4b S)[j]? = some ((be4b S)[j]'(by simp [be4b]; omega)) := List.getElem?_eq_getElem _
            have hy : r[4 + j]? = some (r[4 + j]'(by omega)) := List.getElem?_eq_getElem _
            obtain ⟨_, _, e, _, hcS⟩ := rS3.form (by omega)
            simp only [Option.some.injEq, Addr.mk.injEq, and_true] at e
            obtain ⟨rfl, rfl⟩ := e
            have cS := hcS j (byteV ((be4b S)[j]'(by simp [be4b]; omega))) (by simp [hx])
            obtain ⟨_, _, e, _, hcR⟩ := hrr3.form (by omega)
            simp only [Option.some.injEq, Addr.mk.injEq, and_true] at e
            obtain ⟨rfl, rfl⟩ := e
            have cR := hcR (4 + j) (byteV (r[4 + j]'(by omega))) (by simp [hy])
            clear hcS hcR
            have hmatch : (r.drop 4).take (j + 1) = (be4b S).take (j + 1) ↔ r[4 + j]'(by omega) = (be4b S)[j]'(by simp [be4b]; omega) := by
              have h := take_step (r.drop 4) (be4b S) j (by simp; omega) (by rw [be4b_len]; omega) HTK.out
              simpa using h
            generalize (be4b S)[j]'(by simp [be4b]; omega) = x at *
            generalize r[4 + j]'(by omega) = y at *
            have HM := Lib.hid hmatch
            clear hmatch hx hy
            unfold byteV at cS cR
            rw [Nat.zero_add] at cS
            have i1 : (j : Int) < 4 := by omega
            have i2 : 4 + (j : Int) < ((n - k : Nat) : Int) := by omega
            have i3 : IntKind.i64.wrap (4 + (j : Int)) = 4 + (j : Int) := IntWalk.i64_in _ (by omega)
            have i4 : (4 + (j : Int)).toNat = 4 + j := by omega
            have i5 : 0 ≤ 4 + (j : Int) := by omega
            by_cases hxy : x = y
            · have b1 : ((x.toNat : Int) != (y.toNat : Int)) = false := by simp [hxy]
              subst hxy
              go_wp2_with fail
              go_quiet (fail)
              go_wp2_with fail
              go_roundw
              case rel => exact ⟨j + 1, by omega, by go_num, below_drewN hq _, HM.out.2 (by trivial)⟩
              case measure => simp [intOf]; omega
            · have b1 : ((x.toNat : Int) != (y.toNat : Int)) = true := by simpa using fun h => hxy (UInt8.toNat_inj.1 (by omega))
              go_wp2_with fail
              go_quiet (fail)
              go_wp2_with fail
              go_ret2
              have hs : step1 r = none := by
                rw [HN.out] at g1 g2 g4
                rw [HN.out] at HS
                unfold step1; rw [if_neg (by omega), if_neg (by omega), if_neg (by
                  rw [← HS.out]
                  intro h
                  have := (rd4_eq (r.drop 4) S (by simp; omega) hSl).1 h.symm
                  exact hxy (HM.out.1 (by
                    have h5 := congrArg (List.take (j + 1)) this
                    rw [List.take_take] at h5
                    rw [← h5, Nat.min_eq_left (by omega)])).symm)]
              have hf := HFR.out
              rw [frames_none hs] at hf
              simp only [List.append_nil, Nat.add_zero] at hf
              have hq2 := below_drewN (Below.refl wr.heap.size wr) nq
              unfold FrEnd
              rw [hf]
              exact ⟨Al, cl, vs, rfl, own_below hown3 hq2, hps3.below hq2, hb3.trans (hq2.mono hb3.size)⟩
          · obtain rfl : j = 4 := by omega
            have hS4 : Crc.sum (bytes ((r.drop 8).take N)) = rd4 (r.drop 4) := by
              rw [← HS.out]
              exact ((rd4_eq (r.drop 4) S (by simp; omega) hSl).2 (by rw [HTK.out]; rfl)).symm
            have hs : step1 r = some ((r.drop 8).take N, r.drop (8 + N)) := by
              rw [HN.out] at g1 g2 g4 hS4 ⊢
              unfold step1; rw [if_neg (by omega), if_neg (by omega), if_pos hS4]
            have hf := HFR.out
            rw [frames_some hs, HPL.out] at hf
            have HF := Lib.hid hf
            clear hf hs hS4 hrr2 rP2 hown2 hps2 hb2 rS hq HFR
            have hown0 := World.ownsRow_lit (e := 5) (size := 1) wr #[] 0 (Nat.le_refl _) (by decide) rfl
            have rP4 := rP3.alloc (by have := hb3.size; omega) (.cells #[] 5)
            go_wp2_with (at_builtin; refine wpList_append_any _ rfl (.tmp 80) (.tmp 84) 22 rfl wr.heap.size 5 j0 (.int .u8 0) 1 1 Try.underlying22 ji jz0 jz1 jz2 rfl (by decide) _ _ _ rfl hown0 B _ _ _ (((r.drop 8).take N).map byteV) rfl (by simpa using rP4) (oneB _) (by unfold maxLen; omega) (by omega) (by simp) ?_)
            intro vp wp hownp hgp _
            obtain ⟨Ap, cp, rfl⟩ := own_form hownp
            have hownp' : wp.ownsRow wr.heap.size 5 1 (.slice Ap N cp) N (((r.drop 8).take N).map byteV) := by simpa [List.map_drop, List.map_take] using hownp
            have hq := below_own ((Below.refl wr.heap.size wr).alloc (Nat.le_refl _) (.cells #[] 5)) (by simp) (Nat.le_refl _) hown0 hgp
            have hown4 := own_below hown3 hq
            have hps4 := hps3.below hq
            have hb4 := hb3.trans (hq.mono hb3.size)
            have hpay := PayOk.of_own (N := (Value.slice Al ps.length cl).ownBlock) hownp' (own_le hownp') (by intro g hg; exact (hown3.lt g hg).2)
            clear hownp hownp' hgp hown0 rP4 rP3 hrr3 hown3 hps3 rS3 hb3 hq
            have hA := World.grownBy_alloc wp (.cells #[.slice Ap N cp] 22) (Value.slice Al ps.length cl).ownBlock
            have hown5 := hown4.alloc (.cells #[.slice Ap N cp] 22)
            have hrd := Reads.of_alloc wp #[.slice Ap N cp] 22 (B := wp.heap.size + 1) (n := 1) (by omega) rfl
            have hlc : 9 * ps.length ≤ 1000000000 := by omega
            go_wp2_with (at_builtin; refine wpList_append_any _ rfl (.tmp 79) (.tmp 86) 36 rfl w.heap.size 22 i0 (.slice none 0 0) 1 24 Try.underlying36 hi hz0 hz1 hz2 rfl (by decide) _ _ _ rfl hown5 _ _ 1 1 _ rfl hrd (by intro u hu; simp at hu; subst hu; rfl) (by unfold maxLen; omega) (by omega) (by simp; have := hb4.size; omega) ?_)
            intro v5 w5 hown6 hg5 hvb
            have hg35 := hA.trans hg5
            have hb5 := below_own hb4 hb4.size (Nat.le_refl _) hown4 hg35
            have hps5 := (hps4.snoc hpay).move (N' := v5.ownBlock) hg35 (by
              intro g hg
              rcases hvb with h | h
              · rw [h] at hg; exact .inl hg
              · rw [h] at hg; injection hg with hg; right; rw [← hg]; exact Nat.le_succ _)
            have i6 : (k : Int) + 8 + N ≤ n := by omega
            clear hA hg5 hg35 hown4 hown5 hrd hps4 hpay hb4
            go_wp2_with fail
            go_roundw
            case rel =>
              refine ⟨vs ++ [.slice Ap N cp], ps ++ [(r.drop 8).take N], k + 8 + N, by omega, hc, ?_, hps5, ?_, by go_num, ?_, hb5⟩
              · simpa using hown6
              · simp; omega
              · have hd : l.drop (k + 8 + N) = r.drop (8 + N) := by rw [HR.out, List.drop_drop]; congr 1; omega
                rw [HF.out, hd]; simp [Nat.add_assoc]
            case measure => simp [intOf]; omega
end Go.Proofs.Ytcppmmdkblmfoaa
