/- The walk of wal.Frames. -/
import Derived.Test.YtcppmmdkblmfoaaPaysL
import Derived.Test.YtcppmmdkblmfoaaFrames
import Derived.Test.YtcppmmdkblmfoaaClone
import Derived.Lib.QuietBelow
namespace Go.Proofs.Ytcppmmdkblmfoaa
open Go.RowKit

/-- The loop's relation in wal.Frames. -/
def FrRelL (w : World) (n : Nat) (B : Nat) (l : List UInt8) (s0 s4 s5 : Value) (wr : World) : Prop :=
  ∃ (A : Option Addr) (m c : Nat) (r : List UInt8) (vs : List Value) (ps : List (List UInt8)) (k : Nat), s0 = .slice A m c ∧ m ≤ c ∧ Reads wr B 1 A m (r.map byteV) ∧ k + m = n ∧
    wr.ownsRow w.heap.size 22 1 s4 ps.length vs ∧ PaysL w.heap.size wr s4.ownBlock vs ps ∧ 9 * ps.length ≤ k ∧ s5 = .int .i64 k ∧ frames l = (ps ++ (frames r).1, k + (frames r).2) ∧ Below w.heap.size w wr
def FrEndL (w : World) (l : List UInt8) (e : Ending) (w' : World) : Prop :=
  ∃ A c vs, e = .returned (.tuple #[.slice A (frames l).1.length c, .int .i64 (frames l).2]) ∧ w'.ownsRow w.heap.size 22 1 (.slice A (frames l).1.length c) (frames l).1.length vs ∧
    PaysL w.heap.size w' (Value.slice A (frames l).1.length c).ownBlock vs (frames l).1 ∧ Below w.heap.size w w'
set_option maxRecDepth 100000 in
set_option maxHeartbeats 400000 in
theorem framesL_any (A : Option Addr) (n c B : Nat) (l : List UInt8) (w : World) (hr : Reads w B 1 A n (l.map byteV)) (hB : B ≤ w.heap.size) (hn : n ≤ 1000000000) (hc : n ≤ c) :
    Calls Try.prog 17 #[.slice A n c] w (FrEndL w l) := by
  obtain ⟨i0, hi, hz0, hz1, hz2⟩ := info_parts Try.info22
  go_enter Try.func17, Try.ntmps17
  go_wp2
  go_loopw [0, 4, 5] (fun s0 s4 s5 wr => FrRelL w n B l s0 s4 s5 wr) (fun s0 _ _ _ => match s0 with | .slice _ m _ => m | _ => 0)
  case atStart => exact ⟨A, n, c, l, [], [], 0, rfl, hc, hr, by omega, World.ownsRow_nil _ _ _ _, PaysL.nil _ _ _, by simp, rfl, by simp, Below.refl _ _⟩
  case round =>
    obtain ⟨A, m, c, r, vs, ps, k, rfl, hmc, hrr, hk, hown, hps, h9, rfl, hf, hb⟩ := hrel
    obtain ⟨Al, cl, rfl⟩ := own_form hown
    have hml : r.length = m := by have := hrr.1; simpa using this
    by_cases h8 : m < 8
    · have h8' : ¬ (8 : Int) ≤ (m : Int) := by omega
      have hs : step1 r = none := by unfold step1; rw [if_pos (by omega)]
      rw [frames_none hs] at hf
      have HF := Lib.hid hf
      clear hf hs
      go_wp2
      go_ret2
      simp only [List.append_nil, Nat.add_zero] at HF
      unfold FrEndL
      rw [HF.out]
      exact ⟨Al, cl, vs, rfl, hown, hps, hb⟩
    · have h8' : (8 : Int) ≤ (m : Int) := by omega
      have hnl := rd4_lt r
      go_wp2_with fail
      refine (take_l A m c B r wr hrr (by omega)).mono ?_
      rintro e w1 ⟨rfl, q, rfl⟩
      have hq := below_drewN (Below.refl wr.heap.size wr) q
      have hrr1 := hrr.below (hq.mono (by have := hb.size; omega))
      have hown1 := own_below hown hq
      have hps1 := hps.below hq
      have hb1 := hb.trans (hq.mono hb.size)
      generalize wr.drewN q = w1 at *
      clear hq hrr hown hps hb wr
      by_cases hbad : rd4 r < 1 ∨ 1048576 < rd4 r ∨ m - 8 < rd4 r
      · have hs : step1 r = none := by unfold step1; rw [if_neg (by omega), if_pos (by omega)]
        rw [frames_none hs] at hf
        simp only [List.append_nil, Nat.add_zero] at hf
        have HF := Lib.hid hf
        clear hf hs
        generalize rd4 r = N at *
        have fin : FrEndL w l (.returned (.tuple #[.slice Al ps.length cl, .int .i64 k])) w1 := by
          unfold FrEndL
          rw [HF.out]
          exact ⟨Al, cl, vs, rfl, hown1, hps1, hb1⟩
        have FIN := Lib.hid fin
        clear fin HF hown1 hps1 hb1 hrr1
        by_cases g1 : N < 1
        · go_wp2_with fail
          go_ret2
          exact FIN.out
        · by_cases g2 : 1048576 < N
          · go_wp2_with fail
            go_ret2
            exact FIN.out
          · have g3 : m - 8 < N := by omega
            have g3' : (m : Int) - 8 < (N : Int) := by omega
            go_wp2_with fail
            go_ret2
            exact FIN.out
      · have g1 : ¬ rd4 r < 1 := by omega
        have g2 : ¬ 1048576 < rd4 r := by omega
        have g3 : ¬ ((m : Int) - 8 < (rd4 r : Int)) := by omega
        have g4 : 8 + rd4 r ≤ m := by omega
        clear hbad
        obtain ⟨N, hN⟩ : ∃ N, N = rd4 r := ⟨_, rfl⟩
        rw [← hN] at g1 g2 g3 g4 hnl
        have HN := Lib.hid hN
        rw [← hN]
        clear hN
        obtain ⟨b, o, rfl, hbl, hcl⟩ := hrr1.form (by omega)
        have hmB : B ≤ w1.heap.size := by have := hb1.size; omega
        have rP : Reads w1 B 1 (some ⟨b, o + 8, none⟩) N (((r.drop 8).take N).map byteV) := by
          have h := hrr1.cut (k := 8) (cap := c) (by omega) hmc
          rw [if_neg (by omega)] at h
          have h2 := h.take_ (k := N) (by omega)
          simpa [List.map_drop, List.map_take, addr_add] using h2
        have rT : Reads w1 B 1 (some ⟨b, o + 4, none⟩) (m - 4) ((r.drop 4).map byteV) := by
          have h := hrr1.cut (k := 4) (cap := c) (by omega) hmc
          rw [if_neg (by omega)] at h
          simpa [List.map_drop, addr_add] using h
        have cS : ∀ d os, Calls Try.prog 11 #[.slice (some ⟨b, o + 8, none⟩) N (c - 8)] (Go.Sort.grow (redrawn w1 d) os) fun e w'' => e = .returned (.int .u32 (Crc.sum (bytes ((r.drop 8).take N)) : Nat)) ∧ ∃ p : Regrown, w'' = Go.Sort.grow (redrawn w1 p.d) p.os :=
          fun d os => Calls.regrown_of (sum_any _ N _ B _ _ (rP.below ((below_regrown w1 d os).mono hmB)) (by have := (below_regrown w1 d os).size; omega) (by omega))
        have cT : ∀ d os, Calls Try.prog 35 #[.slice (some ⟨b, o + 4, none⟩) (m - 4) (c - 4)] (Go.Sort.grow (redrawn w1 d) os) fun e w'' => e = .returned (.int .u32 (rd4 (r.drop 4) : Nat)) ∧ ∃ p : Regrown, w'' = Go.Sort.grow (redrawn w1 p.d) p.os :=
          fun d os => Calls.regrown_of ((take_l _ (m - 4) _ B _ _ (rT.below ((below_regrown w1 d os).mono hmB)) (by omega)).mono fun e w' ⟨he, k, hk⟩ => ⟨he, by rw [hk]; exact below_drewN (Below.refl _ _) k⟩)
        have eN : 8 + N - 8 = N := by omega
        have hpl : ((r.drop 8).take N).length = N := by simp; omega
        by_cases hS : Crc.sum (bytes ((r.drop 8).take N)) = rd4 (r.drop 4)
        · have hs : step1 r = some ((r.drop 8).take N, r.drop (8 + N)) := by
            rw [HN.out] at g1 g2 g4 hS ⊢
            unfold step1; rw [if_neg (by omega), if_neg (by omega), if_pos hS]
          rw [frames_some hs, hpl] at hf
          have HF := Lib.hid hf
          have HP := Lib.hid hpl
          have HS := Lib.hid hS
          have b1 : (((Crc.sum (bytes ((r.drop 8).take N)) : Nat) : Int) != (rd4 (r.drop 4) : Nat)) = false := by simp [hS]
          clear hf hs hpl hS
          have q1 : (4 : Int) ≤ (m : Int) := by omega
          have q2 : 4 ≤ m := by omega
          have q3 : c ≠ 4 := by omega
          go_wp2_with fail
          refine wp_region_quiet_below (by kernel_rfl) (by kernel_rfl) ?_
          repeat (quiet_step (first | exact cS _ _ | exact cT _ _))
          refine wpQuiet_nil ?_
          intro _ hw'
          obtain ⟨⟨dq, osq⟩, hw''⟩ := hw'
          subst hw''
          have hq := below_regrown w1 dq osq
          have hrr2 := hrr1.below (hq.mono hmB)
          have rP2 := rP.below (hq.mono hmB)
          have hown2 := own_below hown1 hq
          have hps2 := hps1.below hq
          have hb2 := hb1.trans (hq.mono hb1.size)
          simp only
          generalize Go.Sort.grow (redrawn w1 dq) osq = w2 at *
          clear hq hrr1 hown1 hps1 hb1 rP rT cS cT hcl b1 hmB
          go_wp2_with fail
          refine (clone_ok _ N _ B _ w2 rP2 (by have := hb2.size; omega) (by omega) (by omega)).mono ?_
          rintro e w3 ⟨Ap, cp, rfl, hownp, hq⟩
          have hrr3 := hrr2.below (hq.mono (by have := hb2.size; omega))
          have hown3 := own_below hown2 hq
          have hps3 := hps2.below hq
          have hb3 := hb2.trans (hq.mono hb2.size)
          have hpay := PayL.of_own (lo := w.heap.size) (N := (Value.slice Al ps.length cl).ownBlock) hownp (own_le hownp) (by intro g hg; exact (hown2.lt g hg).2) hb2.size
          clear hownp hrr2 hown2 hps2 hb2 rP2
          have hA := World.grownBy_alloc w3 (.cells #[.slice Ap N cp] 22) (Value.slice Al ps.length cl).ownBlock
          have hown4 := hown3.alloc (.cells #[.slice Ap N cp] 22)
          have hrd := Reads.of_alloc w3 #[.slice Ap N cp] 22 (B := w3.heap.size + 1) (n := 1) (by omega) rfl
          have hlc : 9 * ps.length ≤ 1000000000 := by omega
          go_wp2_with (at_builtin; refine wpList_append_any _ rfl _ _ 36 rfl w.heap.size 22 i0 (.slice none 0 0) 1 24 Try.underlying36 hi hz0 hz1 hz2 rfl (by decide) _ _ _ rfl hown4 _ _ 1 1 _ rfl hrd ?c1 ?c2 ?c3 ?c4 ?_)
          case c1 => intro u hu; simp at hu; subst hu; rfl
          case c2 => unfold maxLen; omega
          case c3 => omega
          case c4 => simp; have := hb3.size; omega
          intro v5 w5 hown5 hg5 hvb
          have hg35 := hA.trans hg5
          have hb5 := below_own hb3 hb3.size (Nat.le_refl _) hown3 hg35
          have hrr5 := reads_own hrr3 (by have := hb3.size; omega) hB hown3 hg35
          have hps5 := (hps3.snoc hpay).move (N' := v5.ownBlock) hg35 (by
            intro g hg
            rcases hvb with h | h
            · rw [h] at hg; exact .inl hg
            · rw [h] at hg; injection hg with hg; right; rw [← hg]; exact Nat.le_succ _)
          clear hA hg5 hg35 hown4 hrd hown3 hrr3 hps3 hpay hb3
          go_wp2_with fail
          go_roundw
          case rel =>
            have hcut := hrr5.cut (k := 8 + N) (cap := c) (by omega) hmc
            refine ⟨_, _, _, r.drop (8 + N), vs ++ [.slice Ap N cp], ps ++ [(r.drop 8).take N], k + (8 + N), rfl, by omega, ?_, by omega, ?_, hps5, ?_, by go_num, ?_, hb5⟩
            · simpa [List.map_drop, addr_add] using hcut
            · simpa using hown5
            · simp; omega
            · rw [HF.out]; simp [Nat.add_assoc]
          case measure => simp; omega
        · have hs : step1 r = none := by
            rw [HN.out] at g1 g2 g4 hS
            unfold step1; rw [if_neg (by omega), if_neg (by omega), if_neg hS]
          rw [frames_none hs] at hf
          simp only [List.append_nil, Nat.add_zero] at hf
          have HF := Lib.hid hf
          have b1 : (((Crc.sum (bytes ((r.drop 8).take N)) : Nat) : Int) != (rd4 (r.drop 4) : Nat)) = true := by simpa using fun h => hS (by omega)
          clear hf hs hpl hS
          have q1 : (4 : Int) ≤ (m : Int) := by omega
          have q2 : 4 ≤ m := by omega
          have q3 : c ≠ 4 := by omega
          go_wp2_with fail
          refine wp_region_quiet_below (by kernel_rfl) (by kernel_rfl) ?_
          repeat (quiet_step (first | exact cS _ _ | exact cT _ _))
          refine wpQuiet_nil ?_
          intro _ hw'
          obtain ⟨⟨dq, osq⟩, hw''⟩ := hw'
          subst hw''
          have hq := below_regrown w1 dq osq
          have hown2 := own_below hown1 hq
          have hps2 := hps1.below hq
          have hb2 := hb1.trans (hq.mono hb1.size)
          simp only
          generalize Go.Sort.grow (redrawn w1 dq) osq = w2 at *
          have fin : FrEndL w l (.returned (.tuple #[.slice Al ps.length cl, .int .i64 k])) w2 := by
            unfold FrEndL
            rw [HF.out]
            exact ⟨Al, cl, vs, rfl, hown2, hps2, hb2⟩
          have FIN := Lib.hid fin
          clear hq hrr1 hown1 hps1 hb1 rP rT cS cT hcl b1 hmB hown2 hps2 hb2 fin HF
          go_wp2_with fail
          go_ret2
          exact FIN.out
end Go.Proofs.Ytcppmmdkblmfoaa
