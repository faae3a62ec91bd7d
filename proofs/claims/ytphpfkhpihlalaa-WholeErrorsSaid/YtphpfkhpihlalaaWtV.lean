/- The walks of weight.Letter, weight.Valid. -/
import Derived.Test.YtphpfkhpihlalaaWt
import Derived.Deep.QuietTactic
import Derived.BigQuiet
namespace Go.Proofs.Ytphpfkhpihlalaa
open Go.RowKit
set_option maxRecDepth 100000 in
theorem wletter_any (b : UInt8) (w : World) : Calls Try.prog 88 #[.int .u8 b.toNat] w fun e w' => e = .returned (Wt.letter b).val ∧ Below w.heap.size w w' := by
  have hu := fun W => dletter_any b W
  obtain ⟨d, hd0⟩ : ∃ d, d = Dig.letter b := ⟨_, rfl⟩
  have HD0 := Lib.hid hd0
  rw [← hd0] at hu
  clear hd0
  unfold Dig.val at hu
  obtain ⟨v, hv⟩ : ∃ v : Int, v = d.v := ⟨_, rfl⟩
  obtain ⟨s, hs⟩ : ∃ s : Int, s = d.s := ⟨_, rfl⟩
  have HV := Lib.hid hv
  have HS := Lib.hid hs
  rw [← hv, ← hs] at hu
  clear hv hs
  by_cases hb : b = 10
  · have hd : (Wt.letter b).val = .agg #[.int .i64 1, .int .i64 1, .int .i64 0, .int .i64 0, .int .u64 v, .int .u64 s] := by simp [Wt.letter, hb, Wt.val, HV.out, HS.out, HD0.out]
    have hx : (b.toNat : Int) = 10 := by simp [hb]
    rw [hx] at hu ⊢
    clear hx
    have HD := Lib.hid hd
    clear hd
    go_enter Try.func88, Try.ntmps88
    go_upto_region 1 with (fail)
    obtain ⟨w1, hw1⟩ : ∃ w1, w1 = w.alloc (.cells #[.int .i64 0, .int .i64 0, .int .i64 0, .int .i64 0, .int .u64 0, .int .u64 0] 38) := ⟨_, rfl⟩
    have k1 : Blk w1 w.heap.size 38 #[.int .i64 0, .int .i64 0, .int .i64 0, .int .i64 0, .int .u64 0, .int .u64 0] := by rw [hw1]; exact Blk.new _ _ _
    have hq1 : Below w.heap.size w w1 := by rw [hw1]; exact (Below.refl _ _).alloc (Nat.le_refl _) _
    rw [← hw1]
    clear hw1
    go_wp2_with fail
    refine (hu _).mono ?_
    rintro e w2 ⟨rfl, hb2⟩
    have k2 := k1.below hb2 k1.lt
    have hq2 := hq1.trans (hb2.mono hq1.size)
    have z0 := k2.cell 0
    have z1 := k2.cell 1
    have z2 := k2.cell 2
    have z3 := k2.cell 3
    have z4 := k2.cell 4
    have z5 := k2.cell 5
    simp only [List.getElem?_toArray, List.getElem?_cons_zero, List.getElem?_cons_succ] at z0 z1 z2 z3 z4 z5
    have q0 := k2.frozen 0
    have q1 := k2.frozen 1
    have q2 := k2.frozen 2
    have q3 := k2.frozen 3
    have q4 := k2.frozen 4
    have q5 := k2.frozen 5
    clear hu
    go_wp2_with fail
    obtain ⟨wF, hwF⟩ : ∃ wF, wF = (setL w2 (w.heap.size) 0 [.int .i64 1, .int .i64 1, .int .i64 0, .int .i64 0, .int .u64 v, .int .u64 s]) := ⟨_, rfl⟩
    have kwF : Blk wF (w.heap.size) 38 #[.int .i64 1, .int .i64 1, .int .i64 0, .int .i64 0, .int .u64 v, .int .u64 s] := by rw [hwF]; exact (setL_blk k2 0 _)
    have bwF : Below w.heap.size w wF := by rw [hwF]; exact (setL_below hq2 (Nat.le_refl _) 0 _)
    simp only [setL, Nat.zero_add, Nat.reduceAdd] at hwF
    rw [← hwF]
    clear hwF
    have f0 := kwF.cell 0
    have f1 := kwF.cell 1
    have f2 := kwF.cell 2
    have f3 := kwF.cell 3
    have f4 := kwF.cell 4
    have f5 := kwF.cell 5
    simp only [List.getElem?_toArray, List.getElem?_cons_zero, List.getElem?_cons_succ] at f0 f1 f2 f3 f4 f5
    refine bodyPost_ret (v := .agg #[.int .i64 1, .int .i64 1, .int .i64 0, .int .i64 0, .int .u64 v, .int .u64 s]) (by simp [results, Try.results88, go_sem, f0, f1, f2, f3, f4, f5]) rfl ?_
    exact ⟨by rw [HD.out], bwF⟩
  · have hd : (Wt.letter b).val = .agg #[.int .i64 1, .int .i64 0, .int .i64 1, .int .i64 1, .int .u64 v, .int .u64 s] := by simp [Wt.letter, hb, Wt.val, HV.out, HS.out, HD0.out]
    have hx : ((b.toNat : Int) == 10) = false := by
      have : b.toNat ≠ 10 := fun h => hb (UInt8.toNat_inj.1 (by rw [h]; rfl))
      simp; omega
    have HD := Lib.hid hd
    clear hd
    go_enter Try.func88, Try.ntmps88
    go_upto_region 1 with (fail)
    obtain ⟨w1, hw1⟩ : ∃ w1, w1 = w.alloc (.cells #[.int .i64 0, .int .i64 0, .int .i64 0, .int .i64 0, .int .u64 0, .int .u64 0] 38) := ⟨_, rfl⟩
    have k1 : Blk w1 w.heap.size 38 #[.int .i64 0, .int .i64 0, .int .i64 0, .int .i64 0, .int .u64 0, .int .u64 0] := by rw [hw1]; exact Blk.new _ _ _
    have hq1 : Below w.heap.size w w1 := by rw [hw1]; exact (Below.refl _ _).alloc (Nat.le_refl _) _
    rw [← hw1]
    clear hw1
    go_wp2_with fail
    refine (hu _).mono ?_
    rintro e w2 ⟨rfl, hb2⟩
    have k2 := k1.below hb2 k1.lt
    have hq2 := hq1.trans (hb2.mono hq1.size)
    have z0 := k2.cell 0
    have z1 := k2.cell 1
    have z2 := k2.cell 2
    have z3 := k2.cell 3
    have z4 := k2.cell 4
    have z5 := k2.cell 5
    simp only [List.getElem?_toArray, List.getElem?_cons_zero, List.getElem?_cons_succ] at z0 z1 z2 z3 z4 z5
    have q0 := k2.frozen 0
    have q1 := k2.frozen 1
    have q2 := k2.frozen 2
    have q3 := k2.frozen 3
    have q4 := k2.frozen 4
    have q5 := k2.frozen 5
    clear hu
    go_wp2_with fail
    obtain ⟨wF, hwF⟩ : ∃ wF, wF = (setL w2 (w.heap.size) 0 [.int .i64 1, .int .i64 0, .int .i64 1, .int .i64 1, .int .u64 v, .int .u64 s]) := ⟨_, rfl⟩
    have kwF : Blk wF (w.heap.size) 38 #[.int .i64 1, .int .i64 0, .int .i64 1, .int .i64 1, .int .u64 v, .int .u64 s] := by rw [hwF]; exact (setL_blk k2 0 _)
    have bwF : Below w.heap.size w wF := by rw [hwF]; exact (setL_below hq2 (Nat.le_refl _) 0 _)
    simp only [setL, Nat.zero_add, Nat.reduceAdd] at hwF
    rw [← hwF]
    clear hwF
    have f0 := kwF.cell 0
    have f1 := kwF.cell 1
    have f2 := kwF.cell 2
    have f3 := kwF.cell 3
    have f4 := kwF.cell 4
    have f5 := kwF.cell 5
    simp only [List.getElem?_toArray, List.getElem?_cons_zero, List.getElem?_cons_succ] at f0 f1 f2 f3 f4 f5
    refine bodyPost_ret (v := .agg #[.int .i64 1, .int .i64 0, .int .i64 1, .int .i64 1, .int .u64 v, .int .u64 s]) (by simp [results, Try.results88, go_sem, f0, f1, f2, f3, f4, f5]) rfl ?_
    exact ⟨by rw [HD.out], bwF⟩
/-- The fields fit each other. -/
structure Wt.ok (x : Wt) : Prop where
  len0 : 0 ≤ x.len
  len1 : x.len ≤ 1152921504606846976
  lines0 : 0 ≤ x.lines
  none_ : x.lines = 0 → x.head = x.len ∧ x.tail = x.len
  some_ : x.lines ≠ 0 → 0 ≤ x.head ∧ x.head ≤ x.len ∧ 0 ≤ x.tail ∧ x.tail ≤ x.len - x.head ∧ x.lines ≤ x.len - x.head - x.tail ∧ (x.lines = 1 → x.len - x.head - x.tail = 1)
  v1 : x.dig.v < 2305843009213693951
  v0 : x.len = 0 → x.dig.v = 0
  s : x.dig.s = 1103515245 ^ x.len.toNat % mP
theorem Wt.ok.small {x : Wt} (h : x.ok) : x.dig.small := ⟨h.v1, by rw [h.s]; exact mP_lt _⟩
set_option maxRecDepth 100000 in
set_option maxHeartbeats 1000000 in
theorem wvalid_any (x : Wt) (w : World) (h : x.ok) : Calls Try.prog 97 #[x.val] w fun e w' => e = .returned (.bool true) ∧ Below w.heap.size w w' := by
  have hl := fun W => valid_any x.len W
  rw [show okL x.len = true by have := h.len0; have := h.len1; simp [okL]; omega] at hl
  have hp := fun W => pow_any 1103515245 x.len.toNat W (by decide) (by have := h.len1; omega)
  rw [← h.s] at hp
  have e1 : IntKind.u64.wrap x.len = ((x.len.toNat : Nat) : Int) := by rw [wrap_u64 _ h.len0 (by have := h.len1; omega)]; have := h.len0; omega
  obtain ⟨L, N, H, T, ⟨V, S⟩⟩ := x
  obtain ⟨h1, h2, h3, h4, h5, h6, h7, h8⟩ := h
  simp only at hl hp e1 h1 h2 h3 h4 h5 h6 h7
  clear h8
  have hV1 : ¬ ((2305843009213693951 : Int) ≤ (V : Int)) := by omega
  have hV0 : L = 0 → ((V : Int) = 0) := fun h => by have := h7 h; omega
  unfold Wt.val
  simp only
  have H2 := Lib.hid h2
  clear h2 h6 h7
  generalize (V : Int) = v at *
  generalize (S : Int) = s at *
  generalize ((L.toNat : Nat) : Int) = l at *
  go_enter Try.func97, Try.ntmps97
  go_upto_region 1 with (fail)
  obtain ⟨w1, hw1⟩ : ∃ w1, w1 = w.alloc (.cells #[.int .i64 L, .int .i64 N, .int .i64 H, .int .i64 T, .int .u64 v, .int .u64 s] 38) := ⟨_, rfl⟩
  have k1 : Blk w1 w.heap.size 38 #[.int .i64 L, .int .i64 N, .int .i64 H, .int .i64 T, .int .u64 v, .int .u64 s] := by rw [hw1]; exact Blk.new _ _ _
  have hq1 : Below w.heap.size w w1 := by rw [hw1]; exact (Below.refl _ _).alloc (Nat.le_refl _) _
  rw [← hw1]
  clear hw1
  have z0 := k1.cell 0
  have z1 := k1.cell 1
  have z2 := k1.cell 2
  have z3 := k1.cell 3
  have z4 := k1.cell 4
  have z5 := k1.cell 5
  simp only [List.getElem?_toArray, List.getElem?_cons_zero, List.getElem?_cons_succ] at z0 z1 z2 z3 z4 z5
  go_wp2_with fail
  refine (hl _).mono ?_
  clear hl
  rintro e w2 ⟨rfl, rfl⟩
  by_cases hN : N = 0
  · obtain ⟨e4, e5⟩ := h4 hN
    subst hN
    clear h4 h5
    subst e4
    subst e5
    by_cases hL : T = 0
    · have hv := hV0 hL
      subst hv
      subst hL
      clear hV0
      go_wp2_with fail
      go_quiet ((go_at_call 111; exact Calls.quiet_of_same (hp _)))
      go_wp2_with fail
      go_ret
      exact ⟨rfl, hq1.os, hq1.tape, hq1.output, hq1.size, hq1.block⟩
    · have hL2 : (T == 0) = false := by simpa using hL
      clear hV0
      go_wp2_with fail
      go_quiet ((go_at_call 111; exact Calls.quiet_of_same (hp _)))
      go_wp2_with fail
      go_ret
      exact ⟨rfl, hq1.os, hq1.tape, hq1.output, hq1.size, hq1.block⟩
  · obtain ⟨g1, g2, g3, g4, g5, g6⟩ := h5 hN
    have hN0 : (N == 0) = false := by simpa using hN
    have hL0 : (L == 0) = false := by simp; omega
    have b1 : ¬ (H < 0) := by omega
    have b2 : ¬ (L < H) := by omega
    have b3 : ¬ (T < 0) := by omega
    have b4 : ¬ (L - H < T) := by omega
    have b5 : ¬ (L - H - T < N) := by omega
    have b6 : ¬ (N < 0) := by omega
    have s1 : IntKind.i64.wrap (L - H) = L - H := IntWalk.i64_in _ (by have := H2.out; omega)
    have s2 : IntKind.i64.wrap (L - H - T) = L - H - T := IntWalk.i64_in _ (by have := H2.out; omega)
    clear h4 h5 hV0
    by_cases hN1 : N = 1
    · have g7 := g6 hN1
      clear g6
      have b7 : (N == 1) = true := by simpa using hN1
      have b8 : (L - H - T == 1) = true := by simpa using g7
      have b9 : (L - H - T != 1) = false := by simp [g7]
      clear hN1
      go_wp2_with fail
      go_quiet ((go_at_call 111; exact Calls.quiet_of_same (hp _)))
      go_wp2_with fail
      go_ret
      exact ⟨rfl, hq1.os, hq1.tape, hq1.output, hq1.size, hq1.block⟩
    · clear g6
      have b7 : (N == 1) = false := by simpa using hN1
      go_wp2_with fail
      go_quiet ((go_at_call 111; exact Calls.quiet_of_same (hp _)))
      go_wp2_with fail
      go_ret
      exact ⟨rfl, hq1.os, hq1.tape, hq1.output, hq1.size, hq1.block⟩
end Go.Proofs.Ytphpfkhpihlalaa
