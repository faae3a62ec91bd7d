/- The walks of the document's functions on sets of letters: letters, one, negated, Of. -/
import Derived.Test.YtpiagfmjekcncaaDoorjGb
import Derived.Test.YtpiagfmjekcncaaDoorjRx
set_option linter.unusedVariables false
set_option linter.unusedSimpArgs false
set_option linter.unusedSectionVars false
namespace Go.Proofs.YtpiagfmjekcncaaDoor
open Go.RowKit
/-- The cells of a set of letters. -/
def setA (S : LS) : Array Value := ((List.range 256).map fun i => Value.bool (S i)).toArray
theorem setA_at (S : LS) (i : Nat) (hi : i < 256) : (setA S)[i]? = some (.bool (S i)) := by
  unfold setA
  rw [List.getElem?_toArray, List.getElem?_map, List.getElem?_range hi]
  rfl
theorem setA_size (S : LS) : (setA S).size = 256 := by unfold setA; simp
/-- The words of a set's first i letters. -/
def wUp (S : LS) (i q : Nat) : Nat := wdN S q (min (i - 64 * q) 64)
def wArr (S : LS) (i : Nat) : Array Value := #[.int .u64 (wUp S i 0), .int .u64 (wUp S i 1), .int .u64 (wUp S i 2), .int .u64 (wUp S i 3)]
theorem wUp_other {S : LS} {i q : Nat} (h : q ≠ i / 64) : wUp S (i + 1) q = wUp S i q := by
  unfold wUp
  rw [show min (i + 1 - 64 * q) 64 = min (i - 64 * q) 64 by omega]
theorem wUp_at (S : LS) (i : Nat) : wUp S (i + 1) (i / 64) = wUp S i (i / 64) + (if S i then 2 ^ (i % 64) else 0) := by
  unfold wUp
  rw [show min (i + 1 - 64 * (i / 64)) 64 = i % 64 + 1 by omega, show min (i - 64 * (i / 64)) 64 = i % 64 by omega, wdN, show 64 * (i / 64) + i % 64 = i by omega]
theorem wUp_no {S : LS} {i : Nat} (h : S i = false) (q : Nat) : wUp S (i + 1) q = wUp S i q := by
  by_cases hq : q = i / 64
  · subst hq; rw [wUp_at, h]; rfl
  · exact wUp_other hq
theorem wUp_zero (S : LS) (q : Nat) : wUp S 0 q = 0 := by unfold wUp; rw [Nat.zero_sub, Nat.zero_min]; rfl
theorem wUp_end (S : LS) {q : Nat} (h : q < 4) : wUp S 256 q = wd S q := by unfold wUp wd; rw [show min (256 - 64 * q) 64 = 64 by omega]
theorem wUp_lt (S : LS) (i : Nat) : wUp S i (i / 64) < 2 ^ (i % 64) := by
  unfold wUp
  rw [show min (i - 64 * (i / 64)) 64 = i % 64 by omega]
  exact wdN_lt S _ _
theorem wArr_at (S : LS) (i : Nat) {q : Nat} (h : q < 4) : (wArr S i)[q]? = some (.int .u64 (wUp S i q)) := by
  have : q = 0 ∨ q = 1 ∨ q = 2 ∨ q = 3 := by omega
  rcases this with rfl | rfl | rfl | rfl <;> rfl
theorem wArr_set (S : LS) (i : Nat) (hi : i < 256) : (wArr S i).setIfInBounds (i / 64) (.int .u64 (wUp S (i + 1) (i / 64) : Nat)) = wArr S (i + 1) := by
  have h : i / 64 = 0 ∨ i / 64 = 1 ∨ i / 64 = 2 ∨ i / 64 = 3 := by omega
  have o := fun q (hq : q ≠ i / 64) => wUp_other (S := S) hq
  unfold wArr
  rcases h with e | e | e | e
  · rw [e, o 1 (by omega), o 2 (by omega), o 3 (by omega)]; rfl
  · rw [e, o 0 (by omega), o 2 (by omega), o 3 (by omega)]; rfl
  · rw [e, o 0 (by omega), o 1 (by omega), o 3 (by omega)]; rfl
  · rw [e, o 0 (by omega), o 1 (by omega), o 2 (by omega)]; rfl
/-- The state of letters behind its first i rounds. -/
structure LtSt (S : LS) (A : Array Value) (w wr : World) (i : Nat) : Prop where
  a : Blk wr w.heap.size 95 A
  r : Blk wr (w.heap.size + 1) 24 #[.int .u64 0, .int .u64 0, .int .u64 0, .int .u64 0]
  o : Blk wr (w.heap.size + 1 + 1) 24 (wArr S i)
  b : Below w.heap.size w wr
set_option maxRecDepth 100000 in
set_option maxHeartbeats 4000000 in
theorem gletters_any (S : LS) (w : World) : Calls Tryd.prog 47 #[.agg (setA S)] w fun e w' => e = .returned (.agg #[.int .u64 (wd S 0), .int .u64 (wd S 1), .int .u64 (wd S 2), .int .u64 (wd S 3)]) ∧ Below w.heap.size w w' := by
  obtain ⟨A, hA⟩ : ∃ A, A = setA S := ⟨_, rfl⟩
  rw [← hA]
  have HAT := Lib.hid (fun i (hi : i < 256) => setA_at S i hi)
  rw [← hA] at HAT
  have hsz : A.size = 256 := by rw [hA]; exact setA_size S
  clear hA
  go_enter Tryd.func47, Tryd.ntmps47
  go_wp2_with fail
  go_loopg [4] 257 (fun f v wr => ∃ i : Nat, v = .int .i64 i ∧ (i + f = 257 ∧ i ≤ 256) ∧ Hid (LtSt S A w wr i))
  case atStart =>
    refine ⟨0, rfl, ⟨rfl, by omega⟩, Lib.hid ⟨?_, ?_, ?_, ?_⟩⟩
    · exact ((Blk.new w _ A).alloc _).alloc _
    · have := (Blk.new (w.alloc (.cells A 95)) 24 #[.int .u64 0, .int .u64 0, .int .u64 0, .int .u64 0]).alloc (.cells #[.int .u64 0, .int .u64 0, .int .u64 0, .int .u64 0] 24)
      simpa using this
    · have := Blk.new ((w.alloc (.cells A 95)).alloc (.cells #[.int .u64 0, .int .u64 0, .int .u64 0, .int .u64 0] 24)) 24 #[.int .u64 0, .int .u64 0, .int .u64 0, .int .u64 0]
      unfold wArr
      rw [wUp_zero, wUp_zero, wUp_zero, wUp_zero]
      simpa using this
    · exact (((Below.refl _ w).alloc (Nat.le_refl _) _).alloc (by simp) _).alloc (by simp; omega) _
  case round =>
    obtain ⟨i, rfl, ⟨hif, hi256⟩, hst⟩ := hrel
    obtain ⟨f, rfl⟩ : ∃ f, gk = f + 1 := ⟨gk - 1, by omega⟩
    by_cases hlt : i < 256
    · have e0 : decide ((i : Int) < 256) = true := by simp; omega
      have ca := (Blk.cell hst.out.a i).trans (HAT.out i hlt)
      have hq4 : i / 64 < 4 := by omega
      have co := (Blk.cell hst.out.o (i / 64)).trans (wArr_at S i hq4)
      have fo := Blk.frozen hst.out.o (i / 64)
      cases hS : S i with
      | true =>
        rw [hS] at ca
        have hv : (IntKind.u64.wrap ((wUp S i (i / 64) : Int) + IntKind.u64.wrap (2 ^ (i % 64)))) = ((wUp S (i + 1) (i / 64) : Nat) : Int) := by
          have h1 := wUp_lt S i
          have h2 : 2 ^ (i % 64) ≤ 2 ^ 63 := Nat.pow_le_pow_right (by omega) (by omega)
          rw [wUp_at, hS, if_pos rfl]
          have e : ((2 : Int) ^ (i % 64)) = ((2 ^ (i % 64) : Nat) : Int) := by push_cast; rfl
          rw [show IntKind.u64.wrap ((2 : Int) ^ (i % 64)) = ((2 ^ (i % 64) : Nat) : Int) by rw [e]; exact IntWalk.u64_in _ (by omega), IntWalk.u64_in _ (by omega)]
          omega
        have HN := Lib.hid (show LtSt S A w (wr.setCell ⟨w.heap.size + 1 + 1, i / 64, none⟩ (.int .u64 (IntKind.u64.wrap ((wUp S i (i / 64) : Int) + IntKind.u64.wrap (2 ^ (i % 64)))))) (i + 1) from by
          rw [hv]
          refine ⟨Blk.far hst.out.a (p := ⟨w.heap.size + 1 + 1, i / 64, none⟩) (by show w.heap.size ≠ w.heap.size + 1 + 1; omega) _, Blk.far hst.out.r (p := ⟨w.heap.size + 1 + 1, i / 64, none⟩) (by show w.heap.size + 1 ≠ w.heap.size + 1 + 1; omega) _, ?_, hst.out.b.setCell (by show w.heap.size ≤ w.heap.size + 1 + 1; omega) _⟩
          have := Blk.set_ hst.out.o (i / 64) (.int .u64 (wUp S (i + 1) (i / 64) : Nat))
          rw [wArr_set S i hlt] at this
          exact this)
        clear hS hst hv
        go_wp2_with fail
        go_roundg f
        case measure => omega
        case rel => exact ⟨i + 1, by rw [show ((i + 1 : Nat) : Int) = (i : Int) + 1 by omega], ⟨by omega, by omega⟩, HN⟩
      | false =>
        rw [hS] at ca
        have HN := Lib.hid (show LtSt S A w wr (i + 1) from ⟨hst.out.a, hst.out.r, by
          have := hst.out.o
          unfold wArr at this ⊢
          rw [wUp_no hS, wUp_no hS, wUp_no hS, wUp_no hS]
          exact this, hst.out.b⟩)
        clear hS hst
        go_wp2_with fail
        go_roundg f
        case measure => omega
        case rel => exact ⟨i + 1, by rw [show ((i + 1 : Nat) : Int) = (i : Int) + 1 by omega], ⟨by omega, by omega⟩, HN⟩
    · obtain rfl : i = 256 := by omega
      have e0 : decide (((256 : Nat) : Int) < 256) = false := by decide
      have c0 := (Blk.cell hst.out.o 0).trans (wArr_at S 256 (q := 0) (by omega))
      have c1 := (Blk.cell hst.out.o 1).trans (wArr_at S 256 (q := 1) (by omega))
      have c2 := (Blk.cell hst.out.o 2).trans (wArr_at S 256 (q := 2) (by omega))
      have c3 := (Blk.cell hst.out.o 3).trans (wArr_at S 256 (q := 3) (by omega))
      rw [wUp_end S (by omega)] at c0 c1 c2 c3
      have f0 := Blk.frozen hst.out.r 0
      have f1 := Blk.frozen hst.out.r 1
      have f2 := Blk.frozen hst.out.r 2
      have f3 := Blk.frozen hst.out.r 3
      have r0 := Blk.cell hst.out.r 0
      have r1 := Blk.cell hst.out.r 1
      have r2 := Blk.cell hst.out.r 2
      have r3 := Blk.cell hst.out.r 3
      simp only [List.getElem?_toArray, List.getElem?_cons_zero, List.getElem?_cons_succ] at r0 r1 r2 r3
      have h9 := Blk.set_ (Blk.set_ (Blk.set_ (Blk.set_ hst.out.r 0 (.int .u64 (wd S 0))) 1 (.int .u64 (wd S 1))) 2 (.int .u64 (wd S 2))) 3 (.int .u64 (wd S 3))
      have hb9 := (((hst.out.b.setCell (p := ⟨w.heap.size + 1, 0, none⟩) (by show w.heap.size ≤ w.heap.size + 1; omega) (.int .u64 (wd S 0))).setCell (p := ⟨w.heap.size + 1, 1, none⟩) (by show w.heap.size ≤ w.heap.size + 1; omega) (.int .u64 (wd S 1))).setCell (p := ⟨w.heap.size + 1, 2, none⟩) (by show w.heap.size ≤ w.heap.size + 1; omega) (.int .u64 (wd S 2))).setCell (p := ⟨w.heap.size + 1, 3, none⟩) (by show w.heap.size ≤ w.heap.size + 1; omega) (.int .u64 (wd S 3))
      obtain ⟨w9, hw9⟩ : ∃ w9, w9 = (((wr.setCell ⟨w.heap.size + 1, 0, none⟩ (.int .u64 (wd S 0))).setCell ⟨w.heap.size + 1, 1, none⟩ (.int .u64 (wd S 1))).setCell ⟨w.heap.size + 1, 2, none⟩ (.int .u64 (wd S 2))).setCell ⟨w.heap.size + 1, 3, none⟩ (.int .u64 (wd S 3)) := ⟨_, rfl⟩
      rw [← hw9] at h9 hb9
      have H9 := Lib.hid h9
      have HB9 := Lib.hid hb9
      have HW9 := Lib.hid hw9
      clear h9 hb9 hw9 hst
      go_wp2_with fail
      rw [← HW9.out]
      have d0 := Blk.cell H9.out 0
      have d1 := Blk.cell H9.out 1
      have d2 := Blk.cell H9.out 2
      have d3 := Blk.cell H9.out 3
      simp at d0 d1 d2 d3
      refine bodyPost_ret (v := .agg #[.int .u64 (wd S 0), .int .u64 (wd S 1), .int .u64 (wd S 2), .int .u64 (wd S 3)]) (by simp [results, Tryd.results47, go_sem, d0, d1, d2, d3]) rfl ?_
      exact ⟨rfl, HB9.out⟩
end Go.Proofs.YtpiagfmjekcncaaDoor
