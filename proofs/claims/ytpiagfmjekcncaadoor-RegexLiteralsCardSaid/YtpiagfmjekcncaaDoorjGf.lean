/- The walks of the document's negated and Of. -/
import Derived.Test.YtpiagfmjekcncaaDoorjGe
set_option linter.unusedVariables false
set_option linter.unusedSimpArgs false
set_option linter.unusedSectionVars false
namespace Go.Proofs.YtpiagfmjekcncaaDoor
open Go.RowKit
/-- The first i letters turned. -/
def negUp (S : LS) (i : Nat) : LS := fun n => if n < i then !S n else S n
theorem negUp_end (S : LS) : setA (negUp S 256) = setA (notS S) := setA_congr fun i hi => by unfold negUp notS; rw [if_pos hi]
theorem negUp_zero (S : LS) : setA (negUp S 0) = setA S := setA_congr fun i _ => by unfold negUp; rw [if_neg (by omega)]
theorem negUp_step (S : LS) (i : Nat) (hi : i < 256) : (setA (negUp S i)).setIfInBounds i (.bool (!S i)) = setA (negUp S (i + 1)) := by
  rw [setA_set _ _ hi]
  refine setA_congr fun n _ => ?_
  unfold negUp
  by_cases h : n = i
  · subst h; rw [if_pos rfl, if_pos (by omega)]
  · rw [if_neg h]
    by_cases h2 : n < i
    · rw [if_pos h2, if_pos (by omega)]
    · rw [if_neg h2, if_neg (by omega)]
theorem negUp_at (S : LS) (i : Nat) : negUp S i i = S i := by unfold negUp; rw [if_neg (by omega)]
structure NgSt (S : LS) (w wr : World) (i : Nat) : Prop where
  a : Blk wr w.heap.size 95 (setA (negUp S i))
  r : Blk wr (w.heap.size + 1) 95 (setA noneS)
  b : Below w.heap.size w wr
theorem set_info (S : LS) : ((Tryd.prog).info? 95).map (·.size) = some (setA S).size := by rw [setA_size]; kernel_rfl
theorem setV_ret {fn : Func} {p : Tmp} (h : fn.results = #[.cell p 95]) (tmps : Array Value) (w : World) (g : Nat) (S : LS) (hp : tmps.getD p undef = .pointer (some ⟨g, 0, none⟩)) (hg : Blk w g 95 (setA S)) :
    (results fn tmps).run Tryd.prog w = .ok (.agg (setA S)) w := results_cell_row h tmps w g 95 (setA S) (0, 0) _ hp hg Tryd.underlying95 rfl (set_info S)
set_option maxRecDepth 100000 in
set_option maxHeartbeats 4000000 in
theorem gnegated_any (S : LS) (w : World) : Calls Tryd.prog 75 #[.agg (setA S)] w fun e w' => e = .returned (.agg (setA (notS S))) ∧ Below w.heap.size w w' := by
  obtain ⟨A, hA⟩ : ∃ A, A = setA S := ⟨_, rfl⟩
  have HA := Lib.hid hA
  rw [← hA]
  clear hA
  go_enter Tryd.func75, Tryd.ntmps75
  go_wp2_with fail
  go_loopg [3] 257 (fun f v wr => ∃ i : Nat, v = .int .i64 i ∧ (i + f = 257 ∧ i ≤ 256) ∧ Hid (NgSt S w wr i))
  case atStart =>
    refine ⟨0, rfl, ⟨rfl, by omega⟩, Lib.hid ⟨?_, ?_, ?_⟩⟩
    · rw [negUp_zero, ← HA.out]
      exact (Blk.new w _ A).alloc _
    · have := Blk.new (w.alloc (.cells A 95)) 95 Tryd.zeroCells95
      rw [zero_set] at this ⊢
      simpa using this
    · exact ((Below.refl _ w).alloc (Nat.le_refl _) _).alloc (by simp) _
  case round =>
    obtain ⟨i, rfl, ⟨hif, hi256⟩, hst⟩ := hrel
    obtain ⟨f, rfl⟩ : ∃ f, gk = f + 1 := ⟨gk - 1, by omega⟩
    by_cases hlt : i < 256
    · have e0 : decide ((i : Int) < 256) = true := by simp; omega
      have ca := (Blk.cell hst.out.a i).trans (setA_at _ i hlt)
      have fa := Blk.frozen hst.out.a i
      rw [negUp_at] at ca
      have HN := Lib.hid (show NgSt S w (wr.setCell ⟨w.heap.size, i, none⟩ (.bool (!S i))) (i + 1) from by
        refine ⟨?_, Blk.far hst.out.r (p := ⟨w.heap.size, i, none⟩) (by show w.heap.size + 1 ≠ w.heap.size; omega) _, hst.out.b.setCell (by show w.heap.size ≤ w.heap.size; omega) _⟩
        have := Blk.set_ hst.out.a i (.bool (!S i))
        rw [negUp_step S i hlt] at this
        exact this)
      clear hst
      go_wp2_with fail
      go_roundg f
      case measure => omega
      case rel => exact ⟨i + 1, by rw [show ((i + 1 : Nat) : Int) = (i : Int) + 1 by omega], ⟨by omega, by omega⟩, HN⟩
    · obtain rfl : i = 256 := by omega
      have e0 : decide (((256 : Nat) : Int) < 256) = false := by decide
      obtain ⟨h1, h2, h3⟩ := hst.out
      rw [negUp_end] at h1
      have H9 := Lib.hid (Blk.row (cs := setA (notS S)) h2)
      have HB9 := Lib.hid (below_row (cs := setA (notS S)) (g := w.heap.size + 1) h3 (by omega))
      have H1 := Lib.hid h1
      have H2 := Lib.hid h2
      clear h1 h2 h3 hst
      go_wp2_with (first | refine wpList_load_row rfl 95 _ rfl w.heap.size rfl 95 (setA (notS S)) (0, 0) _ H1.out Tryd.underlying95 rfl (set_info _) ?_ | refine wpList_store_row rfl 95 _ _ rfl (w.heap.size + 1) (setA (notS S)) rfl rfl 95 (setA noneS) H2.out (set_info _) (by rw [setA_size, setA_size]) (setA_all _) ?_)
      refine bodyPost_ret (setV_ret rfl _ _ _ _ rfl H9.out) rfl ?_
      exact ⟨rfl, HB9.out⟩
end Go.Proofs.YtpiagfmjekcncaaDoor
