/- The walks of the document's one and negated; rows of cells loaded and stored whole. -/
import Derived.Test.YtpiagfmjekcncaaDoorjGd
import Derived.Test.YtpiagfmjekcncaaDoorjRx
import Derived.Test.YtpiagfmjekcncaaDoorjReg
import Derived.Laws.Tables
import Derived.Laws.Rows
set_option linter.unusedVariables false
set_option linter.unusedSimpArgs false
set_option linter.unusedSectionVars false
namespace Go.Proofs.YtpiagfmjekcncaaDoor
open Go.RowKit
section
variable {P : Program} {w : World} {g n : Nat} {t : TypeId} {cs old : Array Value}
theorem ld_row (h : Blk w g t cs) (hn : cs.size = n) : (loadCellsFrom ⟨g, 0, none⟩ 0 n #[]).run P w = .ok cs w := by
  subst hn
  have := run_loadCells_list (P := P) w ⟨g, 0, none⟩ cs.toList (fun j v hv => by
    have hadd : (⟨g, 0, none⟩ : Addr).add j = ⟨g, j, none⟩ := by unfold Addr.add; split <;> simp_all
    rw [hadd, Blk.cell h]
    simpa using hv)
  simpa [loadCells] using this
theorem st_row (h : Blk w g t old) (ho : old.size = cs.size) (h1 : cs.all (·.oneCell') = true) : (storeCells ⟨g, 0, none⟩ cs.toList 0).run P w = .ok () (w.setRow g cs) :=
  run_storeCells_from (P := P) g t cs.toList 0 old w h (by simp; omega) (fun v hv => (Array.all_eq_true_iff_forall_mem.1 h1) v (by simpa using hv))
theorem Blk.row (h : Blk w g t old) : Blk (w.setRow g cs) g t cs := setRow_heap w g old cs t (0, 0) h
theorem Blk.row_far {g' : Nat} (h : Blk w g t old) (hg : g ≠ g') : Blk (w.setRow g' cs) g t old := (setRow_other w g' g cs hg).trans h
theorem below_row {B : Nat} {w0 : World} (h : Below B w0 w) (hg : B ≤ g) : Below B w0 (w.setRow g cs) :=
  h.trans ⟨rfl, rfl, rfl, by rw [setRow_size]; exact Nat.le_refl _, fun i hi => setRow_other w g i cs (by omega)⟩
end
theorem setA_all (S : LS) : (setA S).all (·.oneCell') = true := by
  rw [Array.all_eq_true_iff_forall_mem]
  intro v hv
  unfold setA at hv
  simp at hv
  obtain ⟨i, _, rfl⟩ := hv
  rfl
theorem setA_set (S : LS) (i : Nat) (hi : i < 256) (b : Bool) : (setA S).setIfInBounds i (.bool b) = setA (fun n => if n = i then b else S n) := by
  apply Array.ext
  · rw [Array.size_setIfInBounds, setA_size, setA_size]
  · intro j h1 h2
    rw [setA_size] at h2
    have e1 : ((setA S).setIfInBounds i (.bool b))[j]? = some ((setA S).setIfInBounds i (.bool b))[j] := Array.getElem?_eq_getElem h1
    have e2 := setA_at (fun n => if n = i then b else S n) j h2
    by_cases hj : i = j
    · subst hj
      rw [Array.getElem_setIfInBounds_self]
      have := (Array.getElem?_eq_some_iff.1 e2).2
      rw [this, if_pos rfl]
    · rw [Array.getElem_setIfInBounds_ne _ hj]
      have := (Array.getElem?_eq_some_iff.1 e2).2
      rw [this, if_neg (fun e => hj e.symm)]
      exact (Array.getElem?_eq_some_iff.1 (setA_at S j h2)).2
theorem setA_congr {S R : LS} (h : ∀ i, i < 256 → S i = R i) : setA S = setA R := by
  unfold setA
  congr 1
  exact List.map_congr_left fun i hi => by rw [h i (List.mem_range.1 hi)]
set_option maxRecDepth 100000 in
theorem zero_set : Tryd.zeroCells95 = setA noneS := by kernel_rfl
set_option maxRecDepth 100000 in
set_option maxHeartbeats 4000000 in
theorem gone_any (b : UInt8) (w : World) : Calls Tryd.prog 28 #[.int .i64 b.toNat] w fun e w' => e = .returned (.agg #[.int .i64 2, .int .u64 (wd (oneS b.toNat) 0), .int .u64 (wd (oneS b.toNat) 1), .int .u64 (wd (oneS b.toNat) 2), .int .u64 (wd (oneS b.toNat) 3), .int .i64 0, .int .i64 0, .slice none 0 0]) ∧ Below w.heap.size w w' := by
  obtain ⟨hx0, hx1⟩ := u8b b
  obtain ⟨W, hW⟩ : ∃ W, W = w.alloc (.cells #[.int .i64 0, .int .u64 0, .int .u64 0, .int .u64 0, .int .u64 0, .int .i64 0, .int .i64 0, .slice none 0 0] 27) := ⟨_, rfl⟩
  have hR : Blk W w.heap.size 27 #[.int .i64 0, .int .u64 0, .int .u64 0, .int .u64 0, .int .u64 0, .int .i64 0, .int .i64 0, .slice none 0 0] := by rw [hW]; exact Blk.new _ _ _
  have hB : Below w.heap.size w W := by rw [hW]; exact (Below.refl _ w).alloc (Nat.le_refl _) _
  have hWs : W.heap.size = w.heap.size + 1 := by rw [hW]; simp
  obtain ⟨w1, hw1⟩ : ∃ w1, w1 = W.alloc (.cells Tryd.zeroCells95 95) := ⟨_, rfl⟩
  have hS1 : Blk w1 (w.heap.size + 1) 95 (setA noneS) := by rw [hw1, ← hWs, ← zero_set]; exact Blk.new _ _ _
  have hR1 : Blk w1 w.heap.size 27 #[.int .i64 0, .int .u64 0, .int .u64 0, .int .u64 0, .int .u64 0, .int .i64 0, .int .i64 0, .slice none 0 0] := by rw [hw1]; exact Blk.alloc hR _
  have hB1 : Below w.heap.size w w1 := by rw [hw1]; exact hB.alloc hB.size _
  have hb : b.toNat < 256 := by omega
  have hS2 := Blk.set_ hS1 b.toNat (.bool true)
  rw [setA_set _ _ hb, setA_congr (R := oneS b.toNat) (fun i _ => by unfold oneS noneS; by_cases h : i = b.toNat <;> simp [h])] at hS2
  have hR2 := Blk.far hR1 (p := ⟨w.heap.size + 1, b.toNat, none⟩) (by show w.heap.size ≠ w.heap.size + 1; omega) (.bool true)
  have hB2 := hB1.setCell (p := ⟨w.heap.size + 1, b.toNat, none⟩) (by show w.heap.size ≤ w.heap.size + 1; omega) (.bool true)
  have c1 := (Blk.cell hS1 b.toNat).trans (setA_at _ _ hb)
  have f1 := Blk.frozen hS1 b.toNat
  obtain ⟨w2, hw2⟩ : ∃ w2, w2 = w1.setCell ⟨w.heap.size + 1, b.toNat, none⟩ (.bool true) := ⟨_, rfl⟩
  rw [← hw2] at hS2 hR2 hB2
  have HS2 := Lib.hid hS2
  have HL := Lib.hid (gletters_any (oneS b.toNat) w2)
  have HR2 := Lib.hid hR2
  have HB2 := Lib.hid hB2
  have HW := Lib.hid hW
  have HW1 := Lib.hid hw1
  have HW2 := Lib.hid hw2
  obtain ⟨A, hA⟩ : ∃ A, A = setA (oneS b.toNat) := ⟨_, rfl⟩
  rw [← hA] at HS2 HL
  have hAs : A.size = 256 := by rw [hA]; exact setA_size _
  have hAi : ((Tryd.prog).info? 95).map (·.size) = some A.size := by rw [hAs]; kernel_rfl
  obtain ⟨u0, hu0⟩ : ∃ u, u = wd (oneS b.toNat) 0 := ⟨_, rfl⟩
  obtain ⟨u1, hu1⟩ : ∃ u, u = wd (oneS b.toNat) 1 := ⟨_, rfl⟩
  obtain ⟨u2, hu2⟩ : ∃ u, u = wd (oneS b.toNat) 2 := ⟨_, rfl⟩
  obtain ⟨u3, hu3⟩ : ∃ u, u = wd (oneS b.toNat) 3 := ⟨_, rfl⟩
  rw [← hu0, ← hu1, ← hu2, ← hu3] at HL ⊢
  clear hR hB hWs hS1 hR1 hB1 hS2 hR2 hB2 hW hw1 hw2 hA hu0 hu1 hu2 hu3 hb
  go_enter Tryd.func28, Tryd.ntmps28
  go_upto_region 2 with (fail)
  rw [← HW.out, ← HW1.out]
  go_upto_region 3 with (fail)
  rw [← HW2.out]
  go_wp2_with (refine wpList_load_row rfl 95 (Operand.tmp 3) rfl (w.heap.size + 1) rfl 95 A (0, 0) _ HS2.out Tryd.underlying95 rfl hAi ?_)
  refine HL.out.mono ?_
  rintro e w3 ⟨rfl, hb3⟩
  have hR3 := HR2.out.below hb3 HR2.out.lt
  have HB3 := Lib.hid (HB2.out.trans (hb3.mono HB2.out.size))
  have hR3' : R8 w3 w.heap.size (.int .i64 0) (.int .u64 0) (.int .u64 0) (.int .u64 0) (.int .u64 0) (.int .i64 0) (.int .i64 0) (.slice none 0 0) := hR3
  obtain ⟨⟨⟨c10, c11⟩, c12, c13⟩, ⟨c14, c15⟩, c16, c17⟩ := hR3'.cells
  obtain ⟨⟨⟨f10, f11⟩, f12, f13⟩, ⟨f14, f15⟩, f16, f17⟩ := hR3'.free
  have HF := Lib.hid (hR3'.all (.int .i64 2) (.int .u64 u0) (.int .u64 u1) (.int .u64 u2) (.int .u64 u3) (.int .i64 0) (.int .i64 0) (.slice none 0 0))
  have HB := Lib.hid (below_set8 HB3.out (Nat.le_refl w.heap.size) (.int .i64 2) (.int .u64 u0) (.int .u64 u1) (.int .u64 u2) (.int .u64 u3) (.int .i64 0) (.int .i64 0) (.slice none 0 0))
  clear hb3 HL c1 f1 hR3 hR3'
  go_wp2_with fail
  obtain ⟨⟨⟨d0, d1⟩, d2, d3⟩, ⟨d4, d5⟩, d6, d7⟩ := HF.out.cells
  unfold set8 at d0 d1 d2 d3 d4 d5 d6 d7
  refine bodyPost_ret (v := .agg #[.int .i64 2, .int .u64 u0, .int .u64 u1, .int .u64 u2, .int .u64 u3, .int .i64 0, .int .i64 0, .slice none 0 0]) (by simp [results, Tryd.results28, go_sem, d0, d1, d2, d3, d4, d5, d6, d7]) rfl ?_
  exact ⟨rfl, HB.out⟩
end Go.Proofs.YtpiagfmjekcncaaDoor
