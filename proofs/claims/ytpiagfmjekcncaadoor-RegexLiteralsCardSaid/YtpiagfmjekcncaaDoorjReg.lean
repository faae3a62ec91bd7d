/- Blocks that hold a regular expression; the walks of regex.one, dot. -/
import Derived.Test.YtpiagfmjekcncaaDoorjLsP
import Derived.Test.YtpiagfmjekcncaaDoorjShelf
set_option linter.unusedVariables false
set_option linter.unusedSimpArgs false
set_option linter.unusedSectionVars false
namespace Go.Proofs.YtpiagfmjekcncaaDoor
open Go.RowKit
/-- Block g holds eight cells of a regular expression. -/
def R8 (w : World) (g : Nat) (v0 v1 v2 v3 v4 v5 v6 v7 : Value) : Prop := Blk w g 27 #[v0, v1, v2, v3, v4, v5, v6, v7]
section
variable {w : World} {g : Nat} {v0 v1 v2 v3 v4 v5 v6 v7 : Value}
theorem R8.cells (h : R8 w g v0 v1 v2 v3 v4 v5 v6 v7) : ((w.cell? ⟨g, 0, none⟩ = some v0 ∧ w.cell? ⟨g, 1, none⟩ = some v1) ∧ (w.cell? ⟨g, 2, none⟩ = some v2 ∧ w.cell? ⟨g, 3, none⟩ = some v3)) ∧ ((w.cell? ⟨g, 4, none⟩ = some v4 ∧ w.cell? ⟨g, 5, none⟩ = some v5) ∧ (w.cell? ⟨g, 6, none⟩ = some v6 ∧ w.cell? ⟨g, 7, none⟩ = some v7)) :=
  ⟨⟨⟨Blk.cell h 0, Blk.cell h 1⟩, Blk.cell h 2, Blk.cell h 3⟩, ⟨Blk.cell h 4, Blk.cell h 5⟩, Blk.cell h 6, Blk.cell h 7⟩
theorem R8.free (h : R8 w g v0 v1 v2 v3 v4 v5 v6 v7) : ((w.frozen? ⟨g, 0, none⟩ = false ∧ w.frozen? ⟨g, 1, none⟩ = false) ∧ (w.frozen? ⟨g, 2, none⟩ = false ∧ w.frozen? ⟨g, 3, none⟩ = false)) ∧ ((w.frozen? ⟨g, 4, none⟩ = false ∧ w.frozen? ⟨g, 5, none⟩ = false) ∧ (w.frozen? ⟨g, 6, none⟩ = false ∧ w.frozen? ⟨g, 7, none⟩ = false)) :=
  ⟨⟨⟨Blk.frozen h 0, Blk.frozen h 1⟩, Blk.frozen h 2, Blk.frozen h 3⟩, ⟨Blk.frozen h 4, Blk.frozen h 5⟩, Blk.frozen h 6, Blk.frozen h 7⟩
/-- Eight stores. -/
def set8 (w : World) (g : Nat) (u0 u1 u2 u3 u4 u5 u6 u7 : Value) : World :=
  (((((((w.setCell ⟨g, 0, none⟩ u0).setCell ⟨g, 1, none⟩ u1).setCell ⟨g, 2, none⟩ u2).setCell ⟨g, 3, none⟩ u3).setCell ⟨g, 4, none⟩ u4).setCell ⟨g, 5, none⟩ u5).setCell ⟨g, 6, none⟩ u6).setCell ⟨g, 7, none⟩ u7
theorem R8.s0 (h : R8 w g v0 v1 v2 v3 v4 v5 v6 v7) (u : Value) : R8 (w.setCell ⟨g, 0, none⟩ u) g u v1 v2 v3 v4 v5 v6 v7 := Blk.set_ h 0 u
theorem R8.s1 (h : R8 w g v0 v1 v2 v3 v4 v5 v6 v7) (u : Value) : R8 (w.setCell ⟨g, 1, none⟩ u) g v0 u v2 v3 v4 v5 v6 v7 := Blk.set_ h 1 u
theorem R8.s2 (h : R8 w g v0 v1 v2 v3 v4 v5 v6 v7) (u : Value) : R8 (w.setCell ⟨g, 2, none⟩ u) g v0 v1 u v3 v4 v5 v6 v7 := Blk.set_ h 2 u
theorem R8.s3 (h : R8 w g v0 v1 v2 v3 v4 v5 v6 v7) (u : Value) : R8 (w.setCell ⟨g, 3, none⟩ u) g v0 v1 v2 u v4 v5 v6 v7 := Blk.set_ h 3 u
theorem R8.s4 (h : R8 w g v0 v1 v2 v3 v4 v5 v6 v7) (u : Value) : R8 (w.setCell ⟨g, 4, none⟩ u) g v0 v1 v2 v3 u v5 v6 v7 := Blk.set_ h 4 u
theorem R8.s5 (h : R8 w g v0 v1 v2 v3 v4 v5 v6 v7) (u : Value) : R8 (w.setCell ⟨g, 5, none⟩ u) g v0 v1 v2 v3 v4 u v6 v7 := Blk.set_ h 5 u
theorem R8.s6 (h : R8 w g v0 v1 v2 v3 v4 v5 v6 v7) (u : Value) : R8 (w.setCell ⟨g, 6, none⟩ u) g v0 v1 v2 v3 v4 v5 u v7 := Blk.set_ h 6 u
theorem R8.s7 (h : R8 w g v0 v1 v2 v3 v4 v5 v6 v7) (u : Value) : R8 (w.setCell ⟨g, 7, none⟩ u) g v0 v1 v2 v3 v4 v5 v6 u := Blk.set_ h 7 u
theorem R8.all (h : R8 w g v0 v1 v2 v3 v4 v5 v6 v7) (u0 u1 u2 u3 u4 u5 u6 u7 : Value) : R8 (set8 w g u0 u1 u2 u3 u4 u5 u6 u7) g u0 u1 u2 u3 u4 u5 u6 u7 :=
  (((((((h.s0 u0).s1 u1).s2 u2).s3 u3).s4 u4).s5 u5).s6 u6).s7 u7
theorem R8.below {B : Nat} {w' : World} (h : R8 w g v0 v1 v2 v3 v4 v5 v6 v7) (hb : Below B w w') (hg : g < B) : R8 w' g v0 v1 v2 v3 v4 v5 v6 v7 := Blk.below h hb hg
theorem R8.kept {F : Nat → Prop} {w' : World} (h : R8 w g v0 v1 v2 v3 v4 v5 v6 v7) (hb : Kept F w w') (hg : ¬ F g) : R8 w' g v0 v1 v2 v3 v4 v5 v6 v7 := Blk.kept h hb hg
theorem R8.alloc (h : R8 w g v0 v1 v2 v3 v4 v5 v6 v7) (o : Obj) : R8 (w.alloc o) g v0 v1 v2 v3 v4 v5 v6 v7 := Blk.alloc h o
theorem R8.lt (h : R8 w g v0 v1 v2 v3 v4 v5 v6 v7) : g < w.heap.size := Blk.lt h
theorem LBlk.below {B : Nat} {w' : World} {S : LS} (h : LBlk w g S) (hb : Below B w w') (hg : g < B) : LBlk w' g S := Blk.below h hb hg
theorem R8.mk0 (w : World) (g : Nat) (hg : g = w.heap.size) : R8 (w.alloc (.cells #[.int .i64 0, .int .u64 0, .int .u64 0, .int .u64 0, .int .u64 0, .int .i64 0, .int .i64 0, .slice none 0 0] 27)) g (.int .i64 0) (.int .u64 0) (.int .u64 0) (.int .u64 0) (.int .u64 0) (.int .i64 0) (.int .i64 0) (.slice none 0 0) := by subst hg; exact Blk.new _ _ _
theorem below_set8 {B : Nat} {w' : World} (h : Below B w w') (hg : B ≤ g) (u0 u1 u2 u3 u4 u5 u6 u7 : Value) : Below B w (set8 w' g u0 u1 u2 u3 u4 u5 u6 u7) :=
  (((((((h.setCell hg u0).setCell hg u1).setCell hg u2).setCell hg u3).setCell hg u4).setCell hg u5).setCell hg u6).setCell hg u7
theorem kept_set8 {F : Nat → Prop} {w' : World} (h : Kept F w w') (hg : F g ∨ w.heap.size ≤ g) (u0 u1 u2 u3 u4 u5 u6 u7 : Value) : Kept F w (set8 w' g u0 u1 u2 u3 u4 u5 u6 u7) :=
  (((((((h.setCell (p := ⟨g, 0, none⟩) hg u0).setCell (p := ⟨g, 1, none⟩) hg u1).setCell (p := ⟨g, 2, none⟩) hg u2).setCell (p := ⟨g, 3, none⟩) hg u3).setCell (p := ⟨g, 4, none⟩) hg u4).setCell (p := ⟨g, 5, none⟩) hg u5).setCell (p := ⟨g, 6, none⟩) hg u6).setCell (p := ⟨g, 7, none⟩) hg u7
theorem Blk.set8 {g' : Nat} {t : TypeId} {cs : Array Value} (h : Blk w g' t cs) (hg : g' ≠ g) (u0 u1 u2 u3 u4 u5 u6 u7 : Value) : Blk (set8 w g u0 u1 u2 u3 u4 u5 u6 u7) g' t cs :=
  (((((((h.far hg u0).far hg u1).far hg u2).far hg u3).far hg u4).far hg u5).far hg u6).far hg u7
end
/-- A set by value. -/
def setV (S : LS) : Value := .agg #[.int .i64 2, .int .u64 (wd S 0), .int .u64 (wd S 1), .int .u64 (wd S 2), .int .u64 (wd S 3), .int .i64 0, .int .i64 0, .slice none 0 0]
def OneEnd (w : World) (S : LS) (e : Ending) (w' : World) : Prop := e = .returned (setV S) ∧ Below w.heap.size w w'
set_option maxHeartbeats 1000000 in
theorem one_any (b : UInt8) (w : World) : Calls Tryd.prog 22 #[.int .u8 b.toNat] w (OneEnd w (oneS b.toNat)) := by
  go_enter Tryd.func22, Tryd.ntmps22
  go_wp2_with fail
  have hb0 : Below w.heap.size w ((w.alloc (.cells #[.int .i64 0, .int .u64 0, .int .u64 0, .int .u64 0, .int .u64 0, .int .i64 0, .int .i64 0, .slice none 0 0] 27)).alloc (.cells #[.int .u8 b.toNat] 5)) := ((Below.refl _ _).alloc (Nat.le_refl _) _).alloc (by simp) _
  have hR0 := (R8.mk0 w w.heap.size rfl).alloc (.cells #[.int .u8 b.toNat] 5)
  refine (of_any b (w.heap.size + 1) _ (by simp) (by simp)).mono ?_
  rintro e w1 ⟨he, hb1⟩
  rw [lsV_eq] at he
  subst he
  have hR1 := hR0.below hb1 (by simp; omega)
  have hb : Below w.heap.size w w1 := hb0.trans (hb1.mono (by simp; omega))
  obtain ⟨⟨⟨c0, c1⟩, c2, c3⟩, ⟨c4, c5⟩, c6, c7⟩ := hR1.cells
  obtain ⟨⟨⟨f0, f1⟩, f2, f3⟩, ⟨f4, f5⟩, f6, f7⟩ := hR1.free
  have HF := Lib.hid (hR1.all (.int .i64 2) (.int .u64 (wd (oneS b.toNat) 0)) (.int .u64 (wd (oneS b.toNat) 1)) (.int .u64 (wd (oneS b.toNat) 2)) (.int .u64 (wd (oneS b.toNat) 3)) (.int .i64 0) (.int .i64 0) (.slice none 0 0))
  have HB := Lib.hid (below_set8 hb (Nat.le_refl w.heap.size) (.int .i64 2) (.int .u64 (wd (oneS b.toNat) 0)) (.int .u64 (wd (oneS b.toNat) 1)) (.int .u64 (wd (oneS b.toNat) 2)) (.int .u64 (wd (oneS b.toNat) 3)) (.int .i64 0) (.int .i64 0) (.slice none 0 0))
  clear hR0 hR1 hb hb0 hb1
  go_wp2_with fail
  obtain ⟨⟨⟨d0, d1⟩, d2, d3⟩, ⟨d4, d5⟩, d6, d7⟩ := HF.out.cells
  unfold set8 at d0 d1 d2 d3 d4 d5 d6 d7
  refine bodyPost_ret (v := setV (oneS b.toNat)) (by simp [results, Tryd.results22, go_sem, d0, d1, d2, d3, d4, d5, d6, d7, setV]) rfl ?_
  exact ⟨rfl, HB.out⟩
theorem of_ten (g : Nat) (w : World) (hg : g < w.heap.size) (hc : w.cell? ⟨g, 0, none⟩ = some (.int .u8 10)) : Calls Tryd.prog 42 #[.slice (some ⟨g, 0, none⟩) 1 1] w (LRes w (oneS 10)) := of_any 10 g w hg hc
set_option maxHeartbeats 1000000 in
theorem dot_any (w : World) : Calls Tryd.prog 61 #[] w (LRes w dotS) := by
  go_enter Tryd.func61, Tryd.ntmps61
  go_wp2_with fail
  have hb0 : Below w.heap.size w ((w.alloc (.cells #[.int .u64 0, .int .u64 0, .int .u64 0, .int .u64 0] 24)).alloc (.cells #[.int .u8 10] 5)) := ((Below.refl _ _).alloc (Nat.le_refl _) _).alloc (by simp) _
  have hR0 := (LBlk.mk0 w w.heap.size rfl).alloc (.cells #[.int .u8 10] 5)
  refine (of_ten (w.heap.size + 1) _ (by simp) (by simp)).mono ?_
  rintro e w1 ⟨he, hb1⟩
  subst he
  have hR1 := hR0.below hb1 (by simp; omega)
  have hb := hb0.trans (hb1.mono (by simp; omega))
  clear hR0 hb0 hb1
  go_wp2_with fail
  refine (not_any (oneS 10) w1).mono ?_
  rintro e w2 ⟨he, hb2⟩
  have hR2 := hR1.below hb2 (Blk.lt hR1)
  have hb' := hb.trans (hb2.mono hb.size)
  rw [lsV_eq] at he
  subst he
  clear hR1 hb hb2
  obtain ⟨⟨c0, c1⟩, c2, c3⟩ := hR2.cells
  obtain ⟨⟨f0, f1⟩, f2, f3⟩ := hR2.free
  have HZ := Lib.hid (hR2.all (notS (oneS 10)))
  have HZB := Lib.hid (below_all hb' (Nat.le_refl w.heap.size) (.int .u64 (wd (notS (oneS 10)) 0)) (.int .u64 (wd (notS (oneS 10)) 1)) (.int .u64 (wd (notS (oneS 10)) 2)) (.int .u64 (wd (notS (oneS 10)) 3)))
  clear hR2 hb'
  go_wp2_with fail
  obtain ⟨⟨d0, d1⟩, d2, d3⟩ := HZ.out.cells
  refine bodyPost_ret (v := lsV dotS) (by simp [results, Tryd.results61, go_sem, d0, d1, d2, d3, lsV, lsC, wds, dotS]) rfl ?_
  exact ⟨rfl, HZB.out⟩
end Go.Proofs.YtpiagfmjekcncaaDoor
