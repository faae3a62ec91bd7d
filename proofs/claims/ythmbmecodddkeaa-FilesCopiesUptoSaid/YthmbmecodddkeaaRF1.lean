/- The walks of the reference's New, done, Find, Begin. -/
import Derived.Test.YthmbmecodddkeaaRFs
import Derived.Deep.CutRange
import Derived.Deep.RegionHeld3
namespace Go.Proofs.Ythmbmecodddkeaa
open Go.RowKit Go.WideMaps
def set3 (w : World) (g : Nat) (b0 b1 b2 : Value) : World := ((w.setCell ⟨g, 0, none⟩ b0).setCell ⟨g, 1, none⟩ b1).setCell ⟨g, 2, none⟩ b2
theorem set3_blk {w : World} {g : Nat} {t : TypeId} {a0 a1 a2 : Value} (h : Blk w g t #[a0, a1, a2]) (b0 b1 b2 : Value) : Blk (set3 w g b0 b1 b2) g t #[b0, b1, b2] := by
  have := ((h.set_ 0 b0).set_ 1 b1).set_ 2 b2
  simpa [set3] using this
theorem set3_kept (w : World) (g : Nat) (b0 b1 b2 : Value) : Kept (fun i => i = g) w (set3 w g b0 b1 b2) :=
  ((kept_set w g 0 b0).trans ((kept_set _ g 1 b1).mono fun _ hi => .inl hi)).trans ((kept_set _ g 2 b2).mono fun _ hi => .inl hi)
theorem set3_below {w w1 : World} {B g : Nat} (h : Below B w w1) (hB : B ≤ w1.heap.size) (hg : B ≤ g) (b0 b1 b2 : Value) : Below B w (set3 w1 g b0 b1 b2) :=
  (set3_kept w1 g b0 b1 b2).below h hB fun i hi => by have : i = g := hi; omega
def UpG (G : Nat → Prop) (n : Nat) : Nat → Prop := fun i => G i ∨ n ≤ i
/-- One system returned. -/
def Re1 (G : Nat → Prop) (w : World) (y : RY) (e : Ending) (w' : World) : Prop := ∃ v, e = .returned v ∧ RYM (UpG G w.heap.size) w' v y ∧ Below w.heap.size w w'
/-- A system and a number returned. -/
def Re2 (G : Nat → Prop) (w : World) (r : RY × Int) (e : Ending) (w' : World) : Prop := ∃ v, e = .returned (.tuple #[v, .int .i64 r.2]) ∧ RYM (UpG G w.heap.size) w' v r.1 ∧ Below w.heap.size w w'
/-- The two blocks that each function of the reference makes first: its system, and its result. -/
def two (w : World) (fv a b : Value) : World := (w.alloc (.cells #[fv, a, b] 52)).alloc (.cells #[.slice none 0 0, .int .i64 0, .bool false] 52)
theorem two_blk (w : World) (fv a b : Value) : Blk (two w fv a b) w.heap.size 52 #[fv, a, b] ∧ Blk (two w fv a b) (w.heap.size + 1) 52 #[.slice none 0 0, .int .i64 0, .bool false] ∧ Below w.heap.size w (two w fv a b) := by
  refine ⟨(Blk.new _ _ _).alloc _, ?_, ((Below.refl _ _).alloc (Nat.le_refl _) _).alloc (by simp) _⟩
  have := Blk.new (w.alloc (.cells #[fv, a, b] 52)) 52 #[.slice none 0 0, .int .i64 0, .bool false]
  simpa [two] using this
def y0 : RY := ⟨[], -1, false⟩
set_option maxRecDepth 100000 in
set_option maxHeartbeats 400000 in
theorem rnew_any (w : World) : Calls Try.prog 24 #[] w (Re1 (fun _ => False) w y0) := by
  go_enter Try.func24, Try.ntmps24
  go_wp2_with fail
  refine bodyPost_ret (v := .agg #[.slice none 0 0, .int .i64 (-1), .bool false]) (by simp [results, Try.results24, go_sem]) rfl ?_
  exact ⟨_, rfl, ⟨_, [], rfl, FsM.nil _ _, rfl⟩, (Below.refl _ _).alloc (Nat.le_refl _) _⟩
set_option maxRecDepth 100000 in
set_option maxHeartbeats 1000000 in
theorem rdone_any (G : Nat → Prop) (fv : Value) (l : List PF) (y : RY) (w : World) (hF : FsM G w fv l) (hl : l.map Prod.fst = y.files) (hlo : -1 ≤ y.left) (hhi : y.left ≤ 9223372036854775807) :
    Calls Try.prog 48 #[.agg #[fv, .int .i64 y.left, .bool y.off]] w (Re1 G w (rDone y)) := by
  obtain ⟨files, left, off⟩ := y
  simp only at hl hlo hhi ⊢
  obtain ⟨hka, hkb, hba⟩ := two_blk w fv (.int .i64 left) (.bool off)
  obtain ⟨wa, hwa⟩ : ∃ wa, wa = two w fv (.int .i64 left) (.bool off) := ⟨_, rfl⟩
  rw [← hwa] at hka hkb hba
  obtain ⟨A, c, rfl, hF'⟩ : ∃ A c, fv = .slice A l.length c ∧ FsM G w fv l := by obtain ⟨A, c, h, h2⟩ := hF; exact ⟨A, c, h, A, c, h, h2⟩
  generalize l.length = n at *
  unfold two at hwa
  have HWA := Lib.hid hwa
  have HFS := Lib.hid (show ∀ w', Below w.heap.size w w' → FsM (UpG G w.heap.size) w' (.slice A n c) l from fun w' hb => (hF'.below hb).mono fun _ _ h => .inl h)
  have HL := Lib.hid hl
  have x0 := hka.cell 0
  have x1 := hka.cell 1
  have x2 := hka.cell 2
  simp only [List.getElem?_toArray, List.getElem?_cons_zero, List.getElem?_cons_succ] at x0 x1 x2
  have z0 := hkb.cell 0
  have z1 := hkb.cell 1
  have z2 := hkb.cell 2
  simp only [List.getElem?_toArray, List.getElem?_cons_zero, List.getElem?_cons_succ] at z0 z1 z2
  have u0 := hka.frozen 0
  have u1 := hka.frozen 1
  have u2 := hka.frozen 2
  have y0 := hkb.frozen 0
  have y1 := hkb.frozen 1
  have y2 := hkb.frozen 2
  clear hwa hF' hF hl
  by_cases h0 : 0 < left
  · have hd : rDone ⟨files, left, off⟩ = ⟨files, left - 1, off⟩ := by unfold rDone; rw [if_pos h0]
    have hdec : decide (0 < left) = true := by simpa using h0
    rw [hd]
    have HB := Lib.hid hba
    have HKB := Lib.hid hkb
    have HKA := Lib.hid hka
    clear hd hba hka hkb
    go_enter Try.func48, Try.ntmps48
    go_upto_region 1 with (fail)
    rw [← HWA.out]
    go_upto_region 3 with (fail)
    obtain ⟨w1, hw1⟩ : ∃ w1, w1 = wa.setCell ⟨w.heap.size, 1, none⟩ (.int .i64 (left - 1)) := ⟨_, rfl⟩
    rw [← hw1]
    have hk1 := HKA.out.set_ 1 (.int .i64 (left - 1))
    rw [← hw1] at hk1
    simp only [List.setIfInBounds_toArray, List.set_cons_succ, List.set_cons_zero] at hk1
    have hk2 := HKB.out.far (p := ⟨w.heap.size, 1, none⟩) (show w.heap.size + 1 ≠ w.heap.size by omega) (.int .i64 (left - 1))
    rw [← hw1] at hk2
    have hb1 : Below w.heap.size w w1 := by rw [hw1]; exact HB.out.setCell (Nat.le_refl _) _
    clear hw1 x0 x1 x2 z0 z1 z2 u0 u1 u2 y0 y1 y2
    have x0 := hk1.cell 0
    have x1 := hk1.cell 1
    have x2 := hk1.cell 2
    simp only [List.getElem?_toArray, List.getElem?_cons_zero, List.getElem?_cons_succ] at x0 x1 x2
    have z0 := hk2.cell 0
    have z1 := hk2.cell 1
    have z2 := hk2.cell 2
    simp only [List.getElem?_toArray, List.getElem?_cons_zero, List.getElem?_cons_succ] at z0 z1 z2
    have y0 := hk2.frozen 0
    have y1 := hk2.frozen 1
    have y2 := hk2.frozen 2
    go_wp2_with fail
    obtain ⟨wF, hwF⟩ : ∃ wF, wF = set3 w1 (w.heap.size + 1) (.slice A n c) (.int .i64 (left - 1)) (.bool off) := ⟨_, rfl⟩
    have hkF : Blk wF (w.heap.size + 1) 52 #[(.slice A n c : Value), (.int .i64 (left - 1) : Value), (.bool off : Value)] := by rw [hwF]; exact set3_blk hk2 _ _ _
    have hbF : Below w.heap.size w wF := by rw [hwF]; exact set3_below hb1 hb1.size (Nat.le_succ _) _ _ _
    have f0 := hkF.cell 0
    have f1 := hkF.cell 1
    have f2 := hkF.cell 2
    simp only [List.getElem?_toArray, List.getElem?_cons_zero, List.getElem?_cons_succ] at f0 f1 f2
    unfold set3 at hwF
    rw [← hwF]
    refine bodyPost_ret (v := .agg #[(.slice A n c : Value), (.int .i64 (left - 1) : Value), (.bool off : Value)]) (by simp [results, Try.results48, go_sem, f0, f1, f2]) rfl ?_
    exact ⟨_, rfl, ⟨_, l, rfl, HFS.out wF hbF, HL.out⟩, hbF⟩
  · have hd : rDone ⟨files, left, off⟩ = ⟨files, left, off⟩ := by unfold rDone; rw [if_neg h0]
    have hdec : decide (0 < left) = false := by simpa using h0
    rw [hd]
    clear hd
    go_enter Try.func48, Try.ntmps48
    go_upto_region 1 with (fail)
    rw [← HWA.out]
    go_wp2_with fail
    obtain ⟨wF, hwF⟩ : ∃ wF, wF = set3 wa (w.heap.size + 1) (.slice A n c) (.int .i64 left) (.bool off) := ⟨_, rfl⟩
    have hkF : Blk wF (w.heap.size + 1) 52 #[(.slice A n c : Value), (.int .i64 left : Value), (.bool off : Value)] := by rw [hwF]; exact set3_blk hkb _ _ _
    have hbF : Below w.heap.size w wF := by rw [hwF]; exact set3_below hba hba.size (Nat.le_succ _) _ _ _
    have f0 := hkF.cell 0
    have f1 := hkF.cell 1
    have f2 := hkF.cell 2
    simp only [List.getElem?_toArray, List.getElem?_cons_zero, List.getElem?_cons_succ] at f0 f1 f2
    unfold set3 at hwF
    rw [← hwF]
    refine bodyPost_ret (v := .agg #[(.slice A n c : Value), (.int .i64 left : Value), (.bool off : Value)]) (by simp [results, Try.results48, go_sem, f0, f1, f2]) rfl ?_
    exact ⟨_, rfl, ⟨_, l, rfl, HFS.out wF hbF, HL.out⟩, hbF⟩
end Go.Proofs.Ythmbmecodddkeaa
