/- The walk of the parser's term. -/
import Derived.Test.YtpiagfmjekcncaaDoorjCls
import Derived.Test.YtpiagfmjekcncaaDoorjCnt
import Derived.Test.YtpiagfmjekcncaaDoorjSeq
set_option linter.unusedVariables false
set_option linter.unusedSimpArgs false
set_option linter.unusedSectionVars false
namespace Go.Proofs.YtpiagfmjekcncaaDoor
open Go.RowKit
def rng (a b : Nat) : Nat → Prop := fun i => a ≤ i ∧ i < b
/-- A part of the parser that makes a tree of new blocks. -/
def TRes (T : List UInt8) (w : World) (g : Nat) (r : Option (Rx × Nat)) (e : Ending) (w' : World) : Prop := match r with
  | none => PFail T w g e w'
  | some (r, k') => ∃ cs, e = .returned (.agg cs.toArray) ∧ RxV w' (rng w.heap.size w'.heap.size) r cs ∧ PS T w' g k' ∧ Kept (isG g) w w'
theorem PS.far8 {T : List UInt8} {w : World} {g k X : Nat} (h : PS T w g k) (hg : g ≠ X) (u0 u1 u2 u3 u4 u5 u6 u7 : Value) : PS T (set8 w X u0 u1 u2 u3 u4 u5 u6 u7) g k := ⟨Blk.set8 h.1 hg u0 u1 u2 u3 u4 u5 u6 u7, h.2⟩
theorem RxV.set_any (w : World) (F : Nat → Prop) (S : LS) : RxV w F (Rx.set S) [.int .i64 2, .int .u64 (wd S 0), .int .u64 (wd S 1), .int .u64 (wd S 2), .int .u64 (wd S 3), .int .i64 0, .int .i64 0, .slice none 0 0] := by
  unfold Rx.set RxV RxVs
  exact ⟨none, 0, [], rfl, ⟨rfl, fun h => absurd h (by simp)⟩, rfl⟩
theorem RxV.kept {w w' : World} {K F G : Nat → Prop} {r : Rx} {cs : List Value} (h : RxV w F r cs) (k : Kept K w w') (hd : ∀ i, F i → i < w.heap.size → ¬ K i) (hG : ∀ i, F i → i < w.heap.size → G i) : RxV w' G r cs :=
  RxV.keep (fun i hi hl => k.block i hl (hd i hi hl)) k.size hG r cs h
theorem RxVs.kept {w w' : World} {K F G : Nat → Prop} {l : List Rx} {cs : List Value} (h : RxVs w F l cs) (k : Kept K w w') (hd : ∀ i, F i → i < w.heap.size → ¬ K i) (hG : ∀ i, F i → i < w.heap.size → G i) : RxVs w' G l cs :=
  RxVs.keep (fun i hi hl => k.block i hl (hd i hi hl)) k.size hG l cs h
theorem esc_yes {T : List UInt8} {g k k' : Nat} {x : UInt8} (w : World) (h : PS T w g k) (hn : escP T k = some (x, k')) : Calls Tryd.prog 60 #[.pointer (some ⟨g, 0, none⟩)] w (PStep T w g (.int .u8 x.toNat) k') := by
  have := esc_any w h
  rw [hn] at this
  exact this
theorem esc_no {T : List UInt8} {g k : Nat} (w : World) (h : PS T w g k) (hn : escP T k = none) : Calls Tryd.prog 60 #[.pointer (some ⟨g, 0, none⟩)] w (PFail T w g) := by
  have := esc_any w h
  rw [hn] at this
  exact this
theorem cls_yes {T : List UInt8} {g k k' : Nat} {S : LS} (w : World) (h : PS T w g k) (hn : classP T k = some (S, k')) : Calls Tryd.prog 62 #[.pointer (some ⟨g, 0, none⟩)] w (PStep T w g (.agg #[.int .u64 (wd S 0), .int .u64 (wd S 1), .int .u64 (wd S 2), .int .u64 (wd S 3)]) k') := by
  have := class_any w h
  rw [hn] at this
  exact this
theorem cls_no {T : List UInt8} {g k : Nat} (w : World) (h : PS T w g k) (hn : classP T k = none) : Calls Tryd.prog 62 #[.pointer (some ⟨g, 0, none⟩)] w (PFail T w g) := by
  have := class_any w h
  rw [hn] at this
  exact this
theorem one_v (b : UInt8) (w : World) : Calls Tryd.prog 22 #[.int .u8 b.toNat] w fun e w' => e = .returned (.agg #[.int .i64 2, .int .u64 (wd (oneS b.toNat) 0), .int .u64 (wd (oneS b.toNat) 1), .int .u64 (wd (oneS b.toNat) 2), .int .u64 (wd (oneS b.toNat) 3), .int .i64 0, .int .i64 0, .slice none 0 0]) ∧ Below w.heap.size w w' := one_any b w
theorem dot_v (w : World) : Calls Tryd.prog 61 #[] w fun e w' => e = .returned (.agg #[.int .u64 (wd dotS 0), .int .u64 (wd dotS 1), .int .u64 (wd dotS 2), .int .u64 (wd dotS 3)]) ∧ Below w.heap.size w w' := dot_any w
theorem spec_all : ∀ b : Fin 256, decide (0 ≤ Lib.indexByte specials (UInt8.ofNat b.val)) = specials.contains (UInt8.ofNat b.val) := by decide +kernel
theorem spec_at (b : UInt8) : decide (0 ≤ Lib.indexByte specials b) = specials.contains b := by
  have := spec_all ⟨b.toNat, b.toNat_lt⟩
  simpa using this
theorem idx_spec (b : UInt8) (ix : Int) (hix : Lib.indexByte specials b = ix) (w : World) : Calls Tryd.prog 63 #[.string ⟨#[92, 46, 91, 93, 40, 41, 123, 125, 124, 42, 43, 63]⟩, .int .u8 b.toNat] w fun e w' => e = .returned (.int .i64 ix) ∧ w = w' := by
  subst hix
  refine (Tryd.strings_IndexByte ⟨#[92, 46, 91, 93, 40, 41, 123, 125, 124, 42, 43, 63]⟩ (b.toNat : Int) w).mono ?_
  rintro e w' ⟨rfl, rfl⟩
  exact ⟨by simp [specials], rfl⟩
set_option maxHeartbeats 4000000
theorem term_none {T : List UInt8} {g k : Nat} (w : World) (h : PS T w g k) (hb : T[k]? = none) : Calls Tryd.prog 49 #[.pointer (some ⟨g, 0, none⟩)] w (PFail T w g) := by
  have hg := h.lt
  have HR0 := Lib.hid (R8.mk0 w w.heap.size rfl)
  have HP0 := Lib.hid (h.alloc (.cells #[.int .i64 0, .int .u64 0, .int .u64 0, .int .u64 0, .int .u64 0, .int .i64 0, .int .i64 0, .slice none 0 0] 27))
  have HK0 := Lib.hid ((Kept.refl (isG g) w).alloc (.cells #[.int .i64 0, .int .u64 0, .int .u64 0, .int .u64 0, .int .u64 0, .int .i64 0, .int .i64 0, .slice none 0 0] 27))
  have hne : ¬ isG g w.heap.size := fun e => absurd hg (by rw [show g = w.heap.size from e.symm]; omega)
  have HB := Lib.hid hb
  clear h hb
  go_enter Tryd.func49, Tryd.ntmps49
  go_wp2_with fail
  refine (next_none _ HP0.out HB.out).mono ?_
  rintro e w1 ⟨rfl, hp1, hk1⟩
  go_wp2_with fail
  exact ⟨rfl, rfl, hp1, HK0.out.then_ hk1⟩
theorem term_esc0 {T : List UInt8} {g k : Nat} (w : World) (h : PS T w g k) (hb : T[k]? = some 92) (he : escP T (k + 1) = none) : Calls Tryd.prog 49 #[.pointer (some ⟨g, 0, none⟩)] w (PFail T w g) := by
  have hg := h.lt
  have HR0 := Lib.hid (R8.mk0 w w.heap.size rfl)
  have HP0 := Lib.hid (h.alloc (.cells #[.int .i64 0, .int .u64 0, .int .u64 0, .int .u64 0, .int .u64 0, .int .i64 0, .int .i64 0, .slice none 0 0] 27))
  have HK0 := Lib.hid ((Kept.refl (isG g) w).alloc (.cells #[.int .i64 0, .int .u64 0, .int .u64 0, .int .u64 0, .int .u64 0, .int .i64 0, .int .i64 0, .slice none 0 0] 27))
  have hne : ¬ isG g w.heap.size := fun e => absurd hg (by rw [show g = w.heap.size from e.symm]; omega)
  have HB := Lib.hid hb
  have HE := Lib.hid he
  clear h hb he
  go_enter Tryd.func49, Tryd.ntmps49
  go_wp2_with fail
  refine (next_some _ HP0.out HB.out).mono ?_
  rintro e w1 ⟨rfl, hp1, hk1⟩
  have hR1 := HR0.out.kept hk1 hne
  have hK1 := HK0.out.then_ hk1
  clear HR0 HP0 HK0 hk1
  go_wp2_with fail
  refine (esc_no w1 hp1 HE.out).mono ?_
  rintro e w2 ⟨rfl, hp2, hk2⟩
  go_wp2_with fail
  exact ⟨rfl, rfl, hp2, hK1.then_ hk2⟩
theorem term_esc1 {T : List UInt8} {g k : Nat} (w : World) (h : PS T w g k) {x : UInt8} {k' : Nat} (hb : T[k]? = some 92) (he : escP T (k + 1) = some (x, k')) : Calls Tryd.prog 49 #[.pointer (some ⟨g, 0, none⟩)] w (TRes T w g (some (Rx.one x, k'))) := by
  have hg := h.lt
  have HR0 := Lib.hid (R8.mk0 w w.heap.size rfl)
  have HP0 := Lib.hid (h.alloc (.cells #[.int .i64 0, .int .u64 0, .int .u64 0, .int .u64 0, .int .u64 0, .int .i64 0, .int .i64 0, .slice none 0 0] 27))
  have HK0 := Lib.hid ((Kept.refl (isG g) w).alloc (.cells #[.int .i64 0, .int .u64 0, .int .u64 0, .int .u64 0, .int .u64 0, .int .i64 0, .int .i64 0, .slice none 0 0] 27))
  have hne : ¬ isG g w.heap.size := fun e => absurd hg (by rw [show g = w.heap.size from e.symm]; omega)
  have HB := Lib.hid hb
  have HE := Lib.hid he
  clear h hb he
  go_enter Tryd.func49, Tryd.ntmps49
  go_wp2_with fail
  refine (next_some _ HP0.out HB.out).mono ?_
  rintro e w1 ⟨rfl, hp1, hk1⟩
  have hR1 := HR0.out.kept hk1 hne
  have hK1 := HK0.out.then_ hk1
  clear HR0 HP0 HK0 hk1
  go_wp2_with fail
  refine (esc_yes w1 hp1 HE.out).mono ?_
  rintro e w2 ⟨rfl, hp2, hk2⟩
  have hR2 := hR1.kept hk2 hne
  have hK2 := hK1.then_ hk2
  clear hR1 hK1 hk2 hp1
  go_wp2_with fail
  refine (one_v x w2).mono ?_
  rintro e w3 ⟨rfl, hb3⟩
  have hR3 := hR2.below hb3 hR2.lt
  have hK3 := hK2.then_ (Kept.of_below hb3)
  have hp3 := PS.kept hp2 (Kept.of_below (F := fun _ => False) hb3) id
  clear hR2 hK2 hp2 hb3
  obtain ⟨⟨⟨c0, c1⟩, c2, c3⟩, ⟨c4, c5⟩, c6, c7⟩ := hR3.cells
  obtain ⟨⟨⟨f0, f1⟩, f2, f3⟩, ⟨f4, f5⟩, f6, f7⟩ := hR3.free
  have HZ := Lib.hid (hR3.all (.int .i64 2) (.int .u64 (wd (oneS x.toNat) 0)) (.int .u64 (wd (oneS x.toNat) 1)) (.int .u64 (wd (oneS x.toNat) 2)) (.int .u64 (wd (oneS x.toNat) 3)) (.int .i64 0) (.int .i64 0) (.slice none 0 0))
  have HP := Lib.hid (hp3.far8 (X := w.heap.size) (by omega) (.int .i64 2) (.int .u64 (wd (oneS x.toNat) 0)) (.int .u64 (wd (oneS x.toNat) 1)) (.int .u64 (wd (oneS x.toNat) 2)) (.int .u64 (wd (oneS x.toNat) 3)) (.int .i64 0) (.int .i64 0) (.slice none 0 0))
  have HK := Lib.hid (kept_set8 hK3 (g := w.heap.size) (.inr (Nat.le_refl _)) (.int .i64 2) (.int .u64 (wd (oneS x.toNat) 0)) (.int .u64 (wd (oneS x.toNat) 1)) (.int .u64 (wd (oneS x.toNat) 2)) (.int .u64 (wd (oneS x.toNat) 3)) (.int .i64 0) (.int .i64 0) (.slice none 0 0))
  clear hR3
  go_wp2_with fail
  obtain ⟨⟨⟨d0, d1⟩, d2, d3⟩, ⟨d4, d5⟩, d6, d7⟩ := HZ.out.cells
  unfold set8 at d0 d1 d2 d3 d4 d5 d6 d7
  refine bodyPost_ret (v := .agg #[.int .i64 2, .int .u64 (wd (oneS x.toNat) 0), .int .u64 (wd (oneS x.toNat) 1), .int .u64 (wd (oneS x.toNat) 2), .int .u64 (wd (oneS x.toNat) 3), .int .i64 0, .int .i64 0, .slice none 0 0]) (by simp [results, Tryd.results49, go_sem, d0, d1, d2, d3, d4, d5, d6, d7]) rfl ?_
  exact ⟨_, rfl, RxV.set_any _ _ _, HP.out, HK.out⟩
theorem term_dot {T : List UInt8} {g k : Nat} (w : World) (h : PS T w g k) (hb : T[k]? = some 46) : Calls Tryd.prog 49 #[.pointer (some ⟨g, 0, none⟩)] w (TRes T w g (some (Rx.set dotS, k + 1))) := by
  have hg := h.lt
  have HR0 := Lib.hid (R8.mk0 w w.heap.size rfl)
  have HP0 := Lib.hid (h.alloc (.cells #[.int .i64 0, .int .u64 0, .int .u64 0, .int .u64 0, .int .u64 0, .int .i64 0, .int .i64 0, .slice none 0 0] 27))
  have HK0 := Lib.hid ((Kept.refl (isG g) w).alloc (.cells #[.int .i64 0, .int .u64 0, .int .u64 0, .int .u64 0, .int .u64 0, .int .i64 0, .int .i64 0, .slice none 0 0] 27))
  have hne : ¬ isG g w.heap.size := fun e => absurd hg (by rw [show g = w.heap.size from e.symm]; omega)
  have HB := Lib.hid hb
  clear h hb
  go_enter Tryd.func49, Tryd.ntmps49
  go_wp2_with fail
  refine (next_some _ HP0.out HB.out).mono ?_
  rintro e w1 ⟨rfl, hp1, hk1⟩
  have hR1 := HR0.out.kept hk1 hne
  have hK1 := HK0.out.then_ hk1
  clear HR0 HP0 HK0 hk1
  go_wp2_with fail
  refine (dot_v w1).mono ?_
  rintro e w3 ⟨rfl, hb3⟩
  have hR3 := hR1.below hb3 hR1.lt
  have hK3 := hK1.then_ (Kept.of_below hb3)
  have hp3 := PS.kept hp1 (Kept.of_below (F := fun _ => False) hb3) id
  clear hR1 hK1 hp1 hb3
  obtain ⟨⟨⟨c0, c1⟩, c2, c3⟩, ⟨c4, c5⟩, c6, c7⟩ := hR3.cells
  obtain ⟨⟨⟨f0, f1⟩, f2, f3⟩, ⟨f4, f5⟩, f6, f7⟩ := hR3.free
  have HZ := Lib.hid (hR3.all (.int .i64 2) (.int .u64 (wd dotS 0)) (.int .u64 (wd dotS 1)) (.int .u64 (wd dotS 2)) (.int .u64 (wd dotS 3)) (.int .i64 0) (.int .i64 0) (.slice none 0 0))
  have HP := Lib.hid (hp3.far8 (X := w.heap.size) (by omega) (.int .i64 2) (.int .u64 (wd dotS 0)) (.int .u64 (wd dotS 1)) (.int .u64 (wd dotS 2)) (.int .u64 (wd dotS 3)) (.int .i64 0) (.int .i64 0) (.slice none 0 0))
  have HK := Lib.hid (kept_set8 hK3 (g := w.heap.size) (.inr (Nat.le_refl _)) (.int .i64 2) (.int .u64 (wd dotS 0)) (.int .u64 (wd dotS 1)) (.int .u64 (wd dotS 2)) (.int .u64 (wd dotS 3)) (.int .i64 0) (.int .i64 0) (.slice none 0 0))
  clear hR3
  go_wp2_with fail
  obtain ⟨⟨⟨d0, d1⟩, d2, d3⟩, ⟨d4, d5⟩, d6, d7⟩ := HZ.out.cells
  unfold set8 at d0 d1 d2 d3 d4 d5 d6 d7
  refine bodyPost_ret (v := .agg #[.int .i64 2, .int .u64 (wd dotS 0), .int .u64 (wd dotS 1), .int .u64 (wd dotS 2), .int .u64 (wd dotS 3), .int .i64 0, .int .i64 0, .slice none 0 0]) (by simp [results, Tryd.results49, go_sem, d0, d1, d2, d3, d4, d5, d6, d7]) rfl ?_
  exact ⟨_, rfl, RxV.set_any _ _ _, HP.out, HK.out⟩
theorem term_cls0 {T : List UInt8} {g k : Nat} (w : World) (h : PS T w g k) (hb : T[k]? = some 91) (he : classP T (k + 1) = none) : Calls Tryd.prog 49 #[.pointer (some ⟨g, 0, none⟩)] w (PFail T w g) := by
  have hg := h.lt
  have HR0 := Lib.hid (R8.mk0 w w.heap.size rfl)
  have HP0 := Lib.hid (h.alloc (.cells #[.int .i64 0, .int .u64 0, .int .u64 0, .int .u64 0, .int .u64 0, .int .i64 0, .int .i64 0, .slice none 0 0] 27))
  have HK0 := Lib.hid ((Kept.refl (isG g) w).alloc (.cells #[.int .i64 0, .int .u64 0, .int .u64 0, .int .u64 0, .int .u64 0, .int .i64 0, .int .i64 0, .slice none 0 0] 27))
  have hne : ¬ isG g w.heap.size := fun e => absurd hg (by rw [show g = w.heap.size from e.symm]; omega)
  have HB := Lib.hid hb
  have HE := Lib.hid he
  clear h hb he
  go_enter Tryd.func49, Tryd.ntmps49
  go_wp2_with fail
  refine (next_some _ HP0.out HB.out).mono ?_
  rintro e w1 ⟨rfl, hp1, hk1⟩
  have hR1 := HR0.out.kept hk1 hne
  have hK1 := HK0.out.then_ hk1
  clear HR0 HP0 HK0 hk1
  go_wp2_with fail
  refine (cls_no w1 hp1 HE.out).mono ?_
  rintro e w2 ⟨rfl, hp2, hk2⟩
  go_wp2_with fail
  exact ⟨rfl, rfl, hp2, hK1.then_ hk2⟩
theorem term_cls1 {T : List UInt8} {g k : Nat} (w : World) (h : PS T w g k) {S : LS} {k' : Nat} (hb : T[k]? = some 91) (he : classP T (k + 1) = some (S, k')) : Calls Tryd.prog 49 #[.pointer (some ⟨g, 0, none⟩)] w (TRes T w g (some (Rx.set S, k'))) := by
  have hg := h.lt
  have HR0 := Lib.hid (R8.mk0 w w.heap.size rfl)
  have HP0 := Lib.hid (h.alloc (.cells #[.int .i64 0, .int .u64 0, .int .u64 0, .int .u64 0, .int .u64 0, .int .i64 0, .int .i64 0, .slice none 0 0] 27))
  have HK0 := Lib.hid ((Kept.refl (isG g) w).alloc (.cells #[.int .i64 0, .int .u64 0, .int .u64 0, .int .u64 0, .int .u64 0, .int .i64 0, .int .i64 0, .slice none 0 0] 27))
  have hne : ¬ isG g w.heap.size := fun e => absurd hg (by rw [show g = w.heap.size from e.symm]; omega)
  have HB := Lib.hid hb
  have HE := Lib.hid he
  clear h hb he
  go_enter Tryd.func49, Tryd.ntmps49
  go_wp2_with fail
  refine (next_some _ HP0.out HB.out).mono ?_
  rintro e w1 ⟨rfl, hp1, hk1⟩
  have hR1 := HR0.out.kept hk1 hne
  have hK1 := HK0.out.then_ hk1
  clear HR0 HP0 HK0 hk1
  go_wp2_with fail
  refine (cls_yes w1 hp1 HE.out).mono ?_
  rintro e w2 ⟨rfl, hp2, hk2⟩
  have hR2 := hR1.kept hk2 hne
  have hK2 := hK1.then_ hk2
  clear hR1 hK1 hk2 hp1
  obtain ⟨⟨⟨c0, c1⟩, c2, c3⟩, ⟨c4, c5⟩, c6, c7⟩ := hR2.cells
  obtain ⟨⟨⟨f0, f1⟩, f2, f3⟩, ⟨f4, f5⟩, f6, f7⟩ := hR2.free
  have HZ := Lib.hid (hR2.all (.int .i64 2) (.int .u64 (wd S 0)) (.int .u64 (wd S 1)) (.int .u64 (wd S 2)) (.int .u64 (wd S 3)) (.int .i64 0) (.int .i64 0) (.slice none 0 0))
  have HP := Lib.hid (hp2.far8 (X := w.heap.size) (by omega) (.int .i64 2) (.int .u64 (wd S 0)) (.int .u64 (wd S 1)) (.int .u64 (wd S 2)) (.int .u64 (wd S 3)) (.int .i64 0) (.int .i64 0) (.slice none 0 0))
  have HK := Lib.hid (kept_set8 hK2 (g := w.heap.size) (.inr (Nat.le_refl _)) (.int .i64 2) (.int .u64 (wd S 0)) (.int .u64 (wd S 1)) (.int .u64 (wd S 2)) (.int .u64 (wd S 3)) (.int .i64 0) (.int .i64 0) (.slice none 0 0))
  clear hR2
  go_wp2_with fail
  obtain ⟨⟨⟨d0, d1⟩, d2, d3⟩, ⟨d4, d5⟩, d6, d7⟩ := HZ.out.cells
  unfold set8 at d0 d1 d2 d3 d4 d5 d6 d7
  refine bodyPost_ret (v := .agg #[.int .i64 2, .int .u64 (wd S 0), .int .u64 (wd S 1), .int .u64 (wd S 2), .int .u64 (wd S 3), .int .i64 0, .int .i64 0, .slice none 0 0]) (by simp [results, Tryd.results49, go_sem, d0, d1, d2, d3, d4, d5, d6, d7]) rfl ?_
  exact ⟨_, rfl, RxV.set_any _ _ _, HP.out, HK.out⟩
theorem term_par0 {T : List UInt8} {g k : Nat} (w : World) (h : PS T w g k) (hb : T[k]? = some 40) (hE : ∀ w1, PS T w1 g (k + 1) → Calls Tryd.prog 18 #[.pointer (some ⟨g, 0, none⟩)] w1 (TRes T w1 g none)) : Calls Tryd.prog 49 #[.pointer (some ⟨g, 0, none⟩)] w (PFail T w g) := by
  have hg := h.lt
  have HR0 := Lib.hid (R8.mk0 w w.heap.size rfl)
  have HP0 := Lib.hid (h.alloc (.cells #[.int .i64 0, .int .u64 0, .int .u64 0, .int .u64 0, .int .u64 0, .int .i64 0, .int .i64 0, .slice none 0 0] 27))
  have HK0 := Lib.hid ((Kept.refl (isG g) w).alloc (.cells #[.int .i64 0, .int .u64 0, .int .u64 0, .int .u64 0, .int .u64 0, .int .i64 0, .int .i64 0, .slice none 0 0] 27))
  have hne : ¬ isG g w.heap.size := fun e => absurd hg (by rw [show g = w.heap.size from e.symm]; omega)
  have HB := Lib.hid hb
  have HEE := Lib.hid hE
  clear h hb hE
  go_enter Tryd.func49, Tryd.ntmps49
  go_wp2_with fail
  refine (next_some _ HP0.out HB.out).mono ?_
  rintro e w1 ⟨rfl, hp1, hk1⟩
  have hR1 := HR0.out.kept hk1 hne
  have hK1 := HK0.out.then_ hk1
  clear HR0 HP0 HK0 hk1
  go_wp2_with fail
  refine (HEE.out w1 hp1).mono ?_
  rintro e w2 ⟨rfl, hp2, hk2⟩
  go_wp2_with fail
  exact ⟨rfl, rfl, hp2, hK1.then_ hk2⟩
theorem term_par1 {T : List UInt8} {g k : Nat} (w : World) (h : PS T w g k) (hb : T[k]? = some 40) {r : Rx} {k' : Nat} (hE : ∀ w1, PS T w1 g (k + 1) → Calls Tryd.prog 18 #[.pointer (some ⟨g, 0, none⟩)] w1 (TRes T w1 g (some (r, k')))) (hc : ¬ T[k']? = some 41) : Calls Tryd.prog 49 #[.pointer (some ⟨g, 0, none⟩)] w (PFail T w g) := by
  have hg := h.lt
  have HR0 := Lib.hid (R8.mk0 w w.heap.size rfl)
  have HP0 := Lib.hid (h.alloc (.cells #[.int .i64 0, .int .u64 0, .int .u64 0, .int .u64 0, .int .u64 0, .int .i64 0, .int .i64 0, .slice none 0 0] 27))
  have HK0 := Lib.hid ((Kept.refl (isG g) w).alloc (.cells #[.int .i64 0, .int .u64 0, .int .u64 0, .int .u64 0, .int .u64 0, .int .i64 0, .int .i64 0, .slice none 0 0] 27))
  have hne : ¬ isG g w.heap.size := fun e => absurd hg (by rw [show g = w.heap.size from e.symm]; omega)
  have HB := Lib.hid hb
  have HEE := Lib.hid hE
  have HC := Lib.hid hc
  clear h hb hE hc
  go_enter Tryd.func49, Tryd.ntmps49
  go_wp2_with fail
  refine (next_some _ HP0.out HB.out).mono ?_
  rintro e w1 ⟨rfl, hp1, hk1⟩
  have hR1 := HR0.out.kept hk1 hne
  have hK1 := HK0.out.then_ hk1
  clear HR0 HP0 HK0 hk1
  go_wp2_with fail
  refine (HEE.out w1 hp1).mono ?_
  rintro e w2 ⟨cs, rfl, hv, hp2, hk2⟩
  obtain ⟨kd, w0', w1', w2', w3', lo, hi, A, n, c, rfl⟩ := hv.eight
  have hR2 := hR1.kept hk2 hne
  have hK2 := hK1.then_ hk2
  have hs1 : w.heap.size < w1.heap.size := hR1.lt
  have hs2 : w1.heap.size ≤ w2.heap.size := hk2.size
  have HV := Lib.hid hv
  clear hR1 hK1 hk2 hp1 hv
  have hp2a := hp2.alloc (.cells #[.int .i64 kd, .int .u64 w0', .int .u64 w1', .int .u64 w2', .int .u64 w3', .int .i64 lo, .int .i64 hi, .slice A n c] 27)
  have hK2a := hK2.alloc (.cells #[.int .i64 kd, .int .u64 w0', .int .u64 w1', .int .u64 w2', .int .u64 w3', .int .i64 lo, .int .i64 hi, .slice A n c] 27)
  go_wp2_with fail
  refine (skN 41 41 rfl _ hp2a HC.out).mono ?_
  rintro e w3 ⟨rfl, hp3, hk3⟩
  go_wp2_with fail
  exact ⟨rfl, rfl, ⟨_, hp3⟩, hK2a.then_ hk3⟩
theorem term_par2 {T : List UInt8} {g k : Nat} (w : World) (h : PS T w g k) (hb : T[k]? = some 40) {r : Rx} {k' : Nat} (hE : ∀ w1, PS T w1 g (k + 1) → Calls Tryd.prog 18 #[.pointer (some ⟨g, 0, none⟩)] w1 (TRes T w1 g (some (r, k')))) (hc : T[k']? = some 41) : Calls Tryd.prog 49 #[.pointer (some ⟨g, 0, none⟩)] w (TRes T w g (some (r, k' + 1))) := by
  have hg := h.lt
  have HR0 := Lib.hid (R8.mk0 w w.heap.size rfl)
  have HP0 := Lib.hid (h.alloc (.cells #[.int .i64 0, .int .u64 0, .int .u64 0, .int .u64 0, .int .u64 0, .int .i64 0, .int .i64 0, .slice none 0 0] 27))
  have HK0 := Lib.hid ((Kept.refl (isG g) w).alloc (.cells #[.int .i64 0, .int .u64 0, .int .u64 0, .int .u64 0, .int .u64 0, .int .i64 0, .int .i64 0, .slice none 0 0] 27))
  have hne : ¬ isG g w.heap.size := fun e => absurd hg (by rw [show g = w.heap.size from e.symm]; omega)
  have HB := Lib.hid hb
  have HEE := Lib.hid hE
  have HC := Lib.hid hc
  clear h hb hE hc
  go_enter Tryd.func49, Tryd.ntmps49
  go_wp2_with fail
  refine (next_some _ HP0.out HB.out).mono ?_
  rintro e w1 ⟨rfl, hp1, hk1⟩
  have hR1 := HR0.out.kept hk1 hne
  have hK1 := HK0.out.then_ hk1
  clear HR0 HP0 HK0 hk1
  go_wp2_with fail
  refine (HEE.out w1 hp1).mono ?_
  rintro e w2 ⟨cs, rfl, hv, hp2, hk2⟩
  obtain ⟨kd, w0', w1', w2', w3', lo, hi, A, n, c, rfl⟩ := hv.eight
  have hR2 := hR1.kept hk2 hne
  have hK2 := hK1.then_ hk2
  have hs1 : w.heap.size < w1.heap.size := hR1.lt
  have hs2 : w1.heap.size ≤ w2.heap.size := hk2.size
  have HV := Lib.hid hv
  clear hR1 hK1 hk2 hp1 hv
  have hp2a := hp2.alloc (.cells #[.int .i64 kd, .int .u64 w0', .int .u64 w1', .int .u64 w2', .int .u64 w3', .int .i64 lo, .int .i64 hi, .slice A n c] 27)
  have hK2a := hK2.alloc (.cells #[.int .i64 kd, .int .u64 w0', .int .u64 w1', .int .u64 w2', .int .u64 w3', .int .i64 lo, .int .i64 hi, .slice A n c] 27)
  have hR2a := hR2.alloc (.cells #[.int .i64 kd, .int .u64 w0', .int .u64 w1', .int .u64 w2', .int .u64 w3', .int .i64 lo, .int .i64 hi, .slice A n c] 27)
  have hX2a : R8 (w2.alloc (.cells #[.int .i64 kd, .int .u64 w0', .int .u64 w1', .int .u64 w2', .int .u64 w3', .int .i64 lo, .int .i64 hi, .slice A n c] 27)) w2.heap.size (.int .i64 kd) (.int .u64 w0') (.int .u64 w1') (.int .u64 w2') (.int .u64 w3') (.int .i64 lo) (.int .i64 hi) (.slice A n c) := Blk.new _ _ _
  go_wp2_with fail
  refine (skY 41 41 rfl _ hp2a HC.out).mono ?_
  rintro e w3 ⟨rfl, hp3, hk3⟩
  have hR3 := hR2a.kept hk3 hne
  have hK3 := hK2a.then_ hk3
  have hgl : g < w2.heap.size := hp2.lt
  have hX3 := hX2a.kept hk3 (fun e => absurd hgl (by rw [show g = w2.heap.size from e.symm]; omega))
  have hs3 : w2.heap.size + 1 ≤ w3.heap.size := by have := hk3.size; simpa using this
  have hk23 : Kept (isG g) w2 w3 := (Kept.alloc (Kept.refl _ w2) (.cells #[.int .i64 kd, .int .u64 w0', .int .u64 w1', .int .u64 w2', .int .u64 w3', .int .i64 lo, .int .i64 hi, .slice A n c] 27)).then_ hk3
  clear hR2a hX2a hR2 hK2 hp2 hk3 hp2a hK2a
  obtain ⟨⟨⟨x0, x1⟩, x2, x3⟩, ⟨x4, x5⟩, x6, x7⟩ := hX3.cells
  clear hX3
  obtain ⟨⟨⟨c0, c1⟩, c2, c3⟩, ⟨c4, c5⟩, c6, c7⟩ := hR3.cells
  obtain ⟨⟨⟨f0, f1⟩, f2, f3⟩, ⟨f4, f5⟩, f6, f7⟩ := hR3.free
  have HZ := Lib.hid (hR3.all (.int .i64 kd) (.int .u64 w0') (.int .u64 w1') (.int .u64 w2') (.int .u64 w3') (.int .i64 lo) (.int .i64 hi) (.slice A n c))
  have HP := Lib.hid (hp3.far8 (X := w.heap.size) (by omega) (.int .i64 kd) (.int .u64 w0') (.int .u64 w1') (.int .u64 w2') (.int .u64 w3') (.int .i64 lo) (.int .i64 hi) (.slice A n c))
  have HK := Lib.hid (kept_set8 hK3 (g := w.heap.size) (.inr (Nat.le_refl _)) (.int .i64 kd) (.int .u64 w0') (.int .u64 w1') (.int .u64 w2') (.int .u64 w3') (.int .i64 lo) (.int .i64 hi) (.slice A n c))
  clear hR3
  go_wp2_with fail
  obtain ⟨⟨⟨d0, d1⟩, d2, d3⟩, ⟨d4, d5⟩, d6, d7⟩ := HZ.out.cells
  unfold set8 at d0 d1 d2 d3 d4 d5 d6 d7
  refine bodyPost_ret (v := .agg #[.int .i64 kd, .int .u64 w0', .int .u64 w1', .int .u64 w2', .int .u64 w3', .int .i64 lo, .int .i64 hi, .slice A n c]) (by simp [results, Tryd.results49, go_sem, d0, d1, d2, d3, d4, d5, d6, d7]) rfl ?_
  refine ⟨_, rfl, ?_, HP.out, HK.out⟩
  have h1 : RxV w3 (rng w1.heap.size w2.heap.size) r _ := HV.out.kept hk23 (fun i hh _ e => by have := hh.1; have e' : i = g := e; omega) (fun i hh _ => hh)
  have h2 := h1.kept (kept_set8 (Kept.refl (fun i => i = w.heap.size) w3) (g := w.heap.size) (.inl rfl) (.int .i64 kd) (.int .u64 w0') (.int .u64 w1') (.int .u64 w2') (.int .u64 w3') (.int .i64 lo) (.int .i64 hi) (.slice A n c)) (G := rng w.heap.size (set8 w3 w.heap.size (.int .i64 kd) (.int .u64 w0') (.int .u64 w1') (.int .u64 w2') (.int .u64 w3') (.int .i64 lo) (.int .i64 hi) (.slice A n c)).heap.size) (fun i hh _ e => by have := hh.1; omega) (fun i hh _ => ⟨by have := hh.1; omega, by
    have hz : w3.heap.size ≤ (set8 w3 w.heap.size (.int .i64 kd) (.int .u64 w0') (.int .u64 w1') (.int .u64 w2') (.int .u64 w3') (.int .i64 lo) (.int .i64 hi) (.slice A n c)).heap.size := (kept_set8 (Kept.refl (fun i => i = w.heap.size) w3) (g := w.heap.size) (.inl rfl) (.int .i64 kd) (.int .u64 w0') (.int .u64 w1') (.int .u64 w2') (.int .u64 w3') (.int .i64 lo) (.int .i64 hi) (.slice A n c)).size
    have := hh.2
    omega⟩)
  exact h2
theorem term_spec {T : List UInt8} {g k : Nat} (w : World) (h : PS T w g k) {b : UInt8} (hb : T[k]? = some b) (h92 : b ≠ 92) (h46 : b ≠ 46) (h91 : b ≠ 91) (h40 : b ≠ 40) (hs : specials.contains b = true) : Calls Tryd.prog 49 #[.pointer (some ⟨g, 0, none⟩)] w (PFail T w g) := by
  have hg := h.lt
  have HR0 := Lib.hid (R8.mk0 w w.heap.size rfl)
  have HP0 := Lib.hid (h.alloc (.cells #[.int .i64 0, .int .u64 0, .int .u64 0, .int .u64 0, .int .u64 0, .int .i64 0, .int .i64 0, .slice none 0 0] 27))
  have HK0 := Lib.hid ((Kept.refl (isG g) w).alloc (.cells #[.int .i64 0, .int .u64 0, .int .u64 0, .int .u64 0, .int .u64 0, .int .i64 0, .int .i64 0, .slice none 0 0] 27))
  have hne : ¬ isG g w.heap.size := fun e => absurd hg (by rw [show g = w.heap.size from e.symm]; omega)
  have HB := Lib.hid hb
  have t92 : ((b.toNat : Int) == 92) = false := ne_lit (c := 92) h92
  have t46 : ((b.toNat : Int) == 46) = false := ne_lit (c := 46) h46
  have t91 : ((b.toNat : Int) == 91) = false := ne_lit (c := 91) h91
  have t40 : ((b.toNat : Int) == 40) = false := ne_lit (c := 40) h40
  have hsp := (spec_at b).trans hs
  obtain ⟨ix, hix⟩ : ∃ ix, Lib.indexByte specials b = ix := ⟨_, rfl⟩
  have HI := Lib.hid fun w => idx_spec b ix hix w
  rw [hix] at hsp
  clear h hb h92 h46 h91 h40 hs hix
  go_enter Tryd.func49, Tryd.ntmps49
  go_wp2_with fail
  refine (next_some _ HP0.out HB.out).mono ?_
  rintro e w1 ⟨rfl, hp1, hk1⟩
  have hR1 := HR0.out.kept hk1 hne
  have hK1 := HK0.out.then_ hk1
  clear HR0 HP0 HK0 hk1
  go_wp2_with fail
  refine (HI.out w1).mono ?_
  rintro e w2 ⟨rfl, rfl⟩
  go_wp2_with fail
  exact ⟨rfl, rfl, ⟨_, hp1⟩, hK1⟩
theorem term_plain {T : List UInt8} {g k : Nat} (w : World) (h : PS T w g k) {b : UInt8} (hb : T[k]? = some b) (h92 : b ≠ 92) (h46 : b ≠ 46) (h91 : b ≠ 91) (h40 : b ≠ 40) (hs : specials.contains b = false) : Calls Tryd.prog 49 #[.pointer (some ⟨g, 0, none⟩)] w (TRes T w g (some (Rx.one b, k + 1))) := by
  have hg := h.lt
  have HR0 := Lib.hid (R8.mk0 w w.heap.size rfl)
  have HP0 := Lib.hid (h.alloc (.cells #[.int .i64 0, .int .u64 0, .int .u64 0, .int .u64 0, .int .u64 0, .int .i64 0, .int .i64 0, .slice none 0 0] 27))
  have HK0 := Lib.hid ((Kept.refl (isG g) w).alloc (.cells #[.int .i64 0, .int .u64 0, .int .u64 0, .int .u64 0, .int .u64 0, .int .i64 0, .int .i64 0, .slice none 0 0] 27))
  have hne : ¬ isG g w.heap.size := fun e => absurd hg (by rw [show g = w.heap.size from e.symm]; omega)
  have HB := Lib.hid hb
  have t92 : ((b.toNat : Int) == 92) = false := ne_lit (c := 92) h92
  have t46 : ((b.toNat : Int) == 46) = false := ne_lit (c := 46) h46
  have t91 : ((b.toNat : Int) == 91) = false := ne_lit (c := 91) h91
  have t40 : ((b.toNat : Int) == 40) = false := ne_lit (c := 40) h40
  have hsp := (spec_at b).trans hs
  obtain ⟨ix, hix⟩ : ∃ ix, Lib.indexByte specials b = ix := ⟨_, rfl⟩
  have HI := Lib.hid fun w => idx_spec b ix hix w
  rw [hix] at hsp
  clear h hb h92 h46 h91 h40 hs hix
  go_enter Tryd.func49, Tryd.ntmps49
  go_wp2_with fail
  refine (next_some _ HP0.out HB.out).mono ?_
  rintro e w1 ⟨rfl, hp1, hk1⟩
  have hR1 := HR0.out.kept hk1 hne
  have hK1 := HK0.out.then_ hk1
  clear HR0 HP0 HK0 hk1
  go_wp2_with fail
  refine (HI.out w1).mono ?_
  rintro e w2 ⟨rfl, rfl⟩
  go_wp2_with fail
  refine (one_v b _).mono ?_
  rintro e w3 ⟨rfl, hb3⟩
  have hR3 := hR1.below hb3 hR1.lt
  have hK3 := hK1.then_ (Kept.of_below hb3)
  have hp3 := PS.kept hp1 (Kept.of_below (F := fun _ => False) hb3) id
  clear hR1 hK1 hp1 hb3
  obtain ⟨⟨⟨c0, c1⟩, c2, c3⟩, ⟨c4, c5⟩, c6, c7⟩ := hR3.cells
  obtain ⟨⟨⟨f0, f1⟩, f2, f3⟩, ⟨f4, f5⟩, f6, f7⟩ := hR3.free
  have HZ := Lib.hid (hR3.all (.int .i64 2) (.int .u64 (wd (oneS b.toNat) 0)) (.int .u64 (wd (oneS b.toNat) 1)) (.int .u64 (wd (oneS b.toNat) 2)) (.int .u64 (wd (oneS b.toNat) 3)) (.int .i64 0) (.int .i64 0) (.slice none 0 0))
  have HP := Lib.hid (hp3.far8 (X := w.heap.size) (by omega) (.int .i64 2) (.int .u64 (wd (oneS b.toNat) 0)) (.int .u64 (wd (oneS b.toNat) 1)) (.int .u64 (wd (oneS b.toNat) 2)) (.int .u64 (wd (oneS b.toNat) 3)) (.int .i64 0) (.int .i64 0) (.slice none 0 0))
  have HK := Lib.hid (kept_set8 hK3 (g := w.heap.size) (.inr (Nat.le_refl _)) (.int .i64 2) (.int .u64 (wd (oneS b.toNat) 0)) (.int .u64 (wd (oneS b.toNat) 1)) (.int .u64 (wd (oneS b.toNat) 2)) (.int .u64 (wd (oneS b.toNat) 3)) (.int .i64 0) (.int .i64 0) (.slice none 0 0))
  clear hR3
  go_wp2_with fail
  obtain ⟨⟨⟨d0, d1⟩, d2, d3⟩, ⟨d4, d5⟩, d6, d7⟩ := HZ.out.cells
  unfold set8 at d0 d1 d2 d3 d4 d5 d6 d7
  refine bodyPost_ret (v := .agg #[.int .i64 2, .int .u64 (wd (oneS b.toNat) 0), .int .u64 (wd (oneS b.toNat) 1), .int .u64 (wd (oneS b.toNat) 2), .int .u64 (wd (oneS b.toNat) 3), .int .i64 0, .int .i64 0, .slice none 0 0]) (by simp [results, Tryd.results49, go_sem, d0, d1, d2, d3, d4, d5, d6, d7]) rfl ?_
  exact ⟨_, rfl, RxV.set_any _ _ _, HP.out, HK.out⟩
theorem term_any {T : List UInt8} {g k : Nat} (w : World) (E : Nat → Option (Rx × Nat)) (h : PS T w g k) (hE : ∀ w1, PS T w1 g (k + 1) → Calls Tryd.prog 18 #[.pointer (some ⟨g, 0, none⟩)] w1 (TRes T w1 g (E (k + 1)))) : Calls Tryd.prog 49 #[.pointer (some ⟨g, 0, none⟩)] w (TRes T w g (termP T E k)) := by
  unfold termP
  rcases hb : T[k]? with _ | b
  · exact term_none w h hb
  simp only
  by_cases h92 : b = 92
  · rw [if_pos h92]
    subst h92
    rcases he : escP T (k + 1) with _ | ⟨x, k'⟩
    · exact term_esc0 w h hb he
    · exact term_esc1 w h hb he
  rw [if_neg h92]
  by_cases h46 : b = 46
  · rw [if_pos h46]
    subst h46
    exact term_dot w h hb
  rw [if_neg h46]
  by_cases h91 : b = 91
  · rw [if_pos h91]
    subst h91
    rcases he : classP T (k + 1) with _ | ⟨x, k'⟩
    · exact term_cls0 w h hb he
    · exact term_cls1 w h hb he
  rw [if_neg h91]
  by_cases h40 : b = 40
  · rw [if_pos h40]
    subst h40
    rcases he : E (k + 1) with _ | ⟨r, k'⟩
    · rw [he] at hE
      exact term_par0 w h hb hE
    · rw [he] at hE
      simp only
      by_cases hc : T[k']? = some 41
      · rw [if_pos hc]; exact term_par2 w h hb hE hc
      · rw [if_neg hc]; exact term_par1 w h hb hE hc
  rw [if_neg h40]
  rcases hs : specials.contains b with _ | _
  · exact term_plain w h hb h92 h46 h91 h40 hs
  · exact term_spec w h hb h92 h46 h91 h40 hs
end Go.Proofs.YtpiagfmjekcncaaDoor
