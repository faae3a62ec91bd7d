/- The walk of the document's Check, at a tree that is formed (printed by gen_gr.py). -/
import Derived.Test.YtpiagfmjekcncaaDoorjGq
set_option linter.unusedVariables false
set_option linter.unusedSimpArgs false
set_option linter.unusedSectionVars false
namespace Go.Proofs.YtpiagfmjekcncaaDoor
open Go.RowKit
set_option maxRecDepth 100000 in
set_option maxHeartbeats 8000000 in
theorem gcheck_any (r : Rx) (cs : List Value) (w : World) (F : Nat → Prop) (hv : RxV w F r cs) (hF : ∀ i, F i → i < w.heap.size) (hf : r.fmd) (ht : r.tame) (hN : NoneAt w) (hs : r.size ≤ 1000000000) :
    Calls Tryd.prog 21 #[.agg cs.toArray] w fun e w' => e = .returned (.int .i64 (if r.fits then 0 else 9)) ∧ Below w.heap.size w w' := by
  obtain ⟨kind, m0, m1, m2, m3, lo, hi, A, n, c, rfl⟩ := hv.eight
  have hvb : ∀ w', Below w.heap.size w w' → RxV w' F r [.int .i64 kind, .int .u64 m0, .int .u64 m1, .int .u64 m2, .int .u64 m3, .int .i64 lo, .int .i64 hi, .slice A n c] := fun w' hb => hv.kept (Kept.of_below (F := fun _ => False) hb) (fun _ _ _ => id) (fun i hi _ => hi)
  have hFb : ∀ w', Below w.heap.size w w' → ∀ i, F i → i < w'.heap.size := fun w' hb i hi => Nat.lt_of_lt_of_le (hF i hi) hb.size
  have H1 := Lib.hid (fun w' hb => gformed_any r.size r (Nat.le_refl _) _ w' F (hvb w' hb) (hFb w' hb) hf (hN.below hb hN.1) hs)
  have H2 := Lib.hid (fun w' hb => gsize_any r.size r (Nat.le_refl _) _ w' F (hvb w' hb) (hFb w' hb) hs)
  have H3 := Lib.hid (fun w' hb => gdepth_any r.size r (Nat.le_refl _) _ w' F (hvb w' hb) (hFb w' hb) hs)
  have H4 := Lib.hid (fun w' hb => gpos_any r.size r (Nat.le_refl _) _ w' F (hvb w' hb) (hFb w' hb) ⟨ht, hs⟩)
  have H5 := Lib.hid (fun w' hb => gwri_any r.size r (Nat.le_refl _) _ w' F (hvb w' hb) (hFb w' hb) ⟨ht, hs⟩)
  have HR0 := Lib.hid (show R8 (w.alloc (.cells #[.int .i64 kind, .int .u64 m0, .int .u64 m1, .int .u64 m2, .int .u64 m3, .int .i64 lo, .int .i64 hi, .slice A n c] 27)) w.heap.size (.int .i64 kind) (.int .u64 m0) (.int .u64 m1) (.int .u64 m2) (.int .u64 m3) (.int .i64 lo) (.int .i64 hi) (.slice A n c) from Blk.new w _ _)
  have HB0 := Lib.hid ((Below.refl w.heap.size w).alloc (Nat.le_refl _) (.cells #[.int .i64 kind, .int .u64 m0, .int .u64 m1, .int .u64 m2, .int .u64 m3, .int .i64 lo, .int .i64 hi, .slice A n c] 27))
  obtain ⟨w1, hw1⟩ : ∃ w1, w1 = w.alloc (.cells #[.int .i64 kind, .int .u64 m0, .int .u64 m1, .int .u64 m2, .int .u64 m3, .int .i64 lo, .int .i64 hi, .slice A n c] 27) := ⟨_, rfl⟩
  rw [← hw1] at HR0 HB0
  have HW1 := Lib.hid hw1
  have hfits : r.fits = (decide (r.size ≤ 256) && decide (r.depth ≤ 32) && decide (r.posK ≤ 64) && decide (r.wriK ≤ 4096)) := by
    unfold Rx.fits Rx.posK Rx.wriK
    congr 1
    · congr 1
      exact decide_eq_decide.2 (by omega)
    · exact decide_eq_decide.2 (by omega)
  obtain ⟨z, hz⟩ : ∃ z, z = r.fits := ⟨_, rfl⟩
  rw [← hz] at hfits ⊢
  have hpk := posK_le r
  have hwk := wriK_le r
  have hdk := depth_le_size _ r (Nat.le_refl _)
  obtain ⟨s1, hs1⟩ : ∃ s1, s1 = r.size := ⟨_, rfl⟩
  obtain ⟨d1, hd1⟩ : ∃ d1, d1 = r.depth := ⟨_, rfl⟩
  obtain ⟨p1, hp1⟩ : ∃ p1, p1 = r.posK := ⟨_, rfl⟩
  obtain ⟨q1, hq1⟩ : ∃ q1, q1 = r.wriK := ⟨_, rfl⟩
  rw [← hs1] at H2 hfits hs hdk
  rw [← hd1] at H3 hfits hdk
  rw [← hp1] at H4 hfits hpk
  rw [← hq1] at H5 hfits hwk
  clear hv hvb hF hFb hf ht hN hw1 hs1 hd1 hp1 hq1 hz
  obtain ⟨⟨⟨c0, c1⟩, c2, c3⟩, ⟨c4, c5⟩, c6, c7⟩ := HR0.out.cells
  go_enter Tryd.func21, Tryd.ntmps21
  go_upto_region 1 with (fail)
  rw [← HW1.out]
  clear HW1
  go_wp2_with fail
  refine (H1.out _ HB0.out).mono ?_
  rintro ee w2 ⟨rfl, hb1⟩
  have HB1 := Lib.hid (HB0.out.trans (hb1.mono HB0.out.size))
  have HR1 := Lib.hid (HR0.out.below hb1 HR0.out.lt)
  clear hb1 HB0 HR0 c0 c1 c2 c3 c4 c5 c6 c7
  obtain ⟨⟨⟨c0, c1⟩, c2, c3⟩, ⟨c4, c5⟩, c6, c7⟩ := HR1.out.cells
  by_cases k0 : 256 < s1
  · have hz : z = false := by rw [hfits]; simp; omega
    subst hz
    clear hfits
    have e0 : decide (256 < (s1 : Int)) = true := by simp; omega
    go_wp2_with fail
    refine (H2.out _ HB1.out).mono ?_
    rintro ee w3 ⟨rfl, hb2⟩
    have HB2 := Lib.hid (HB1.out.trans (hb2.mono HB1.out.size))
    have HR2 := Lib.hid (HR1.out.below hb2 HR1.out.lt)
    clear hb2 HB1 HR1 c0 c1 c2 c3 c4 c5 c6 c7
    obtain ⟨⟨⟨c0, c1⟩, c2, c3⟩, ⟨c4, c5⟩, c6, c7⟩ := HR2.out.cells
    go_wp2_with fail
    go_ret
    exact ⟨rfl, HB2.out⟩
  by_cases k1 : 32 < d1
  · have hz : z = false := by rw [hfits]; simp; omega
    subst hz
    clear hfits
    have e0 : decide (256 < (s1 : Int)) = false := by simp; omega
    have e1 : decide (32 < (d1 : Int)) = true := by simp; omega
    go_wp2_with fail
    refine (H2.out _ HB1.out).mono ?_
    rintro ee w3 ⟨rfl, hb2⟩
    have HB2 := Lib.hid (HB1.out.trans (hb2.mono HB1.out.size))
    have HR2 := Lib.hid (HR1.out.below hb2 HR1.out.lt)
    clear hb2 HB1 HR1 c0 c1 c2 c3 c4 c5 c6 c7
    obtain ⟨⟨⟨c0, c1⟩, c2, c3⟩, ⟨c4, c5⟩, c6, c7⟩ := HR2.out.cells
    go_wp2_with fail
    refine (H3.out _ HB2.out).mono ?_
    rintro ee w4 ⟨rfl, hb3⟩
    have HB3 := Lib.hid (HB2.out.trans (hb3.mono HB2.out.size))
    have HR3 := Lib.hid (HR2.out.below hb3 HR2.out.lt)
    clear hb3 HB2 HR2 c0 c1 c2 c3 c4 c5 c6 c7
    obtain ⟨⟨⟨c0, c1⟩, c2, c3⟩, ⟨c4, c5⟩, c6, c7⟩ := HR3.out.cells
    go_wp2_with fail
    go_ret
    exact ⟨rfl, HB3.out⟩
  by_cases k2 : 64 < p1
  · have hz : z = false := by rw [hfits]; simp; omega
    subst hz
    clear hfits
    have e0 : decide (256 < (s1 : Int)) = false := by simp; omega
    have e1 : decide (32 < (d1 : Int)) = false := by simp; omega
    have e2 : decide (64 < (p1 : Int)) = true := by simp; omega
    go_wp2_with fail
    refine (H2.out _ HB1.out).mono ?_
    rintro ee w3 ⟨rfl, hb2⟩
    have HB2 := Lib.hid (HB1.out.trans (hb2.mono HB1.out.size))
    have HR2 := Lib.hid (HR1.out.below hb2 HR1.out.lt)
    clear hb2 HB1 HR1 c0 c1 c2 c3 c4 c5 c6 c7
    obtain ⟨⟨⟨c0, c1⟩, c2, c3⟩, ⟨c4, c5⟩, c6, c7⟩ := HR2.out.cells
    go_wp2_with fail
    refine (H3.out _ HB2.out).mono ?_
    rintro ee w4 ⟨rfl, hb3⟩
    have HB3 := Lib.hid (HB2.out.trans (hb3.mono HB2.out.size))
    have HR3 := Lib.hid (HR2.out.below hb3 HR2.out.lt)
    clear hb3 HB2 HR2 c0 c1 c2 c3 c4 c5 c6 c7
    obtain ⟨⟨⟨c0, c1⟩, c2, c3⟩, ⟨c4, c5⟩, c6, c7⟩ := HR3.out.cells
    go_wp2_with fail
    refine (H4.out _ HB3.out).mono ?_
    rintro ee w5 ⟨rfl, hb4⟩
    have HB4 := Lib.hid (HB3.out.trans (hb4.mono HB3.out.size))
    have HR4 := Lib.hid (HR3.out.below hb4 HR3.out.lt)
    clear hb4 HB3 HR3 c0 c1 c2 c3 c4 c5 c6 c7
    obtain ⟨⟨⟨c0, c1⟩, c2, c3⟩, ⟨c4, c5⟩, c6, c7⟩ := HR4.out.cells
    go_wp2_with fail
    go_ret
    exact ⟨rfl, HB4.out⟩
  by_cases k3 : 4096 < q1
  · have hz : z = false := by rw [hfits]; simp; omega
    subst hz
    clear hfits
    have e0 : decide (256 < (s1 : Int)) = false := by simp; omega
    have e1 : decide (32 < (d1 : Int)) = false := by simp; omega
    have e2 : decide (64 < (p1 : Int)) = false := by simp; omega
    have e3 : decide (4096 < (q1 : Int)) = true := by simp; omega
    go_wp2_with fail
    refine (H2.out _ HB1.out).mono ?_
    rintro ee w3 ⟨rfl, hb2⟩
    have HB2 := Lib.hid (HB1.out.trans (hb2.mono HB1.out.size))
    have HR2 := Lib.hid (HR1.out.below hb2 HR1.out.lt)
    clear hb2 HB1 HR1 c0 c1 c2 c3 c4 c5 c6 c7
    obtain ⟨⟨⟨c0, c1⟩, c2, c3⟩, ⟨c4, c5⟩, c6, c7⟩ := HR2.out.cells
    go_wp2_with fail
    refine (H3.out _ HB2.out).mono ?_
    rintro ee w4 ⟨rfl, hb3⟩
    have HB3 := Lib.hid (HB2.out.trans (hb3.mono HB2.out.size))
    have HR3 := Lib.hid (HR2.out.below hb3 HR2.out.lt)
    clear hb3 HB2 HR2 c0 c1 c2 c3 c4 c5 c6 c7
    obtain ⟨⟨⟨c0, c1⟩, c2, c3⟩, ⟨c4, c5⟩, c6, c7⟩ := HR3.out.cells
    go_wp2_with fail
    refine (H4.out _ HB3.out).mono ?_
    rintro ee w5 ⟨rfl, hb4⟩
    have HB4 := Lib.hid (HB3.out.trans (hb4.mono HB3.out.size))
    have HR4 := Lib.hid (HR3.out.below hb4 HR3.out.lt)
    clear hb4 HB3 HR3 c0 c1 c2 c3 c4 c5 c6 c7
    obtain ⟨⟨⟨c0, c1⟩, c2, c3⟩, ⟨c4, c5⟩, c6, c7⟩ := HR4.out.cells
    go_wp2_with fail
    refine (H5.out _ HB4.out).mono ?_
    rintro ee w6 ⟨rfl, hb5⟩
    have HB5 := Lib.hid (HB4.out.trans (hb5.mono HB4.out.size))
    have HR5 := Lib.hid (HR4.out.below hb5 HR4.out.lt)
    clear hb5 HB4 HR4 c0 c1 c2 c3 c4 c5 c6 c7
    obtain ⟨⟨⟨c0, c1⟩, c2, c3⟩, ⟨c4, c5⟩, c6, c7⟩ := HR5.out.cells
    go_wp2_with fail
    go_ret
    exact ⟨rfl, HB5.out⟩
  have hz : z = true := by rw [hfits]; simp; omega
  subst hz
  clear hfits
  have e0 : decide (256 < (s1 : Int)) = false := by simp; omega
  have e1 : decide (32 < (d1 : Int)) = false := by simp; omega
  have e2 : decide (64 < (p1 : Int)) = false := by simp; omega
  have e3 : decide (4096 < (q1 : Int)) = false := by simp; omega
  go_wp2_with fail
  refine (H2.out _ HB1.out).mono ?_
  rintro ee w3 ⟨rfl, hb2⟩
  have HB2 := Lib.hid (HB1.out.trans (hb2.mono HB1.out.size))
  have HR2 := Lib.hid (HR1.out.below hb2 HR1.out.lt)
  clear hb2 HB1 HR1 c0 c1 c2 c3 c4 c5 c6 c7
  obtain ⟨⟨⟨c0, c1⟩, c2, c3⟩, ⟨c4, c5⟩, c6, c7⟩ := HR2.out.cells
  go_wp2_with fail
  refine (H3.out _ HB2.out).mono ?_
  rintro ee w4 ⟨rfl, hb3⟩
  have HB3 := Lib.hid (HB2.out.trans (hb3.mono HB2.out.size))
  have HR3 := Lib.hid (HR2.out.below hb3 HR2.out.lt)
  clear hb3 HB2 HR2 c0 c1 c2 c3 c4 c5 c6 c7
  obtain ⟨⟨⟨c0, c1⟩, c2, c3⟩, ⟨c4, c5⟩, c6, c7⟩ := HR3.out.cells
  go_wp2_with fail
  refine (H4.out _ HB3.out).mono ?_
  rintro ee w5 ⟨rfl, hb4⟩
  have HB4 := Lib.hid (HB3.out.trans (hb4.mono HB3.out.size))
  have HR4 := Lib.hid (HR3.out.below hb4 HR3.out.lt)
  clear hb4 HB3 HR3 c0 c1 c2 c3 c4 c5 c6 c7
  obtain ⟨⟨⟨c0, c1⟩, c2, c3⟩, ⟨c4, c5⟩, c6, c7⟩ := HR4.out.cells
  go_wp2_with fail
  refine (H5.out _ HB4.out).mono ?_
  rintro ee w6 ⟨rfl, hb5⟩
  have HB5 := Lib.hid (HB4.out.trans (hb5.mono HB4.out.size))
  have HR5 := Lib.hid (HR4.out.below hb5 HR4.out.lt)
  clear hb5 HB4 HR4 c0 c1 c2 c3 c4 c5 c6 c7
  obtain ⟨⟨⟨c0, c1⟩, c2, c3⟩, ⟨c4, c5⟩, c6, c7⟩ := HR5.out.cells
  go_wp2_with fail
  go_ret
  exact ⟨rfl, HB5.out⟩
end Go.Proofs.YtpiagfmjekcncaaDoor
