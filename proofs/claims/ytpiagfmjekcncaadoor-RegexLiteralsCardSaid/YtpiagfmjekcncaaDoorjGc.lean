/- The walk of the counter's bounds of the document's parser (printed by gen_gc.py). -/
import Derived.Test.YtpiagfmjekcncaaDoorjGb
set_option linter.unusedVariables false
set_option linter.unusedSimpArgs false
set_option linter.unusedSectionVars false
namespace Go.Proofs.YtpiagfmjekcncaaDoor
open Go.RowKit
set_option maxHeartbeats 4000000 in
theorem gbounds_any {T : List UInt8} {g k0 : Nat} (w : World) (h : GS T w g k0 false) (hT : T.length ≤ 262144) (hk0 : k0 ≤ T.length) : Calls Tryd.prog 66 #[.pointer (some ⟨g, 0, none⟩)] w fun e w' =>
    e = .returned (.tuple #[.int .i64 (Gr.bnd T k0).1, .int .i64 (Gr.bnd T k0).2.1]) ∧ GS T w' g (Gr.bnd T k0).2.2.1 (Gr.bnd T k0).2.2.2 ∧ Kept (isG g) w w' := by
  obtain ⟨Z, hZ⟩ : ∃ Z, Z = Gr.bnd T k0 := ⟨_, rfl⟩
  rw [← hZ]
  unfold Gr.bnd at hZ
  have l1 := gr_num_le (T := T) k0 false
  have HN := Lib.hid (gnumber_any w h hT (by omega))
  obtain ⟨lo, k1, b1, hq1⟩ : ∃ lo k1 b1, Gr.num T k0 false = (lo, k1, b1) := ⟨_, _, _, rfl⟩
  rw [hq1] at hZ l1 HN
  dsimp only at hZ l1 HN
  have HZ := Lib.hid hZ
  clear h hq1 hZ
  go_enter Tryd.func66, Tryd.ntmps66
  go_wp2_with fail
  refine HN.out.mono ?_
  rintro e w1 ⟨rfl, hs1, hk1⟩
  have HS1 := Lib.hid hs1
  have HK1 := Lib.hid hk1
  have HX := Lib.hid (gnext_any w1 hs1 hT (by omega))
  clear hs1 hk1 HN
  go_wp2_with fail
  refine HX.out.mono ?_
  rintro e w2 ⟨rfl, n2, rfl⟩
  clear HX
  have HS2 := Lib.hid (HS1.out.drewN n2)
  have HK2 := Lib.hid (HK1.out.drewN n2)
  obtain ⟨w2, hw2⟩ : ∃ w2, w2 = w1.drewN n2 := ⟨_, rfl⟩
  rw [← hw2] at HS2 HK2 ⊢
  clear hw2 HS1 HK1
  obtain ⟨c1, hc1⟩ : ∃ c, c = Gr.nx T k1 := ⟨_, rfl⟩
  rw [← hc1]
  by_cases h44 : c1 = 44
  · have t1 : ((c1.toNat : Int) == 44) = true := by rw [h44]; rfl
    have hl1 : k1 < T.length := gr_nx_lt (T := T) (by rw [← hc1, h44]; decide)
    have hZ := HZ.out
    rw [← hc1, if_pos h44] at hZ
    have HZ2 := Lib.hid hZ
    clear hZ HZ hc1 h44
    obtain ⟨c0, d1, d2, q1, q2⟩ := HS2.out.cells
    have HS3 := Lib.hid (HS2.out.go (k1 + 1))
    have HK3 := Lib.hid (HK2.out.setCell (p := ⟨g, 1, none⟩) (.inl rfl) (.int .i64 ((k1 + 1 : Nat) : Int)))
    obtain ⟨w3, hw3⟩ : ∃ w3, w3 = w2.setCell ⟨g, 1, none⟩ (.int .i64 ((k1 + 1 : Nat) : Int)) := ⟨_, rfl⟩
    rw [← hw3] at HS3 HK3
    rw [show ((k1 + 1 : Nat) : Int) = (k1 : Int) + 1 by omega] at hw3
    have HW3 := Lib.hid hw3
    clear hw3
    have HX := Lib.hid (gnext_any w3 HS3.out hT (by omega))
    go_wp2_with fail
    rw [← HW3.out]
    refine HX.out.mono ?_
    rintro e w4 ⟨rfl, n4, rfl⟩
    clear HX c0 d1 d2 q1 q2 HW3
    have HS4 := Lib.hid (HS3.out.drewN n4)
    have HK4 := Lib.hid (HK3.out.drewN n4)
    obtain ⟨w4, hw4⟩ : ∃ w4, w4 = w3.drewN n4 := ⟨_, rfl⟩
    rw [← hw4] at HS4 HK4 ⊢
    clear hw4
    obtain ⟨c2, hc2⟩ : ∃ c, c = Gr.nx T (k1 + 1) := ⟨_, rfl⟩
    rw [← hc2]
    by_cases h125 : c2 = 125
    · have t2 : ((c2.toNat : Int) != 125) = false := by rw [h125]; rfl
      have hl2 : k1 + 1 < T.length := gr_nx_lt (T := T) (by rw [← hc2, h125]; decide)
      have hZ := HZ2.out
      rw [← hc2, if_pos h125] at hZ
      have HZ3 := Lib.hid hZ
      have HC2 := Lib.hid hc2
      clear hZ HZ2 hc2 h125
      obtain ⟨c0, d1, d2, q1, q2⟩ := HS4.out.cells
      have HX := Lib.hid (gnext_any w4 HS4.out hT (by omega))
      go_wp2_with fail
      refine HX.out.mono ?_
      rintro e w5 ⟨rfl, n5, rfl⟩
      have HS5 := Lib.hid (HS4.out.drewN n5)
      have HK5 := Lib.hid (HK4.out.drewN n5)
      obtain ⟨w5, hw5⟩ : ∃ w5, w5 = w4.drewN n5 := ⟨_, rfl⟩
      rw [← hw5] at HS5 HK5 ⊢
      clear hw5 HX c0 d1 d2 q1 q2
      obtain ⟨c0, d1, d2, q1, q2⟩ := HS5.out.cells
      rw [← HC2.out]
      cases b1
      · have hZ := HZ3.out
        have he := HS5.out.end HK5.out false (k1 + 2)
        rw [show ((k1 + 2 : Nat) : Int) = (k1 : Int) + 1 + 1 by omega] at he
        have HE := Lib.hid he
        clear hZ he
        go_wp2_with fail
        go_ret2
        rw [HZ3.out]
        exact ⟨rfl, HE.out⟩
      · have he := HS5.out.end HK5.out true (k1 + 2)
        rw [show ((k1 + 2 : Nat) : Int) = (k1 : Int) + 1 + 1 by omega] at he
        have HE := Lib.hid he
        clear he
        go_wp2_with fail
        go_ret2
        rw [HZ3.out]
        exact ⟨rfl, HE.out⟩
    · have t2 : ((c2.toNat : Int) != 125) = true := by rw [show (125 : Int) = ((125 : UInt8).toNat : Int) from rfl, u8_ne_int]; exact bne_iff_ne.2 h125
      have hZ := HZ2.out
      rw [← hc2, if_neg h125] at hZ
      have l2 := gr_num_le (T := T) (k1 + 1) b1
      have HN := Lib.hid (gnumber_any w4 HS4.out hT (by omega))
      obtain ⟨hi, k2, b2, hq2⟩ : ∃ hi k2 b2, Gr.num T (k1 + 1) b1 = (hi, k2, b2) := ⟨_, _, _, rfl⟩
      rw [hq2] at hZ l2 HN
      dsimp only at hZ l2 HN
      obtain ⟨c3, hc3⟩ : ∃ c, c = Gr.nx T k2 := ⟨_, rfl⟩
      rw [← hc3] at hZ
      have HZ3 := Lib.hid hZ
      have HC3 := Lib.hid hc3
      clear hZ HZ2 hc2 hc3 h125 hq2
      go_wp2_with fail
      refine HN.out.mono ?_
      rintro e w5 ⟨rfl, hs5, hk5⟩
      have HS5 := Lib.hid hs5
      have HK5 := Lib.hid (HK4.out.then_ hk5)
      clear hs5 hk5 HN HS4 HK4
      obtain ⟨c0, d1, d2, q1, q2⟩ := HS5.out.cells
      obtain ⟨b3, hb3⟩ : ∃ b3, b3 = (b2 || decide (hi < lo)) := ⟨_, rfl⟩
      rw [← hb3] at HZ3
      have HS6 := Lib.hid (HS5.out.mark b3)
      have HK6 := Lib.hid (HK5.out.setCell (p := ⟨g, 2, none⟩) (.inl rfl) (.bool b3))
      obtain ⟨w6, hw6⟩ : ∃ w6, w6 = w5.setCell ⟨g, 2, none⟩ (.bool b3) := ⟨_, rfl⟩
      rw [← hw6] at HS6 HK6
      have HX := Lib.hid (gnext_any w6 HS6.out hT (by omega))
      have hb4 : b3 = if b2 = true then true else decide (hi < lo) := by
        rw [hb3]
        cases b2
        · rw [if_neg (by decide), Bool.false_or]
        · rfl
      have HB3 := Lib.hid hb4
      have HW6 := Lib.hid hw6
      clear hb3 hb4 hw6
      cases b2
      all_goals
        have hb4 := HB3.out
        first | rw [if_pos rfl] at hb4 | rw [if_neg (by decide)] at hb4
        have hw6 := HW6.out
        rw [hb4] at hw6
        have HW7 := Lib.hid hw6
        clear hw6 hb4
        go_wp2_with fail
        rw [← HW7.out]
        refine HX.out.mono ?_
        rintro e w7 ⟨rfl, n7, rfl⟩
        have HS7 := Lib.hid (HS6.out.drewN n7)
        have HK7 := Lib.hid (HK6.out.drewN n7)
        obtain ⟨w7, hw7⟩ : ∃ w7, w7 = w6.drewN n7 := ⟨_, rfl⟩
        rw [← hw7] at HS7 HK7 ⊢
        clear hw7 HX c0 d1 d2 q1 q2 HW7 HW6 HB3
        obtain ⟨c0, d1, d2, q1, q2⟩ := HS7.out.cells
        rw [← HC3.out]
        cases b3
        · have he := HS7.out.end HK7.out ((c3.toNat : Int) != 125) (k2 + 1)
          rw [show ((k2 + 1 : Nat) : Int) = (k2 : Int) + 1 by omega] at he
          have HE := Lib.hid he
          clear he
          go_wp2_with fail
          go_ret2
          rw [HZ3.out]
          refine ⟨rfl, ?_⟩
          have h9 := HE.out
          rw [show (125 : Int) = ((125 : UInt8).toNat : Int) from rfl, u8_ne_int] at h9 ⊢
          exact h9
        · have he := HS7.out.end HK7.out true (k2 + 1)
          rw [show ((k2 + 1 : Nat) : Int) = (k2 : Int) + 1 by omega] at he
          have HE := Lib.hid he
          clear he
          go_wp2_with fail
          go_ret2
          rw [HZ3.out]
          exact ⟨rfl, HE.out⟩
  · have t1 : ((c1.toNat : Int) == 44) = false := glit (c := 44) h44
    have hZ := HZ.out
    rw [← hc1, if_neg h44] at hZ
    have HZ2 := Lib.hid hZ
    have HC1 := Lib.hid hc1
    clear hZ HZ hc1
    obtain ⟨c0, d1, d2, q1, q2⟩ := HS2.out.cells
    have HX := Lib.hid (gnext_any w2 HS2.out hT (by omega))
    go_wp2_with fail
    refine HX.out.mono ?_
    rintro e w3 ⟨rfl, n3, rfl⟩
    have HS3 := Lib.hid (HS2.out.drewN n3)
    have HK3 := Lib.hid (HK2.out.drewN n3)
    obtain ⟨w3, hw3⟩ : ∃ w3, w3 = w2.drewN n3 := ⟨_, rfl⟩
    rw [← hw3] at HS3 HK3 ⊢
    clear hw3 HX c0 d1 d2 q1 q2
    obtain ⟨c0, d1, d2, q1, q2⟩ := HS3.out.cells
    rw [← HC1.out]
    cases b1
    · have he := HS3.out.end HK3.out ((c1.toNat : Int) != 125) (k1 + 1)
      rw [show ((k1 + 1 : Nat) : Int) = (k1 : Int) + 1 by omega] at he
      have HE := Lib.hid he
      clear he
      go_wp2_with fail
      go_ret2
      rw [HZ2.out]
      refine ⟨rfl, ?_⟩
      have h9 := HE.out
      rw [show (125 : Int) = ((125 : UInt8).toNat : Int) from rfl, u8_ne_int] at h9 ⊢
      exact h9
    · have he := HS3.out.end HK3.out true (k1 + 1)
      rw [show ((k1 + 1 : Nat) : Int) = (k1 : Int) + 1 by omega] at he
      have HE := Lib.hid he
      clear he
      go_wp2_with fail
      go_ret2
      rw [HZ2.out]
      exact ⟨rfl, HE.out⟩
end Go.Proofs.YtpiagfmjekcncaaDoor
