/- The walk of the law OptimizeEnds: to an optimized plan no rule applies (printed by gen_lopt.py). -/
import Derived.Test.YtniefnjcimempaarRzA
import Derived.Test.YtniefnjcimempaarRzB
import Derived.Test.YtniefnjcimempaarRzC
import Derived.Test.YtniefnjcimempaarRl
import Derived.StillTailTactics
namespace Go.Proofs.Ytniefnjcimempaa
open Go.RowKit
def EnRel (wb : World) (f : Nat) (i : Value) (wr : World) : Prop := ∃ k : Nat, i = .int .i64 k ∧ k ≤ 11 ∧ 11 - k < f ∧ Hid (Below wb.heap.size wb wr)
theorem anyR_none {l : List St} (h : Oz.anyR l = none) {k : Nat} (hk : k < 11) : Oz.applyR k l = none := by
  unfold Oz.anyR at h
  rw [List.findSome?_eq_none_iff] at h
  exact h k (List.mem_range.2 hk)
set_option maxRecDepth 100000 in
set_option maxHeartbeats 8000000 in
theorem ends_law (A : Option Addr) (c : Nat) (l : List St) (w : World) (h : ArgPl w A l) (hn : l.length ≤ 1048576) (ha : ∀ s ∈ l, s.args.length ≤ 2000000) (ht : TxOk l) :
    Calls Try.prog 5 #[.slice A l.length c] w (AwEnd w) := by
  obtain ⟨n, hnn⟩ : ∃ n, n = l.length := ⟨_, rfl⟩
  have HN := Lib.hid hnn
  have HA := Lib.hid h
  have HM := Lib.hid ha
  have HT := Lib.hid ht
  rw [← hnn] at hn ⊢
  clear h ha ht hnn
  go_enter Try.func5, Try.ntmps5
  go_wp2_with fail
  refine (awake_any _).mono ?_
  rintro e w1 ⟨rfl, hb1⟩
  have HB1 := Lib.hid hb1
  by_cases hbig : 60 < n
  · have q0 : (60 : Int) < (n : Int) := by omega
    clear hb1
    go_wp2_with fail
    refine (awake_any _).mono ?_
    rintro e w2 ⟨rfl, hb2⟩
    have HB2 := Lib.hid (HB1.out.trans (hb2.mono HB1.out.size))
    clear hb2
    go_wp2_with fail
    go_ret
    exact ⟨rfl, HB2.out⟩
  have q0 : ¬ ((60 : Int) < (n : Int)) := by omega
  have hn6 : n ≤ 60 := by omega
  have HMD : Hid (Modest l) := Lib.hid ⟨by have := HN.out; omega, fun s hs => ⟨HM.out s hs, HT.out s hs⟩⟩
  have hto := fun w' (hb : Below w.heap.size w w') => to_any A c l w' (HA.out.below hb) (by have := HN.out; omega) HM.out
  rw [← HN.out] at hto
  have HTO := Lib.hid hto
  have HT1 := Lib.hid (hto w1 hb1)
  clear hb1 hto hbig
  go_wp2_with fail
  refine HT1.out.mono ?_
  rintro e w2 ⟨hb2, A2, c2, he2, hp2⟩
  rw [← HN.out] at he2
  subst he2
  have HB2 := Lib.hid (HB1.out.trans (hb2.mono HB1.out.size))
  have hck := Check_any A2 c2 l w2 (hp2.keep (w' := w2) (fun _ _ _ => rfl) (Nat.le_refl _) (fun i hi _ => hi.2)) HMD.out
  rw [← HN.out] at hck
  have HCK := Lib.hid hck
  clear hb2 hp2 hck HT1
  go_wp2_with fail
  refine HCK.out.mono ?_
  rintro e w3 ⟨rfl, hb3⟩
  have HB3 := Lib.hid (HB2.out.trans (hb3.mono HB2.out.size))
  clear hb3 HCK HB1 HB2
  obtain ⟨x, hx⟩ : ∃ x, x = checkR l := ⟨_, rfl⟩
  rw [← hx]
  have HX := Lib.hid hx
  clear hx
  by_cases hx0 : x = 0
  rotate_left
  · obtain ⟨v, hv⟩ : ∃ v, errV x = .iface 37 (.int .i64 v) := ⟨x, if_neg hx0⟩
    rw [hv]
    clear hv hx0
    go_wp2_with fail
    refine (awake_any _).mono ?_
    rintro e w4 ⟨rfl, hb4⟩
    have HB4 := Lib.hid (HB3.out.trans (hb4.mono HB3.out.size))
    clear hb4
    go_wp2_with fail
    go_ret
    exact ⟨rfl, HB4.out⟩
  subst hx0
  have HSD : Hid (Sound l) := Lib.hid ⟨HX.out.symm, HT.out⟩
  rw [show errV 0 = Value.nilIface from rfl]
  have HT3 := Lib.hid (HTO.out w3 HB3.out)
  go_wp2_with fail
  refine HT3.out.mono ?_
  rintro e w4 ⟨hb4, A4, c4, he4, hp4⟩
  rw [← HN.out] at he4
  subst he4
  have HB4 := Lib.hid (HB3.out.trans (hb4.mono HB3.out.size))
  have HP4 : Hid (PlAt w4 (fun i => i < w4.heap.size) A4 l) := Lib.hid (hp4.keep (w' := w4) (fun _ _ _ => rfl) (Nat.le_refl _) (fun i hi _ => hi.2))
  clear hb4 hp4 HT3
  have hof := of_x A4 c4 l w4 HP4.out HSD.out.check HMD.out
  rw [← HN.out] at hof
  obtain ⟨L, hL⟩ : ∃ L, L = ofR l := ⟨_, rfl⟩
  have HLL := Lib.hid hL
  rw [← hL] at hof
  have HOF := Lib.hid hof
  have HSL : Hid (Sound L) := Lib.hid (by rw [hL]; exact HSD.out.of)
  have HNO : Hid (Oz.anyR L = none) := Lib.hid (by rw [hL]; exact (ofR_ok HSD.out.check).2.2.2)
  have HLT : Hid (lastTy L = lastTy l) := Lib.hid (by rw [hL]; exact (ofR_ok HSD.out.check).2.2.1)
  clear hof hL
  go_wp2_with fail
  refine HOF.out.mono ?_
  rintro e w5 ⟨hb5, gs5, cap5, rfl, hp5⟩
  have HB5 := Lib.hid (HB4.out.trans (hb5.mono HB4.out.size))
  have HP5 : Hid (PlAt w5 (fun i => i < w5.heap.size) (some ⟨gs5, 0, none⟩) L) := Lib.hid (hp5.keep (w' := w5) (fun _ _ _ => rfl) (Nat.le_refl _) (fun i hi _ => hi.2))
  obtain ⟨m, hm⟩ : ∃ m, m = L.length := ⟨_, rfl⟩
  rw [← hm]
  have HMM := Lib.hid hm
  clear hb5 hp5 hm HOF
  go_upto_region 4 with (fail)
  obtain ⟨w6, hw6⟩ : ∃ w6, w6 = w5.alloc (.cells #[.slice (some ⟨gs5, 0, none⟩) m cap5] 28) := ⟨_, rfl⟩
  rw [← hw6]
  have hb6 : Below w5.heap.size w5 w6 := by rw [hw6]; exact below_alloc _ _
  have HB6 := Lib.hid (HB5.out.trans (hb6.mono HB5.out.size))
  have HX6 : Hid (Blk w6 w5.heap.size 28 #[.slice (some ⟨gs5, 0, none⟩) m cap5]) := Lib.hid (by rw [hw6]; exact Blk.new _ _ _)
  have x6 := HX6.out.cell 0
  simp only [List.getElem?_toArray, List.getElem?_cons_zero] at x6
  have HP6 := Lib.hid (HP5.out.below hb6)
  have HA6 := Lib.hid (HA.out.below HB6.out)
  have hl1 : 1 ≤ n := by have := (check_fit.1 HSD.out.check).1; have := HN.out; omega
  have hm1 : 1 ≤ m := by have := (check_fit.1 HSL.out.check).1; have := HMM.out; omega
  have hm2 : m ≤ 4096 := by have := (check_fit.1 HSL.out.check).2.1; have := HMM.out; omega
  obtain ⟨p, rfl⟩ : ∃ p, n = p + 1 := ⟨n - 1, by omega⟩
  obtain ⟨q, rfl⟩ : ∃ q, m = q + 1 := ⟨m - 1, by omega⟩
  obtain ⟨sl, hsl⟩ : ∃ sl, l[p]? = some sl := ⟨l[p]'(by have := HN.out; omega), List.getElem?_eq_getElem _⟩
  obtain ⟨sL, hsL⟩ : ∃ sL, L[q]? = some sL := ⟨L[q]'(by have := HMM.out; omega), List.getElem?_eq_getElem _⟩
  have hty : sL.ty = sl.ty := by
    have h := HLT.out
    rw [lastTy_at (i := q) HMM.out, lastTy_at (i := p) HN.out, tyAt_eq hsL, tyAt_eq hsl] at h
    exact h
  obtain ⟨ba, oa, Aa, ca, rfl, hba, _, _, _, _, ya4, _⟩ := HA6.out p sl hsl
  obtain ⟨bb, ob, Ab, cb, hAe, _, hbb, _, _, _, _, yb4, _⟩ := HP6.out.step hsL
  injection hAe with hAe
  injection hAe with he1 he2
  subst he1 he2
  rw [Nat.zero_add] at yb4
  rw [hty] at yb4
  obtain ⟨ty, hty2⟩ : ∃ ty, ty = sl.ty := ⟨_, rfl⟩
  rw [← hty2] at ya4 yb4
  have e1 : ((p : Int) + 1 - 1) = (p : Int) := by omega
  have e2 : IntKind.i64.wrap ((p : Int) + 1 - 1) = (p : Int) := by rw [e1]; exact IntWalk.i64_in _ (by omega)
  have e3 : ((q : Int) + 1 - 1) = (q : Int) := by omega
  have e4 : IntKind.i64.wrap ((q : Int) + 1 - 1) = (q : Int) := by rw [e3]; exact IntWalk.i64_in _ (by omega)
  have e5 : IntKind.i64.wrap (p : Int) = (p : Int) := IntWalk.i64_in _ (by omega)
  have e6 : IntKind.i64.wrap (q : Int) = (q : Int) := IntWalk.i64_in _ (by omega)
  have e7 : ¬ ((q : Int) + 1 = 0) := by omega
  have e8 : ((q : Int) + 1 == 0) = false := beq_eq_false_iff_ne.2 e7
  have e9 : (p : Int) < (p : Int) + 1 := by omega
  have ea : (q : Int) < (q : Int) + 1 := by omega
  have eb : (0 : Int) ≤ (p : Int) := by omega
  have ec : (0 : Int) ≤ (q : Int) := by omega
  have ed : (ty == ty) = true := by simp
  clear hw6 hb6 hsl hsL hty hty2
  go_quiet (fail)
  obtain ⟨w7, hw7⟩ : ∃ w7, w7 = w6.drewN nq := ⟨_, rfl⟩
  rw [← hw7]
  have HB7 : Hid (Below w.heap.size w w7) := Lib.hid (by rw [hw7]; exact below_drewN HB6.out _)
  have hb67 : Below w6.heap.size w6 w7 := by rw [hw7]; exact below_drewN (Below.refl _ _) _
  have HX7 := Lib.hid (HX6.out.below hb67 HX6.out.lt)
  have HP7 := Lib.hid (HP6.out.below hb67)
  clear hw7 hb67 e1 e2 e3 e4 e5 e6 e7 e8 ya4 yb4 x6 HA6 HP6 HX6 HP5 ed
  go_wp2_with fail
  refine (rules_any _).mono ?_
  rintro e wb ⟨rfl, hnb, hbb⟩
  have HBb := Lib.hid (HB7.out.trans (hbb.mono HB7.out.size))
  have HXb := Lib.hid (HX7.out.below hbb HX7.out.lt)
  have HPb := Lib.hid (HP7.out.below hbb)
  have HNb := Lib.hid hnb
  clear hbb hnb HB3 HB4 HB5 HB6 HB7 HX7 HP7 HP4
  go_wp2_with fail
  go_loopg [6, 7, 8, 9, 60] (11 + 1) (fun f _ _ _ _ i wr => EnRel wb f i wr)
  case atStart => exact ⟨0, rfl, by omega, by omega, Lib.hid (Below.refl _ _)⟩
  case round =>
    obtain ⟨k, rfl, hk, hkf, HB⟩ := hrel
    obtain ⟨f, rfl⟩ : ∃ f, gk = f + 1 := ⟨gk - 1, by omega⟩
    have hzr := HB.out.size
    by_cases hlt : k < 11
    · obtain ⟨s, hs⟩ : ∃ s, namesR[k]? = some s := ⟨namesR[k]'hlt, List.getElem?_eq_getElem _⟩
      have c0 : wr.cell? ⟨w7.heap.size, k, none⟩ = some (.string ⟨s.toArray⟩) := ((HNb.out.below HB.out HNb.out.lt).cell k).trans (namesC_at hs)
      have c1 := (HXb.out.below HB.out HXb.out.lt).cell 0
      simp only [List.getElem?_toArray, List.getElem?_cons_zero] at c1
      have q1 : (k : Int) < 11 := by omega
      have q2 : (0 : Int) ≤ (k : Int) := by omega
      have hst := step_x (some ⟨gs5, 0, none⟩) cap5 L k s wr (HPb.out.below HB.out) HSL.out.check HSL.out.modest hs
      rw [anyR_none HNO.out hlt, ← HMM.out] at hst
      have HST := Lib.hid hst
      clear hs hst
      go_wp2_with fail
      refine HST.out.mono ?_
      rintro e w8 ⟨hb8, gs8, cap8, rfl, _⟩
      have HB8 := Lib.hid ((HB.out.trans (hb8.mono hzr)).alloc (by have := hb8.size; omega) (.cells #[.slice (some ⟨gs8, 0, none⟩) (doR k L).length cap8] 28))
      clear hb8 HST c0 c1
      go_wp2_with fail
      go_roundg f
      case measure => omega
      case rel => exact ⟨k + 1, by go_num, by omega, by omega, HB8⟩
    · have hk11 : k = 11 := by omega
      subst hk11
      have c1 := (HXb.out.below HB.out HXb.out.lt).cell 0
      simp only [List.getElem?_toArray, List.getElem?_cons_zero] at c1
      have hof := of_x (some ⟨gs5, 0, none⟩) cap5 L wr (HPb.out.below HB.out) HSL.out.check HSL.out.modest
      rw [ofR_stop HNO.out, ← HMM.out] at hof
      have HOF := Lib.hid hof
      clear hof
      go_wp2_with fail
      refine HOF.out.mono ?_
      rintro e w8 ⟨hb8, gs8, cap8, he8, hp8⟩
      rw [← HMM.out] at he8
      subst he8
      have HB8 := Lib.hid (HB.out.trans (hb8.mono hzr))
      have HP8 : Hid (PlAt w8 (fun i => i < w8.heap.size) (some ⟨gs8, 0, none⟩) L) := Lib.hid (hp8.keep (w' := w8) (fun _ _ _ => rfl) (Nat.le_refl _) (fun i hi _ => hi.2))
      clear hb8 hp8 HOF c1
      go_upto_region 14 with (fail)
      obtain ⟨w9, hw9⟩ : ∃ w9, w9 = w8.alloc (.cells #[.slice (some ⟨gs8, 0, none⟩) (q + 1) cap8] 28) := ⟨_, rfl⟩
      rw [← hw9]
      have hb9 : Below w8.heap.size w8 w9 := by rw [hw9]; exact below_alloc _ _
      have HB9 := Lib.hid (HB8.out.trans (hb9.mono HB8.out.size))
      have HX9 : Hid (Blk w9 w8.heap.size 28 #[.slice (some ⟨gs8, 0, none⟩) (q + 1) cap8]) := Lib.hid (by rw [hw9]; exact Blk.new _ _ _)
      have x9 := HX9.out.cell 0
      simp only [List.getElem?_toArray, List.getElem?_cons_zero] at x9
      have HP9 := Lib.hid (HP8.out.below hb9)
      have c1 := (HXb.out.below HB9.out HXb.out.lt).cell 0
      simp only [List.getElem?_toArray, List.getElem?_cons_zero] at c1
      have hfr := from_any (some ⟨gs5, 0, none⟩) cap5 L w9.drew ((HPb.out.below HB9.out).below (Below.refl _ _).drew) (by have := HMM.out; omega) (fun s hs => by have := (ok_bd2 HSL.out.check s hs).1; omega)
      rw [← HMM.out] at hfr
      have HFR := Lib.hid hfr
      have hisf := fun A11 c11 w11 (hb : Below w9.heap.size w9 w11) (ha : ArgPl w11 A11 L) => is57_ok (some ⟨gs8, 0, none⟩) A11 cap8 c11 L w11 (HP9.out.below hb) ha (by have := HMM.out; omega) (fun s hs => by have := (ok_bd2 HSL.out.check s hs).1; omega)
      rw [← HMM.out] at hisf
      have HISF := Lib.hid hisf
      have hx9l := HX9.out.lt
      have hxbl : w5.heap.size < w9.heap.size := Nat.lt_of_lt_of_le HXb.out.lt HB9.out.size
      have HC1 := Lib.hid c1
      have HX9' := Lib.hid x9
      clear hw9 hb9 hfr hisf
      go_wp2_with fail
      go_region_with (first
        | (go_at_call 23; refine HFR.out.mono ?_; rintro e w11 ⟨hb11, A11, c11, he11, ha11⟩; rw [← HMM.out] at he11; subst he11; have hb911 : Below w9.heap.size w9 w11 := (Below.refl _ w9).drew.trans hb11; have HB911 := Lib.hid hb911; have HA11 := Lib.hid ha11; have y9 := (hb911.cell (p := ⟨w8.heap.size, 0, none⟩) hx9l).trans HX9'.out; have y1 := (hb911.cell (p := ⟨w5.heap.size, 0, none⟩) hxbl).trans HC1.out; clear hb11 ha11 hb911)
        | (go_at_call 22; refine (HISF.out A11 c11 w11 HB911.out HA11.out).mono ?_; rintro e w12 ⟨rfl, hb12⟩; have HB12 := Lib.hid (HB911.out.trans (hb12.mono HB911.out.size)); clear hb12))
      all_goals (go_wp2_with fail; go_ret; exact ⟨rfl, HBb.out.trans ((HB9.out.trans (HB12.out.mono HB9.out.size)).mono HBb.out.size)⟩)
end Go.Proofs.Ytniefnjcimempaa
