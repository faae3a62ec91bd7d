/- The walk of the law OptimizeCosts: a rule that applies lowers the cost (printed by gen_lopt.py). -/
import Derived.Test.YtniefnjcimempaarRzA
import Derived.Test.YtniefnjcimempaarRzB
import Derived.Test.YtniefnjcimempaarRzC
import Derived.Test.YtniefnjcimempaarRl
import Derived.StillTailTactics
namespace Go.Proofs.Ytniefnjcimempaa
open Go.RowKit
def CsRel (wb : World) (f : Nat) (i : Value) (wr : World) : Prop := ∃ k : Nat, i = .int .i64 k ∧ k ≤ 11 ∧ 11 - k < f ∧ Hid (Below wb.heap.size wb wr)
theorem cost_sound {w : World} {A : Option Addr} {c : Nat} {l : List St} (hp : PlAt w (fun i => i < w.heap.size) A l) (hs : Sound l) : Calls Try.prog 25 #[.agg #[.slice A l.length c]] w fun e w' => e = .returned (.tuple #[.int .i64 (costL l), .nilIface]) ∧ Below w.heap.size w w' := by
  refine (Cost_any A c l w hp hs.modest).mono ?_
  rintro e w' ⟨rfl, hb⟩
  rw [hs.check, if_pos rfl]
  exact ⟨rfl, hb⟩
set_option maxRecDepth 100000 in
set_option maxHeartbeats 8000000 in
theorem costs_law (A : Option Addr) (c : Nat) (l : List St) (w : World) (h : ArgPl w A l) (hn : l.length ≤ 1048576) (ha : ∀ s ∈ l, s.args.length ≤ 2000000) (ht : TxOk l) :
    Calls Try.prog 7 #[.slice A l.length c] w (AwEnd w) := by
  obtain ⟨n, hnn⟩ : ∃ n, n = l.length := ⟨_, rfl⟩
  have HN := Lib.hid hnn
  have HA := Lib.hid h
  have HM := Lib.hid ha
  have HT := Lib.hid ht
  rw [← hnn] at hn ⊢
  clear h ha ht hnn
  go_enter Try.func7, Try.ntmps7
  go_wp2_with fail
  refine (awake_any _).mono ?_
  rintro e w1 ⟨rfl, hb1⟩
  have HB1 := Lib.hid hb1
  by_cases hbig : 60 < n
  · have q0 : (60 : Int) < (n : Int) := by omega
    clear hb1
    go_wp2_with fail
    refine (awake_any _).mono ?_
    rintro e w2 ⟨rfl, hb2⟩
    have HB2 := Lib.hid (HB1.out.trans (hb2.mono HB1.out.size))
    clear hb2
    go_wp2_with fail
    go_ret
    exact ⟨rfl, HB2.out⟩
  have q0 : ¬ ((60 : Int) < (n : Int)) := by omega
  have hn6 : n ≤ 60 := by omega
  have HMD : Hid (Modest l) := Lib.hid ⟨by have := HN.out; omega, fun s hs => ⟨HM.out s hs, HT.out s hs⟩⟩
  have hto := fun w' (hb : Below w.heap.size w w') => to_any A c l w' (HA.out.below hb) (by have := HN.out; omega) HM.out
  rw [← HN.out] at hto
  have HTO := Lib.hid hto
  have HT1 := Lib.hid (hto w1 hb1)
  clear hb1 hto hbig
  go_wp2_with fail
  refine HT1.out.mono ?_
  rintro e w2 ⟨hb2, A2, c2, he2, hp2⟩
  rw [← HN.out] at he2
  subst he2
  have HB2 := Lib.hid (HB1.out.trans (hb2.mono HB1.out.size))
  have hck := Check_any A2 c2 l w2 (hp2.keep (w' := w2) (fun _ _ _ => rfl) (Nat.le_refl _) (fun i hi _ => hi.2)) HMD.out
  rw [← HN.out] at hck
  have HCK := Lib.hid hck
  clear hb2 hp2 hck HT1
  go_wp2_with fail
  refine HCK.out.mono ?_
  rintro e w3 ⟨rfl, hb3⟩
  have HB3 := Lib.hid (HB2.out.trans (hb3.mono HB2.out.size))
  clear hb3 HCK HB1 HB2
  obtain ⟨x, hx⟩ : ∃ x, x = checkR l := ⟨_, rfl⟩
  rw [← hx]
  have HX := Lib.hid hx
  clear hx
  by_cases hx0 : x = 0
  rotate_left
  · obtain ⟨v, hv⟩ : ∃ v, errV x = .iface 37 (.int .i64 v) := ⟨x, if_neg hx0⟩
    rw [hv]
    clear hv hx0
    go_wp2_with fail
    refine (awake_any _).mono ?_
    rintro e w4 ⟨rfl, hb4⟩
    have HB4 := Lib.hid (HB3.out.trans (hb4.mono HB3.out.size))
    clear hb4
    go_wp2_with fail
    go_ret
    exact ⟨rfl, HB4.out⟩
  subst hx0
  have HSD : Hid (Sound l) := Lib.hid ⟨HX.out.symm, HT.out⟩
  rw [show errV 0 = Value.nilIface from rfl]
  have HT3 := Lib.hid (HTO.out w3 HB3.out)
  go_wp2_with fail
  refine HT3.out.mono ?_
  rintro e w4 ⟨hb4, A4, c4, he4, hp4⟩
  rw [← HN.out] at he4
  subst he4
  have HB4 := Lib.hid (HB3.out.trans (hb4.mono HB3.out.size))
  have HP4 : Hid (PlAt w4 (fun i => i < w4.heap.size) A4 l) := Lib.hid (hp4.keep (w' := w4) (fun _ _ _ => rfl) (Nat.le_refl _) (fun i hi _ => hi.2))
  clear hb4 hp4 HT3
  go_upto_region 4 with (fail)
  obtain ⟨w5, hw5⟩ : ∃ w5, w5 = w4.alloc (.cells #[.slice A4 n c4] 28) := ⟨_, rfl⟩
  rw [← hw5]
  have hb5 : Below w4.heap.size w4 w5 := by rw [hw5]; exact below_alloc _ _
  have HB5 := Lib.hid (HB4.out.trans (hb5.mono HB4.out.size))
  have HX5 : Hid (Blk w5 w4.heap.size 28 #[.slice A4 n c4]) := Lib.hid (by rw [hw5]; exact Blk.new _ _ _)
  have x5 := HX5.out.cell 0
  simp only [List.getElem?_toArray, List.getElem?_cons_zero] at x5
  have HP5 := Lib.hid (HP4.out.below hb5)
  have hco := cost_sound (c := c4) HP5.out HSD.out
  rw [← HN.out] at hco
  have HCO := Lib.hid hco
  obtain ⟨K, hK⟩ : ∃ K, K = costL l := ⟨_, rfl⟩
  rw [← hK] at HCO
  have HKK := Lib.hid hK
  clear hw5 hb5 hco hK
  go_wp2_with fail
  refine HCO.out.mono ?_
  rintro e w6 ⟨rfl, hb6⟩
  have HB6 := Lib.hid (HB5.out.trans (hb6.mono HB5.out.size))
  have HX6 := Lib.hid (HX5.out.below hb6 HX5.out.lt)
  have HP6 := Lib.hid (HP5.out.below hb6)
  clear hb6 HCO x5
  go_wp2_with fail
  refine (rules_any _).mono ?_
  rintro e wb ⟨rfl, hnb, hbb⟩
  have HBb := Lib.hid (HB6.out.trans (hbb.mono HB6.out.size))
  have HXb := Lib.hid (HX6.out.below hbb HX6.out.lt)
  have HPb := Lib.hid (HP6.out.below hbb)
  have HNb := Lib.hid hnb
  have HAb := Lib.hid (HA.out.below HBb.out)
  clear hbb hnb HB3 HB4 HB5 HB6 HX5 HX6 HP4 HP5 HP6
  go_wp2_with fail
  go_loopg [7, 8, 9, 10, 11, 12, 41] (11 + 1) (fun f _ _ _ _ _ _ i wr => CsRel wb f i wr)
  case atStart => exact ⟨0, rfl, by omega, by omega, Lib.hid (Below.refl _ _)⟩
  case round =>
    obtain ⟨k, rfl, hk, hkf, HB⟩ := hrel
    obtain ⟨f, rfl⟩ : ∃ f, gk = f + 1 := ⟨gk - 1, by omega⟩
    have hzr := HB.out.size
    by_cases hlt : k < 11
    · obtain ⟨s, hs⟩ : ∃ s, namesR[k]? = some s := ⟨namesR[k]'hlt, List.getElem?_eq_getElem _⟩
      have c0 : wr.cell? ⟨w6.heap.size, k, none⟩ = some (.string ⟨s.toArray⟩) := ((HNb.out.below HB.out HNb.out.lt).cell k).trans (namesC_at hs)
      have c1 := (HXb.out.below HB.out HXb.out.lt).cell 0
      simp only [List.getElem?_toArray, List.getElem?_cons_zero] at c1
      have q1 : (k : Int) < 11 := by omega
      have q2 : (0 : Int) ≤ (k : Int) := by omega
      have HPr := Lib.hid (HPb.out.below HB.out)
      have hst := step_x A4 c4 l k s wr HPr.out HSD.out.check HMD.out hs
      rw [← HN.out] at hst
      have HST := Lib.hid hst
      obtain ⟨r, hr⟩ : ∃ r, r = Oz.applyR k l := ⟨_, rfl⟩
      have HRR := Lib.hid hr
      obtain ⟨L, hL⟩ : ∃ L, L = doR k l := ⟨_, rfl⟩
      have HLL := Lib.hid hL
      rw [← hr, ← hL] at HST
      have HSL : Hid (Sound L) := Lib.hid (by rw [hL]; exact HSD.out.step k)
      clear hs hst hr hL
      go_wp2_with fail
      refine HST.out.mono ?_
      rintro e w7 ⟨hb7, gs7, cap7, rfl, hp7⟩
      have HB7 := Lib.hid (HB.out.trans (hb7.mono hzr))
      have HP7 : Hid (PlAt w7 (fun i => i < w7.heap.size) (some ⟨gs7, 0, none⟩) L) := Lib.hid (hp7.keep (w' := w7) (fun _ _ _ => rfl) (Nat.le_refl _) (fun i hi _ => hi.2))
      obtain ⟨m, hm⟩ : ∃ m, m = L.length := ⟨_, rfl⟩
      rw [← hm]
      have HMM := Lib.hid hm
      obtain ⟨z, hz⟩ : ∃ z, z = r.isSome := ⟨_, rfl⟩
      rw [← hz]
      have HZ := Lib.hid hz
      clear hb7 hp7 hm hz HST c0 c1
      go_upto_region 11 with (fail)
      obtain ⟨w8, hw8⟩ : ∃ w8, w8 = w7.alloc (.cells #[.slice (some ⟨gs7, 0, none⟩) m cap7] 28) := ⟨_, rfl⟩
      rw [← hw8]
      have hb8 : Below w7.heap.size w7 w8 := by rw [hw8]; exact below_alloc _ _
      have HB8 := Lib.hid (HB7.out.trans (hb8.mono HB7.out.size))
      have HX8 : Hid (Blk w8 w7.heap.size 28 #[.slice (some ⟨gs7, 0, none⟩) m cap7]) := Lib.hid (by rw [hw8]; exact Blk.new _ _ _)
      have x8 := HX8.out.cell 0
      simp only [List.getElem?_toArray, List.getElem?_cons_zero] at x8
      have HP8 := Lib.hid (HP7.out.below hb8)
      have hco := cost_sound (c := cap7) HP8.out HSL.out
      rw [← HMM.out] at hco
      obtain ⟨K2, hK2⟩ : ∃ K2, K2 = costL L := ⟨_, rfl⟩
      rw [← hK2] at hco
      have HCO := Lib.hid hco
      have HK2 := Lib.hid hK2
      clear hw8 hb8 hco hK2
      go_wp2_with fail
      refine HCO.out.mono ?_
      rintro e w9 ⟨rfl, hb9⟩
      have HB9 := Lib.hid (HB8.out.trans (hb9.mono HB8.out.size))
      have y9 := (HX8.out.below hb9 HX8.out.lt).cell 0
      simp only [List.getElem?_toArray, List.getElem?_cons_zero] at y9
      have HP9 := Lib.hid (HP8.out.below hb9)
      clear hb9 HCO x8
      cases z with
      | true =>
        have hlow : ¬ (K ≤ K2) := by
          cases r with
          | none => have := HZ.out; cases this
          | some l' =>
            have hd := (applyR_done HSD.out.check HRR.out.symm).cost
            have : L = l' := by rw [HLL.out]; unfold doR; rw [← HRR.out]; rfl
            rw [HK2.out, HKK.out, this]
            omega
        go_wp2_with fail
        go_roundg f
        case measure => omega
        case rel => exact ⟨k + 1, by go_num, by omega, by omega, HB9⟩
      | false =>
        have HE : Hid (L = l) := Lib.hid (by
          cases r with
          | some l' => have := HZ.out; cases this
          | none => rw [HLL.out]; unfold doR; rw [← HRR.out]; rfl)
        have his := is57_ok (some ⟨gs7, 0, none⟩) A cap7 c l w9 (by rw [← HE.out]; exact HP9.out) (HAb.out.below HB9.out) (by have := HN.out; omega) (fun s hs => by have := (ok_bd2 HSD.out.check s hs).1; omega)
        have hmn : m = n := by rw [HMM.out, HE.out]; exact HN.out.symm
        rw [← HN.out] at his
        rw [← hmn] at his
        have HIS := Lib.hid his
        rw [hmn] at HIS
        subst hmn
        clear his
        go_wp2_with fail
        refine HIS.out.mono ?_
        rintro e w10 ⟨rfl, hb10⟩
        have HB10 := Lib.hid (HB9.out.trans (hb10.mono HB9.out.size))
        clear hb10 HIS
        go_wp2_with fail
        go_roundg f
        case measure => omega
        case rel => exact ⟨k + 1, by go_num, by omega, by omega, HB10⟩
    · have hk11 : k = 11 := by omega
      subst hk11
      have c1 := (HXb.out.below HB.out HXb.out.lt).cell 0
      simp only [List.getElem?_toArray, List.getElem?_cons_zero] at c1
      have hof := of_x A4 c4 l wr (HPb.out.below HB.out) HSD.out.check HMD.out
      rw [← HN.out] at hof
      obtain ⟨L, hL⟩ : ∃ L, L = ofR l := ⟨_, rfl⟩
      have HLL := Lib.hid hL
      rw [← hL] at hof
      have HOF := Lib.hid hof
      have HSL : Hid (Sound L) := Lib.hid (by rw [hL]; exact HSD.out.of)
      clear hof hL
      go_wp2_with fail
      refine HOF.out.mono ?_
      rintro e w7 ⟨hb7, gs7, cap7, rfl, hp7⟩
      have HB7 := Lib.hid (HB.out.trans (hb7.mono hzr))
      have HP7 : Hid (PlAt w7 (fun i => i < w7.heap.size) (some ⟨gs7, 0, none⟩) L) := Lib.hid (hp7.keep (w' := w7) (fun _ _ _ => rfl) (Nat.le_refl _) (fun i hi _ => hi.2))
      obtain ⟨m, hm⟩ : ∃ m, m = L.length := ⟨_, rfl⟩
      rw [← hm]
      have HMM := Lib.hid hm
      clear hb7 hp7 hm HOF c1
      go_upto_region 16 with (fail)
      obtain ⟨w8, hw8⟩ : ∃ w8, w8 = w7.alloc (.cells #[.slice (some ⟨gs7, 0, none⟩) m cap7] 28) := ⟨_, rfl⟩
      rw [← hw8]
      have hb8 : Below w7.heap.size w7 w8 := by rw [hw8]; exact below_alloc _ _
      have HB8 := Lib.hid (HB7.out.trans (hb8.mono HB7.out.size))
      have HX8 : Hid (Blk w8 w7.heap.size 28 #[.slice (some ⟨gs7, 0, none⟩) m cap7]) := Lib.hid (by rw [hw8]; exact Blk.new _ _ _)
      have x8 := HX8.out.cell 0
      simp only [List.getElem?_toArray, List.getElem?_cons_zero] at x8
      have HP8 := Lib.hid (HP7.out.below hb8)
      have hco := cost_sound (c := cap7) HP8.out HSL.out
      rw [← HMM.out] at hco
      obtain ⟨K2, hK2⟩ : ∃ K2, K2 = costL L := ⟨_, rfl⟩
      rw [← hK2] at hco
      have HCO := Lib.hid hco
      have hlow : K2 ≤ K := by rw [hK2, HKK.out, HLL.out]; exact (ofR_ok HSD.out.check).2.1
      clear hw8 hb8 hco hK2
      go_wp2_with fail
      refine HCO.out.mono ?_
      rintro e w9 ⟨rfl, hb9⟩
      have HB9 := Lib.hid (HB8.out.trans (hb9.mono HB8.out.size))
      clear hb9 HCO x8
      go_wp2_with fail
      go_ret
      exact ⟨rfl, HBb.out.trans (HB9.out.mono HBb.out.size)⟩
end Go.Proofs.Ytniefnjcimempaa
