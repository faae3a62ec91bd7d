/- The walk of the law PlanParts. -/
import Derived.Test.YtoegklpomlhneaaGreatDoorqAl56
import Derived.Test.YtoegklpomlhneaaGreatDoorqRu
import Derived.Test.YtoegklpomlhneaaGreatDoorqStp
import Derived.Test.YtoegklpomlhneaaGreatDoorqRx2
import Derived.Test.YtoegklpomlhneaaGreatDoorqCkR
import Derived.Test.YtoegklpomlhneaaGreatDoorqCkD
import Derived.Test.YtoegklpomlhneaaGreatDoorqPpG
import Derived.Test.YtoegklpomlhneaaGreatDoorqRs
import Derived.Test.YtoegklpomlhneaaGreatDoorqRt
namespace Go.Proofs.YtoegklpomlhneaaGreatDoor
open Go.RowKit
theorem names_short : ∀ n ∈ opNames, n.length ≤ 100 := by decide +kernel
theorem fmt_ok {l : List St} (hc : checkR l = 0) (hn : l.length ≤ 200) (h : ∀ s ∈ l, i64R s.num ∧ s.text.length ≤ 1048576 ∧ ∀ k ∈ s.args, i64R k) : FmtOk l := by
  have hlen : ∀ i s, l[i]? = some s → (fmtS i s).length ≤ 4194604 := fun i s hs => by
    obtain ⟨o, ho⟩ := stepE_zero ((checkR_zero hc).2.2 i s hs)
    have hm := h s (List.mem_of_getElem? hs)
    have hi := (List.getElem?_eq_some_iff.1 hs).1
    exact fmtS_len (M := 1048576) (by omega) hm.1 hm.2.2 (uses_small hc s (List.mem_of_getElem? hs)) (names_short _ (opR_name ho.op)) hm.2.1
  refine ⟨fun i s hs => (h s (List.mem_of_getElem? hs)).1, fun i s hs => ?_, fun i s hs => ?_⟩
  · obtain ⟨o, ho⟩ := stepE_zero ((checkR_zero hc).2.2 i s hs)
    have h1 := fmtK_len (by omega) hlen i
    have h2 := names_short _ (opR_name ho.op)
    have h3 := (h s (List.mem_of_getElem? hs)).2.1
    have hi := (List.getElem?_eq_some_iff.1 hs).1
    omega
  · have h1 := fmtK_len (by omega) hlen i
    have h2 := hlen i s hs
    have hi := (List.getElem?_eq_some_iff.1 hs).1
    omega
theorem blk_reads {w : World} {g : Nat} {t : TypeId} {zs : List Int} (h : Blk w g t (uarr zs)) : Reads w w.heap.size 1 (some ⟨g, 0, none⟩) zs.length (zs.map (Value.int .i64)) :=
  ⟨by simp, fun _ => ⟨_, rfl, h.lt, fun j u hj => by rw [addr_add, Nat.zero_add, h.cell]; unfold uarr; rw [List.getElem?_toArray]; exact hj⟩⟩
theorem cells4 {w : World} {g : Nat} {k n : Int} {t : ByteArray} {s : Value} (h : Blk w g 41 #[.int .i64 k, .string t, .int .i64 n, s]) : w.cell? ⟨g, 0, none⟩ = some (.int .i64 k) ∧ w.cell? ⟨g, 1, none⟩ = some (.string t) ∧ w.cell? ⟨g, 2, none⟩ = some (.int .i64 n) ∧ w.cell? ⟨g, 3, none⟩ = some s := by
  refine ⟨?_, ?_, ?_, ?_⟩ <;> rw [h.cell] <;> rfl
set_option maxRecDepth 100000 in
set_option maxHeartbeats 8000000 in
theorem parts_any (A : Option Addr) (c : Nat) (l : List St) (w : World) (h : ArgPl w A l) (hn : l.length ≤ 2000000) (ha : ∀ s ∈ l, s.args.length ≤ 2000000 ∧ s.text.length ≤ 9223372036854775807)
    (htab : tabOk w.heap.size w) (hf : l.length ≤ 200 → checkR l = 0 → FmtOk l) :
    Calls Tryz.prog 3 #[.slice A l.length c] w (AwEnd w) := by
  have HA := Lib.hid h
  have HM := Lib.hid ha
  have HTAB := Lib.hid htab
  have HF := Lib.hid hf
  clear h ha htab hf
  go_enter Tryz.func3, Tryz.ntmps3
  go_wp2_with fail
  refine (alive56_any _).mono ?_
  rintro e w1 ⟨rfl, hb1⟩
  have HB1 := Lib.hid hb1
  clear hb1
  by_cases hbig : 200 < l.length
  · have q0 : (200 : Int) < (l.length : Int) := by omega
    go_wp2_with fail
    go_ret
    exact ⟨rfl, HB1.out⟩
  have q0 : ¬ ((200 : Int) < (l.length : Int)) := by omega
  have hz1 := HB1.out.size
  have hrg := regular_any A c l w1 (HA.out.below HB1.out) (by omega) (fun s hs => (HM.out s hs).2)
  have HRG := Lib.hid hrg
  clear hrg
  go_wp2_with fail
  refine HRG.out.mono ?_
  rintro e w2 ⟨hb2, Ar, cr, rfl, hown⟩
  have HB2 := Lib.hid (HB1.out.trans (hb2.mono hz1))
  have hz2 := HB2.out.size
  obtain ⟨R, hR⟩ : ∃ R, R = checkR l := ⟨_, rfl⟩
  have hrc := rcheck_any A c l Ar cr w2 (HA.out.below HB2.out) (Reads.of_own hown) (by omega) (fun s hs => (HM.out s hs).1)
  rw [← hR] at hrc
  have HRC := Lib.hid hrc
  have HR := Lib.hid hR
  clear hb2 hown hrc HRG hR
  go_wp2_with fail
  refine HRC.out.mono ?_
  rintro e w3 ⟨rfl, hb3⟩
  have HB3 := Lib.hid (HB2.out.trans (hb3.mono hz2))
  have hz3 := HB3.out.size
  clear hb3 HRC
  by_cases hR0 : R = 0
  rotate_left
  · have e0 : (R != 0) = true := bne_iff_ne.2 hR0
    go_wp2_with fail
    go_ret
    exact ⟨rfl, HB3.out⟩
  subst hR0
  have HCK : Hid (checkR l = 0) := Lib.hid HR.out.symm
  have HFO : Hid (FmtOk l) := Lib.hid (HF.out (by omega) HCK.out)
  have hl0 := (checkR_zero HCK.out).1
  have hst := steps_any A c l w3 (HA.out.below HB3.out) (by omega) (fun s hs => (HM.out s hs).1)
  have HST := Lib.hid hst
  clear hst HR HF
  go_wp2_with fail
  refine HST.out.mono ?_
  rintro e w4 ⟨hb4, A2, c2, rfl, hp4⟩
  have HB4 := Lib.hid (HB3.out.trans (hb4.mono hz3))
  have hz4 := HB4.out.size
  have hp4' : PlAt w4 (fun i => i < w4.heap.size) A2 l := hp4.keep (w' := w4) (fun _ _ _ => rfl) (Nat.le_refl _) (fun i hi _ => hi.2)
  have HMD : Hid (Modest l) := Lib.hid ⟨by omega, HM.out⟩
  go_upto_region 6 with (fail)
  obtain ⟨w5, hw5⟩ : ∃ w5, w5 = w4.alloc (.cells #[.slice A2 l.length c2] 29) := ⟨_, rfl⟩
  rw [← hw5]
  have hb45 : Below w4.heap.size w4 w5 := by rw [hw5]; exact below_alloc _ _
  have HP5 := Lib.hid (hp4'.below hb45)
  have HX5 := Lib.hid (show Blk w5 w4.heap.size 29 #[.slice A2 l.length c2] by rw [hw5]; exact Blk.new _ _ _)
  have HB5 := Lib.hid (HB4.out.trans (hb45.mono hz4))
  have hz5 := HB5.out.size
  have p5 := HX5.out.cell 0
  simp only [List.getElem?_toArray, List.getElem?_cons_zero] at p5
  obtain ⟨F, hF⟩ : ∃ F, F = fmtL l := ⟨_, rfl⟩
  have hfm := Format_ok A2 c2 l w5 HP5.out HMD.out HCK.out (Lib.tabBelow_of_tabIs (HTAB.out.on HB5.out).here) HFO.out
  rw [← hF] at hfm
  have HFM := Lib.hid hfm
  have HFL := Lib.hid hF
  clear hw5 hb45 hp4 hp4' hb4 hfm hF HST
  go_wp2_with fail
  refine HFM.out.mono ?_
  rintro e w6 ⟨rfl, hb6⟩
  have HB6 := Lib.hid (HB5.out.trans (hb6.mono hz5))
  have hz6 := HB6.out.size
  have HP6 := Lib.hid (HP5.out.below hb6)
  have HX6 := Lib.hid (HX5.out.below hb6 HX5.out.lt)
  have p6 := HX6.out.cell 0
  simp only [List.getElem?_toArray, List.getElem?_cons_zero] at p6
  have hco := Cost_any A2 c2 l w6 HP6.out HMD.out
  unfold CostEnd at hco
  rw [HCK.out, if_pos rfl, show errV 0 = .nilIface from rfl] at hco
  obtain ⟨C, hC⟩ : ∃ C, C = costL l := ⟨_, rfl⟩
  rw [← hC] at hco
  have HCO := Lib.hid hco
  have HCL := Lib.hid hC
  clear hb6 hco hC HFM p5
  go_wp2_with fail
  refine HCO.out.mono ?_
  rintro e w7 ⟨rfl, hb7⟩
  have HB7 := Lib.hid (HB6.out.trans (hb7.mono hz6))
  have hz7 := HB7.out.size
  have HP7 := Lib.hid (HP6.out.below hb7)
  have HX7 := Lib.hid (HX6.out.below hb7 HX6.out.lt)
  have p7 := HX7.out.cell 0
  simp only [List.getElem?_toArray, List.getElem?_cons_zero] at p7
  have HUS := Lib.hid (Uses_ok A2 c2 l w7 HP7.out HMD.out HCK.out)
  clear hb7 HCO p6
  go_wp2_with fail
  refine HUS.out.mono ?_
  rintro e w8 ⟨G, rfl, hG8, hb8⟩
  have HB8 := Lib.hid (HB7.out.trans (hb8.mono hz7))
  have hz8 := HB8.out.size
  have HG8 := Lib.hid hG8
  have HP8 := Lib.hid (HP7.out.below hb8)
  have HX8 := Lib.hid (HX7.out.below hb8 HX7.out.lt)
  have p8 := HX8.out.cell 0
  simp only [List.getElem?_toArray, List.getElem?_cons_zero] at p8
  have HTR := Lib.hid (Tree_any A2 c2 l w8 HP8.out HMD.out)
  clear hb8 hG8 HUS p7
  go_wp2_with fail
  refine HTR.out.mono ?_
  rintro e w9 ⟨hb9, he⟩
  rw [if_neg (by rw [HCK.out]; simp)] at he
  obtain ⟨k1, t1, m1, A1, n1, c1, E, rfl, hE⟩ : ∃ (k1 : Int) (t1 : ByteArray) (m1 : Int) (A1 : Option Addr) (n1 c1 : Nat) (E : Value), e = .returned (.tuple #[.agg #[.int .i64 k1, .string t1, .int .i64 m1, .slice A1 n1 c1], E]) ∧
      ((4096 < (sizesR l).getD (l.length - 1) 0 ∧ k1 = 0 ∧ n1 = 0 ∧ E = .iface 51 (.int .i64 9)) ∨
       (¬ 4096 < (sizesR l).getD (l.length - 1) 0 ∧ E = .nilIface ∧ NodeV w9 (fun i => i < w9.heap.size) (growR l (l.length - 1)) [.int .i64 k1, .string t1, .int .i64 m1, .slice A1 n1 c1])) := by
    by_cases hlg : 4096 < (sizesR l).getD (l.length - 1) 0
    · rw [if_pos hlg] at he
      exact ⟨0, ⟨#[]⟩, 0, none, 0, 0, _, he, .inl ⟨hlg, rfl, rfl, rfl⟩⟩
    · rw [if_neg hlg] at he
      obtain ⟨cs, he, hn9⟩ := he
      obtain ⟨k1, t1, m1, A1, n1, c1, rfl⟩ := hn9.form
      exact ⟨k1, t1, m1, A1, n1, c1, _, he, .inr ⟨hlg, rfl, NodeV.keep (w' := w9) (fun _ _ _ => rfl) (fun i hi _ => hi.2) hn9⟩⟩
  have HB9 := Lib.hid (HB8.out.trans (hb9.mono hz8))
  have hz9 := HB9.out.size
  have HE := Lib.hid hE
  go_upto_region 10 with (fail)
  obtain ⟨wa, hwa⟩ : ∃ wa, wa = w9.alloc (.cells #[.int .i64 k1, .string t1, .int .i64 m1, .slice A1 n1 c1] 41) := ⟨_, rfl⟩
  rw [← hwa]
  have hb9a : Below w9.heap.size w9 wa := by rw [hwa]; exact below_alloc _ _
  have hb8a : Below w8.heap.size w8 wa := hb9.trans (hb9a.mono hb9.size)
  have HTA := Lib.hid (show Blk wa w9.heap.size 41 #[.int .i64 k1, .string t1, .int .i64 m1, .slice A1 n1 c1] by rw [hwa]; exact Blk.new _ _ _)
  have HBA := Lib.hid (HB9.out.trans (hb9a.mono hz9))
  have hza := HBA.out.size
  have HB9A := Lib.hid hb9a
  have HGA := Lib.hid (HG8.out.below hb8a HG8.out.lt)
  have HPA := Lib.hid (HP8.out.below hb8a)
  have HXA := Lib.hid (HX8.out.below hb8a HX8.out.lt)
  have hrf := rFormat_ok A c l wa (HA.out.below HBA.out) HCK.out HFO.out
  rw [← HFL.out] at hrf
  have HRF := Lib.hid hrf
  clear hrf hwa hb9a hb8a hb9 hE he HTR p8
  go_wp2_with fail
  refine HRF.out.mono ?_
  rintro e wb ⟨rfl, hbb⟩
  have HBB := Lib.hid (HBA.out.trans (hbb.mono hza))
  have hzb := HBB.out.size
  have HBAB := Lib.hid hbb
  have hrk := rCost_ok A c l wb (HA.out.below HBB.out) HCK.out
  rw [← HCL.out] at hrk
  have HRK := Lib.hid hrk
  clear hbb hrk HRF
  go_wp2_with fail
  refine HRK.out.mono ?_
  rintro e wc ⟨rfl, hbc⟩
  have HBC := Lib.hid (HBB.out.trans (hbc.mono hzb))
  have hzc := HBC.out.size
  have HBAC := Lib.hid (HBAB.out.trans (hbc.mono HBAB.out.size))
  have HRU := Lib.hid (rUses_ok A c l wc (HA.out.below HBC.out) HCK.out)
  clear hbc HRK
  go_wp2_with fail
  refine HRU.out.mono ?_
  rintro e wd ⟨rfl, hGd, hbd⟩
  have HBD := Lib.hid (HBC.out.trans (hbd.mono hzc))
  have hzd := HBD.out.size
  have HBAD := Lib.hid (HBAC.out.trans (hbd.mono HBAC.out.size))
  have hul : (usesR l).length = l.length := usesK_len l _
  have hll : l.length ≤ 4096 := (checkR_zero HCK.out).2.1
  have hii := ints_any (some ⟨G, 0, none⟩) (some ⟨wc.heap.size, 0, none⟩) l.length l.length (usesR l) wd (by omega) (blk_reads (HGA.out.below HBAD.out HGA.out.lt)) (blk_reads hGd)
  rw [hul] at hii
  have HII := Lib.hid hii
  clear hbd hGd hul hll hii HRU
  go_wp2_with fail
  refine HII.out.mono ?_
  rintro e we ⟨rfl, hbe⟩
  have HBE := Lib.hid (HBD.out.trans (hbe.mono hzd))
  have hze := HBE.out.size
  have HBAE := Lib.hid (HBAD.out.trans (hbe.mono HBAD.out.size))
  have HXE := Lib.hid (HXA.out.below HBAE.out HXA.out.lt)
  have pe := HXE.out.cell 0
  simp only [List.getElem?_toArray, List.getElem?_cons_zero] at pe
  have HIS := Lib.hid (is_ok A2 A c2 c l we (HPA.out.below HBAE.out) (HA.out.below HBE.out) (by omega) (fun s hs => by have := uses_small HCK.out s hs; omega))
  clear hbe HII
  go_wp2_with fail
  refine HIS.out.mono ?_
  rintro e wf ⟨rfl, hbf⟩
  have HBF := Lib.hid (HBE.out.trans (hbf.mono hze))
  have hzf := HBF.out.size
  have HBAF := Lib.hid (HBAE.out.trans (hbf.mono HBAE.out.size))
  have HRT := Lib.hid (rTree_ok A c l wf (HA.out.below HBF.out) HCK.out)
  clear hbf HIS pe
  go_wp2_with fail
  refine HRT.out.mono ?_
  rintro e wg ⟨hbg, he⟩
  have HBG := Lib.hid (HBF.out.trans (hbg.mono hzf))
  have hzg := HBG.out.size
  have HBAG := Lib.hid (HBAF.out.trans (hbg.mono HBAF.out.size))
  rcases HE.out with ⟨hlg, rfl, rfl, rfl⟩ | ⟨hlg, rfl, hn9⟩
  · rw [if_pos hlg] at he
    subst he
    clear HE hlg hbg HRT
    go_upto_region 13 with (fail)
    obtain ⟨wh, hwh⟩ : ∃ wh, wh = wg.alloc (.cells #[.int .i64 0, .string ⟨#[]⟩, .int .i64 0, .slice none 0 0] 41) := ⟨_, rfl⟩
    rw [← hwh]
    have hbh : Below wg.heap.size wg wh := by rw [hwh]; exact below_alloc _ _
    have HBH := Lib.hid (HBG.out.trans (hbh.mono hzg))
    have HTH := HTA.out.below (HBAG.out.trans (hbh.mono HBAG.out.size)) HTA.out.lt
    obtain ⟨t0, _, _, t3⟩ := cells4 HTH
    clear hwh hbh HTH
    go_wp2_with fail
    refine (is_same 9 _ (by decide)).mono ?_
    rintro e _ ⟨rfl, rfl⟩
    go_wp2_with fail
    go_ret
    exact ⟨rfl, HBH.out⟩
  · rw [if_neg (by omega)] at he
    obtain ⟨cs2, rfl, hn2⟩ := he
    obtain ⟨k2, t2, m2, A3, n2, c3, rfl⟩ := hn2.form
    have hx := sizesR_ok HCK.out (l.length - 1) (by omega)
    obtain ⟨x, hxe⟩ : ∃ x, x = growR l (l.length - 1) := ⟨_, rfl⟩
    rw [← hxe] at hx hn9 hn2
    have hxz : x.size ≤ 900000 := by omega
    have HN9 := Lib.hid hn9
    have HN2 := Lib.hid hn2
    have HXZ := Lib.hid hxz
    clear HE hlg hbg HRT hx hxe hxz hn9 hn2
    go_upto_region 13 with (fail)
    obtain ⟨wh, hwh⟩ : ∃ wh, wh = wg.alloc (.cells #[.int .i64 k2, .string t2, .int .i64 m2, .slice A3 n2 c3] 41) := ⟨_, rfl⟩
    rw [← hwh]
    have hbh : Below wg.heap.size wg wh := by rw [hwh]; exact below_alloc _ _
    have HBH := Lib.hid (HBG.out.trans (hbh.mono hzg))
    have hbah := HBAG.out.trans (hbh.mono HBAG.out.size)
    have HTH := HTA.out.below hbah HTA.out.lt
    obtain ⟨t0, t1', t2', t3⟩ := cells4 HTH
    obtain ⟨v0, v1, v2, v3⟩ := cells4 (show Blk wh wg.heap.size 41 #[.int .i64 k2, .string t2, .int .i64 m2, .slice A3 n2 c3] by rw [hwh]; exact Blk.new _ _ _)
    have hnA : NodeV wh (fun i => i < wh.heap.size) x [.int .i64 k1, .string t1, .int .i64 m1, .slice A1 n1 c1] := NodeV.below HN9.out (HB9A.out.trans (hbah.mono HB9A.out.size))
    have hnB : NodeV wh (fun i => i < wh.heap.size) x [.int .i64 k2, .string t2, .int .i64 m2, .slice A3 n2 c3] := NodeV.below (NodeV.keep (w' := wg) (fun _ _ _ => rfl) (fun i hi _ => hi.2) HN2.out) hbh
    have HSA := Lib.hid (same_any x _ _ wh hnA hnB HXZ.out)
    clear hwh hbh hbah HTH hnA hnB
    go_wp2_with fail
    refine HSA.out.mono ?_
    rintro e wi ⟨rfl, hbi⟩
    have HBI := Lib.hid (HBH.out.trans (hbi.mono HBH.out.size))
    clear hbi
    go_wp2_with fail
    go_ret
    exact ⟨rfl, HBI.out⟩
end Go.Proofs.YtoegklpomlhneaaGreatDoor
