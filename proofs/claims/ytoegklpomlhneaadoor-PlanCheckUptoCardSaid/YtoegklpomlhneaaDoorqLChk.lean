/- The walk of the law PlanCheck. -/
import Derived.Test.YtoegklpomlhneaaDoorqAl56
import Derived.Test.YtoegklpomlhneaaDoorqStp
import Derived.Test.YtoegklpomlhneaaDoorqCkR
import Derived.Test.YtoegklpomlhneaaDoorqCkB
import Derived.Test.YtoegklpomlhneaaDoorqTreeW
import Derived.Test.YtoegklpomlhneaaDoorqRl
namespace Go.Proofs.YtoegklpomlhneaaDoor
open Go.RowKit
set_option maxRecDepth 100000 in
set_option maxHeartbeats 4000000 in
theorem pcheck_any (A : Option Addr) (c : Nat) (l : List St) (w : World) (h : ArgPl w A l) (hn : l.length ≤ 2000000) (ha : ∀ s ∈ l, s.args.length ≤ 2000000 ∧ s.text.length ≤ 9223372036854775807) :
    Calls Tryd.prog 5 #[.slice A l.length c] w (AwEnd w) := by
  have HA := Lib.hid h
  have HM := Lib.hid ha
  clear h ha
  go_enter Tryd.func5, Tryd.ntmps5
  go_wp2_with fail
  refine (alive56_any _).mono ?_
  rintro e w1 ⟨rfl, hb1⟩
  have HB1 := Lib.hid hb1
  clear hb1
  by_cases hbig : 200 < l.length
  · have q0 : (200 : Int) < (l.length : Int) := by omega
    go_wp2_with fail
    go_ret
    exact ⟨rfl, HB1.out⟩
  have q0 : ¬ ((200 : Int) < (l.length : Int)) := by omega
  have hst := steps_any A c l w1 (HA.out.below HB1.out) (by omega) (fun s hs => (HM.out s hs).1)
  have HST := Lib.hid hst
  clear hst
  go_wp2_with fail
  refine HST.out.mono ?_
  rintro e w2 ⟨hb2, A2, c2, rfl, hp2⟩
  have hz1 := HB1.out.size
  have HB2 := Lib.hid (HB1.out.trans (hb2.mono hz1))
  have hz2 := HB2.out.size
  have hp2' : PlAt w2 (fun i => i < w2.heap.size) A2 l := hp2.keep (w' := w2) (fun _ _ _ => rfl) (Nat.le_refl _) (fun i hi _ => hi.2)
  have hmod : Modest l := ⟨by omega, HM.out⟩
  have HP3 := Lib.hid (hp2'.below (below_alloc w2 (.cells #[.slice A2 l.length c2] 51)))
  have HX3 := Lib.hid (Blk.new w2 51 #[.slice A2 l.length c2])
  have HB3 := Lib.hid (HB2.out.alloc hz2 (.cells #[.slice A2 l.length c2] 51))
  clear hb2 hp2 hp2' HST
  generalize hW3 : w2.alloc (.cells #[.slice A2 l.length c2] 51) = w3 at HP3 HX3 HB3
  have hrg := regular_any A c l w3 (HA.out.below HB3.out) (by omega) (fun s hs => (HM.out s hs).2)
  have HRG := Lib.hid hrg
  have HW3 := Lib.hid hW3
  have HMD := Lib.hid hmod
  clear hW3 hrg hmod
  go_wp2_with fail
  rw [HW3.out]
  refine HRG.out.mono ?_
  rintro e w4 ⟨hb4, Ar, cr, rfl, hown⟩
  have hz3 := HB3.out.size
  have HB4 := Lib.hid (HB3.out.trans (hb4.mono hz3))
  have hrc := rcheck_any A c l Ar cr w4 (HA.out.below HB4.out) (Reads.of_own hown) (by omega) (fun s hs => (HM.out s hs).1)
  have HRC := Lib.hid hrc
  have HP4 := Lib.hid (HP3.out.below hb4)
  have HX4 := Lib.hid (HX3.out.below hb4 HX3.out.lt)
  clear hb4 hown hrc HRG
  go_wp2_with fail
  refine HRC.out.mono ?_
  rintro e w5 ⟨rfl, hb5⟩
  have hz4 := HB4.out.size
  have HB5 := Lib.hid (HB4.out.trans (hb5.mono hz4))
  have HP5 := Lib.hid (HP4.out.below hb5)
  have HX5 := Lib.hid (HX4.out.below hb5 HX4.out.lt)
  obtain ⟨R, hR⟩ : ∃ R, R = checkR l := ⟨_, rfl⟩
  have hck := Check_any A2 c2 l w5 HP5.out HMD.out
  rw [← hR] at hck ⊢
  have HCK := Lib.hid hck
  have HR := Lib.hid hR
  have p5 := HX5.out.cell 0
  simp only [List.getElem?_toArray, List.getElem?_cons_zero] at p5
  clear hb5 hck HRC hR
  go_wp2_with fail
  refine HCK.out.mono ?_
  rintro e w6 ⟨rfl, hb6⟩
  have hz5 := HB5.out.size
  have HB6 := Lib.hid (HB5.out.trans (hb6.mono hz5))
  have HP6 := Lib.hid (HP5.out.below hb6)
  have HX6 := Lib.hid (HX5.out.below hb6 HX5.out.lt)
  obtain ⟨ev, hev⟩ : ∃ ev, ev = errV R := ⟨_, rfl⟩
  have hnum : ∀ W, Calls Tryd.prog 9 #[ev] W fun e w' => e = .returned (.int .i64 R) ∧ W = w' := fun W => by rw [hev]; exact num_errV R W
  have HNUM := Lib.hid hnum
  rw [← hev]
  have HEV := Lib.hid hev
  clear hb6 HCK hnum hev p5
  go_wp2_with fail
  refine (HNUM.out _).mono ?_
  rintro e _ ⟨rfl, rfl⟩
  by_cases hR0 : R = 0
  · have q1 : ¬ (R ≠ 0) := by omega
    go_wp2_with fail
    go_ret
    exact ⟨rfl, HB6.out⟩
  have hE : checkR l ≠ 0 := by rw [← HR.out]; exact hR0
  have hee : errV (checkR l) = ev := by rw [← HR.out]; exact HEV.out.symm
  have htr := Tree_any A2 c2 l w6 HP6.out HMD.out
  have HTR := Lib.hid htr
  have HE := Lib.hid hE
  have HEE := Lib.hid hee
  have p6 := HX6.out.cell 0
  simp only [List.getElem?_toArray, List.getElem?_cons_zero] at p6
  clear htr hE hee
  go_wp2_with fail
  refine HTR.out.mono ?_
  rintro e w7 ⟨hb7, he⟩
  rw [if_pos HE.out, HEE.out] at he
  subst he
  have hz6 := HB6.out.size
  have HB7 := Lib.hid (HB6.out.trans (hb7.mono hz6))
  have hz7 := HB7.out.size
  obtain ⟨w8, hw8⟩ : ∃ w8, w8 = w7.alloc (.cells #[.int .i64 0, .string ⟨#[]⟩, .int .i64 0, .slice none 0 0] 59) := ⟨_, rfl⟩
  have hb78 : Below w7.heap.size w7 w8 := by rw [hw8]; exact below_alloc _ _
  have hb68 : Below w6.heap.size w6 w8 := hb7.trans (hb78.mono hb7.size)
  have HB8 := Lib.hid (HB6.out.trans (hb68.mono hz6))
  have HP8 := Lib.hid (HP6.out.below hb68)
  have HX8 := Lib.hid (HX6.out.below hb68 HX6.out.lt)
  have HT8 := Lib.hid (show Blk w8 w7.heap.size 59 #[.int .i64 0, .string ⟨#[]⟩, .int .i64 0, .slice none 0 0] by rw [hw8]; exact Blk.new _ _ _)
  have hfm := Format_bad A2 c2 l w8 HP8.out HMD.out HE.out
  rw [HEE.out] at hfm
  have HFM := Lib.hid hfm
  have p8 := HX8.out.cell 0
  simp only [List.getElem?_toArray, List.getElem?_cons_zero] at p8
  have HW8 := Lib.hid hw8
  rw [HW8.out] at p8
  clear hb7 hb78 hb68 hfm hw8 HTR p6
  go_wp2_with fail
  rw [← HW8.out]
  refine HFM.out.mono ?_
  rintro e w9 ⟨rfl, hb9⟩
  have hz8 := HB8.out.size
  have HB9 := Lib.hid (HB8.out.trans (hb9.mono hz8))
  have HP9 := Lib.hid (HP8.out.below hb9)
  have HX9 := Lib.hid (HX8.out.below hb9 HX8.out.lt)
  have HT9 := Lib.hid (HT8.out.below hb9 HT8.out.lt)
  have hco := Cost_any A2 c2 l w9 HP9.out HMD.out
  unfold CostEnd at hco
  rw [HEE.out, if_neg HE.out] at hco
  have HCO := Lib.hid hco
  have p9 := HX9.out.cell 0
  simp only [List.getElem?_toArray, List.getElem?_cons_zero] at p9
  clear hb9 hco HFM p8
  go_wp2_with fail
  refine HCO.out.mono ?_
  rintro e wa ⟨rfl, hba⟩
  have hz9 := HB9.out.size
  have HBa := Lib.hid (HB9.out.trans (hba.mono hz9))
  have HPa := Lib.hid (HP9.out.below hba)
  have HXa := Lib.hid (HX9.out.below hba HX9.out.lt)
  have HTa := Lib.hid (HT9.out.below hba HT9.out.lt)
  have hus := Uses_bad A2 c2 l wa HPa.out HMD.out HE.out
  rw [HEE.out] at hus
  have HUS := Lib.hid hus
  have pa := HXa.out.cell 0
  simp only [List.getElem?_toArray, List.getElem?_cons_zero] at pa
  clear hba hus HCO p9
  go_wp2_with fail
  refine HUS.out.mono ?_
  rintro e wb ⟨rfl, hbb⟩
  have hza := HBa.out.size
  have HBb := Lib.hid (HBa.out.trans (hbb.mono hza))
  have HTb := Lib.hid (HTa.out.below hbb HTa.out.lt)
  have t0 := HTb.out.cell 0
  have t3 := HTb.out.cell 3
  simp only [List.getElem?_toArray, List.getElem?_cons_zero, List.getElem?_cons_succ] at t0 t3
  clear hbb HUS pa
  go_wp2_with fail
  repeat (refine (HNUM.out _).mono ?_; rintro e _ ⟨rfl, rfl⟩; go_wp2_with fail)
  go_ret
  exact ⟨rfl, HBb.out⟩
end Go.Proofs.YtoegklpomlhneaaDoor
