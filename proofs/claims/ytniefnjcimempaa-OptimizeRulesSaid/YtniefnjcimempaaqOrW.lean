/- The walks of optimize.Step at a plan of one number and at no plan, and of awake. -/
import Derived.Test.YtniefnjcimempaaqRy3
import Derived.Test.YtniefnjcimempaaqOrT
import Derived.Test.YtniefnjcimempaaqOrI
namespace Go.Proofs.Ytniefnjcimempaa
open Go.RowKit
def one1 : List St := [numSt 1]
theorem check1 : checkR one1 = 0 := by kernel_rfl
theorem modest1 : Modest one1 := ⟨by decide, fun s hs => by
  simp only [one1, List.mem_cons, List.not_mem_nil, or_false] at hs
  rcases hs with rfl; decide⟩
theorem args1 : ∀ s ∈ one1, s.args.length ≤ 3 ∧ ∀ a ∈ s.args, 0 ≤ a ∧ a < (one1.length : Int) := by decide
def namesB : List ByteArray := namesR.map fun s => ⟨s.toArray⟩
def known (name : List UInt8) : Bool := Lib.containsS (namesB.take 11) ⟨name.toArray⟩
theorem known_iff (name : List UInt8) : known name = true ↔ name ∈ namesR := by
  unfold known
  rw [Lib.containsS_iff, show namesB.take 11 = namesB from rfl]
  unfold namesB
  rw [List.mem_map]
  constructor
  · rintro ⟨s, hs, he⟩
    have := congrArg (fun x : ByteArray => x.data.toList) he
    have : s = name := by simpa using this
    rw [← this]
    exact hs
  · intro h
    exact ⟨name, h, rfl⟩
theorem apply_known {w0 w : World} {g gs cap : Nat} {n : Int} (i : Nat) (s : List UInt8) (hs : namesR[i]? = some s) (h : NumE w0 w g gs cap [n]) : Calls Try.prog 36 #[.pointer (some ⟨g, 0, none⟩), .string ⟨s.toArray⟩] w fun e w' => e = .returned (.bool false) ∧ NumE w0 w' g gs cap [n] := by
  by_cases h10 : i < 10
  · exact apply_ten (diff_one n) i s h10 hs h
  · have hi := (List.getElem?_eq_some_iff.1 hs).1
    have hi : i < 11 := hi
    obtain rfl : i = 10 := by omega
    injection hs with hs
    subst hs
    exact apply_unused1 h
set_option maxRecDepth 100000 in
set_option maxHeartbeats 4000000 in
theorem step_nil (name : List UInt8) (w : World) : Calls Try.prog 21 #[.agg #[.slice none 0 0], .string ⟨name.toArray⟩] w fun e w' => e = .returned (.tuple #[.agg #[.slice none 0 0], .bool false, errV 4]) ∧ Below w.heap.size w w' := by
  obtain ⟨wa, hwa⟩ : ∃ wa, wa = (w.alloc (.cells #[.slice none 0 0] 28)).alloc (.cells #[.slice none 0 0] 28) := ⟨_, rfl⟩
  have hba : Below w.heap.size w wa := by rw [hwa]; exact (below_alloc w _).alloc (by simp) _
  have HRA := Lib.hid (show Blk wa (w.heap.size + 1) 28 #[.slice none 0 0] by
    rw [hwa]
    have := Blk.new (w.alloc (.cells #[.slice none 0 0] 28)) 28 #[.slice none 0 0]
    simpa using this)
  have hck := Check_any none 0 [] wa ⟨[], ⟨rfl, fun h => by simp at h⟩, rfl⟩ ⟨by decide, fun s hs => by cases hs⟩
  have HCK := Lib.hid (show Calls Try.prog 17 #[.agg #[.slice none 0 0]] wa fun e w' => e = .returned (.iface 37 (.int .i64 4)) ∧ Below wa.heap.size wa w' from hck)
  have HBA := Lib.hid hba
  have HWA := Lib.hid hwa
  clear hba hck hwa
  go_enter Try.func21, Try.ntmps21
  go_wp2_with fail
  rw [← HWA.out]
  refine HCK.out.mono ?_
  rintro e w1 ⟨rfl, hb1⟩
  have hza := HBA.out.size
  have HB1 := Lib.hid (HBA.out.trans (hb1.mono hza))
  have hR1 := HRA.out.below hb1 HRA.out.lt
  have r0 := hR1.cell 0
  have r1 := hR1.frozen 0
  simp only [List.getElem?_toArray, List.getElem?_cons_zero] at r0
  clear hb1 hR1 HCK
  go_wp2_with fail
  refine bodyPost_ret (v := .tuple #[.agg #[.slice none 0 0], .bool false, .iface 37 (.int .i64 4)]) (by simp [results, Try.results21, go_sem, r0]) rfl ?_
  exact ⟨rfl, HB1.out.setCell (p := ⟨w.heap.size + 1, 0, none⟩) (by show w.heap.size ≤ w.heap.size + 1; omega) _⟩
set_option maxRecDepth 100000 in
set_option maxHeartbeats 4000000 in
theorem step_one (A : Option Addr) (c : Nat) (name : List UInt8) (w : World) (hp : PlAt w (fun i => i < w.heap.size) A one1) :
    Calls Try.prog 21 #[.agg #[.slice A 1 c], .string ⟨name.toArray⟩] w fun e w' => Below w.heap.size w w' ∧ ((known name = true ∧ ∃ g cap, e = .returned (.tuple #[.agg #[.slice (some ⟨g, 0, none⟩) 1 cap], .bool false, .nilIface])) ∨ (known name = false ∧ e = .returned (.tuple #[.agg #[.slice none 0 0], .bool false, .iface 37 (.int .i64 5)]))) := by
  obtain ⟨wa, hwa⟩ : ∃ wa, wa = (w.alloc (.cells #[.slice A 1 c] 28)).alloc (.cells #[.slice none 0 0] 28) := ⟨_, rfl⟩
  have hba : Below w.heap.size w wa := by rw [hwa]; exact (below_alloc w _).alloc (by simp) _
  have HXA := Lib.hid (show Blk wa w.heap.size 28 #[.slice A 1 c] by rw [hwa]; exact (Blk.new _ _ _).alloc _)
  have HRA := Lib.hid (show Blk wa (w.heap.size + 1) 28 #[.slice none 0 0] by
    rw [hwa]
    have := Blk.new (w.alloc (.cells #[.slice A 1 c] 28)) 28 #[.slice none 0 0]
    simpa using this)
  have HPA := Lib.hid (hp.below hba)
  have hck := Check_any A c one1 wa HPA.out modest1
  rw [check1] at hck
  have HCK := Lib.hid (show Calls Try.prog 17 #[.agg #[.slice A 1 c]] wa fun e w' => e = .returned .nilIface ∧ Below wa.heap.size wa w' from hck)
  have HBA := Lib.hid hba
  have HWA := Lib.hid hwa
  have HK : Hid (known name = true → ∃ i : Nat, namesR[i]? = some name) := Lib.hid (fun h => List.getElem?_of_mem ((known_iff name).1 h))
  clear hp hba hck hwa
  go_enter Try.func21, Try.ntmps21
  go_wp2_with fail
  rw [← HWA.out]
  refine HCK.out.mono ?_
  rintro e w1 ⟨rfl, hb1⟩
  have hza := HBA.out.size
  have HB1 := Lib.hid (HBA.out.trans (hb1.mono hza))
  have hz1 := HB1.out.size
  have HR1 := Lib.hid (HRA.out.below hb1 HRA.out.lt)
  have HX1 := Lib.hid (HXA.out.below hb1 HXA.out.lt)
  have HP1 := Lib.hid (HPA.out.below hb1)
  clear hb1 HCK
  go_wp2_with fail
  refine (rules_any _).mono ?_
  rintro e w2 ⟨rfl, hn2, hb2⟩
  have HB2 := Lib.hid (HB1.out.trans (hb2.mono hz1))
  have hz2 := HB2.out.size
  have HR2 := Lib.hid (HR1.out.below hb2 HR1.out.lt)
  have HX2 := Lib.hid (HX1.out.below hb2 HX1.out.lt)
  have HP2 := Lib.hid (HP1.out.below hb2)
  have HCT := Lib.hid (Try.slices_Contains_string w1.heap.size 0 11 11 namesB ⟨name.toArray⟩ w2 (by decide) (by decide) (fun j hj => by
    have hj : j < 11 := hj
    rw [Nat.zero_add, hn2.cell]
    have hc : j = 0 ∨ j = 1 ∨ j = 2 ∨ j = 3 ∨ j = 4 ∨ j = 5 ∨ j = 6 ∨ j = 7 ∨ j = 8 ∨ j = 9 ∨ j = 10 := by omega
    rcases hc with rfl | rfl | rfl | rfl | rfl | rfl | rfl | rfl | rfl | rfl | rfl <;> rfl))
  have hrl1 := HR1.out.lt
  clear hb2 hn2
  go_wp2_with fail
  refine HCT.out.mono ?_
  rintro e w3 ⟨rfl, rfl⟩
  have x2 := HX2.out.cell 0
  have r0 := HR2.out.cell 0
  have r1 := HR2.out.frozen 0
  simp only [List.getElem?_toArray, List.getElem?_cons_zero] at x2 r0
  change _
  obtain ⟨kb, hkb⟩ : ∃ kb, kb = Lib.containsS (namesB.take 11) ⟨name.toArray⟩ := ⟨_, rfl⟩
  rw [← hkb]
  have HKB := Lib.hid (show known name = kb from hkb.symm)
  clear hkb HCT
  cases kb with
  | false =>
    go_wp2_with fail
    refine bodyPost_ret (v := .tuple #[.agg #[.slice none 0 0], .bool false, .iface 37 (.int .i64 5)]) (by simp [results, Try.results21, go_sem, r0]) rfl ?_
    exact ⟨HB2.out.setCell (p := ⟨w.heap.size + 1, 0, none⟩) (by show w.heap.size ≤ w.heap.size + 1; omega) _, Or.inr ⟨HKB.out, rfl⟩⟩
  | true =>
    obtain ⟨i, hi⟩ := HK.out HKB.out
    have HI := Lib.hid hi
    have HNE := Lib.hid (show Calls Try.prog 34 #[.agg #[.slice A 1 c]] w3 _ from newEditor_any A c one1 w3 HP2.out (by decide) (by decide) args1)
    clear hi
    go_wp2_with fail
    refine HNE.out.mono ?_
    rintro e w4 ⟨g, gs, cap, gu, rfl, he4, hu4, hb4, hg, hs⟩
    have HB4 := Lib.hid (HB2.out.trans (hb4.mono hz2))
    have HR4 := Lib.hid (HR2.out.below hb4 HR2.out.lt)
    have hrl2 := HR2.out.lt
    have hn4 : NumE w4 w4 g gs cap [1] := ⟨Kept.refl _ _, gu, he4, by have h := usesK_nums [1] 1; have hu4 : Blk w4 gu 3 (uarr (usesK (numsL [1]) 1)) := hu4; rw [h] at hu4; exact hu4⟩
    have HAP := Lib.hid (apply_known i name HI.out hn4)
    clear he4 hu4 hb4 hn4 HNE x2 r0 r1
    go_wp2_with fail
    refine HAP.out.mono ?_
    rintro e w5 ⟨rfl, hk5, gu5, he5, _⟩
    have hz4 := HB4.out.size
    have hR5 := HR4.out.kept hk5 (fun e => by rcases e with e | e <;> omega)
    have r0 := hR5.cell 0
    have r1 := hR5.frozen 0
    have x0 := he5.ed.cell 0
    simp only [List.getElem?_toArray, List.getElem?_cons_zero] at r0 x0
    replace x0 : w5.cell? ⟨g, 0, none⟩ = some (.slice (some ⟨gs, 0, none⟩) 1 cap) := x0
    have HB5 := Lib.hid ((hk5.below HB4.out hz4 (fun i hi => by rcases hi with rfl | rfl <;> omega)).setCell (p := ⟨w.heap.size + 1, 0, none⟩) (by show w.heap.size ≤ w.heap.size + 1; omega) (.slice (some ⟨gs, 0, none⟩) 1 cap))
    clear hk5 he5 hR5 HAP
    go_wp2_with fail
    refine bodyPost_ret (v := .tuple #[.agg #[.slice (some ⟨gs, 0, none⟩) 1 cap], .bool false, .nilIface]) (by simp [results, Try.results21, go_sem, r0]) rfl ?_
    exact ⟨HB5.out, Or.inl ⟨HKB.out, gs, cap, rfl⟩⟩
end Go.Proofs.Ytniefnjcimempaa
