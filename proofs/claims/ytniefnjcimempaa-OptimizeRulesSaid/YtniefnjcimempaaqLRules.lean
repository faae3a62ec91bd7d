/- The walks of awake and of the law OptimizeRules. -/
import Derived.Test.YtniefnjcimempaaqOrW
namespace Go.Proofs.Ytniefnjcimempaa
open Go.RowKit
theorem pl_one {w : World} {g gs cap : Nat} {n : Int} {V : Value} (h : EdAt w g gs cap (numsL [n]) V) : PlAt w (fun i => i < w.heap.size) (some ⟨gs, 0, none⟩) [numSt n] := by
  have hgl := h.gs_lt
  obtain ⟨As, c, x0, x1, x2, x3, x4, hr⟩ := h.st 0 (numSt n) rfl
  refine ⟨[.string ⟨(numSt n).op.toArray⟩, .slice As (numSt n).args.length c, .int .i64 (numSt n).num, .string ⟨(numSt n).text.toArray⟩, .int .i64 (numSt n).ty], ⟨rfl, fun _ => ⟨gs, 0, rfl, hgl, hgl, fun j u hj => ?_⟩⟩, ⟨_, [], (List.append_nil _).symm, ⟨As, c, rfl, ⟨rfl, fun h => by simp [numSt] at h⟩⟩, rfl⟩⟩
  have hj5 : j < 5 := (List.getElem?_eq_some_iff.1 hj).1
  have hc : j = 0 ∨ j = 1 ∨ j = 2 ∨ j = 3 ∨ j = 4 := by omega
  rcases hc with rfl | rfl | rfl | rfl | rfl
  · exact x0.trans hj
  · exact x1.trans hj
  · exact x2.trans hj
  · exact x3.trans hj
  · exact x4.trans hj
theorem arg_one {w : World} {b : Nat} {n : Int} (h : Blk w b 49 #[.string ⟨#[110, 117, 109, 98, 101, 114]⟩, .slice none 0 0, .int .i64 n, .string ⟨#[]⟩, .int .i64 1]) : ArgPl w (some ⟨b, 0, none⟩) [numSt n] := fun i s hs => by
  have hi : i < 1 := (List.getElem?_eq_some_iff.1 hs).1
  obtain rfl : i = 0 := by omega
  injection hs with hs
  subst hs
  have hc := fun j => h.cell j
  exact ⟨b, 0, none, 0, rfl, h.lt, hc 0, hc 1, hc 2, hc 3, hc 4, ⟨rfl, fun h => by simp [numSt] at h⟩⟩
set_option maxRecDepth 100000 in
set_option maxHeartbeats 4000000 in
theorem awake_any (w : World) : Calls Try.prog 16 #[] w (AwEnd w) := by
  obtain ⟨wa, hwa⟩ : ∃ wa, wa = (w.alloc (.cells #[.int .i64 0, .int .i64 1] 3)).alloc (.cells #[.string ⟨#[110, 117, 109, 98, 101, 114]⟩, .slice none 0 0, .int .i64 2, .string ⟨#[]⟩, .int .i64 1, .string ⟨#[110, 117, 109, 98, 101, 114]⟩, .slice none 0 0, .int .i64 3, .string ⟨#[]⟩, .int .i64 1, .string ⟨#[43]⟩, .slice (some ⟨w.heap.size, 0, none⟩) 2 2, .int .i64 0, .string ⟨#[]⟩, .int .i64 1] 49) := ⟨_, rfl⟩
  have hba : Below w.heap.size w wa := by rw [hwa]; exact (below_alloc w _).alloc (by simp) _
  have hK : Blk wa (w.heap.size + 1) 49 (#[.string ⟨#[110, 117, 109, 98, 101, 114]⟩, .slice none 0 0, .int .i64 2, .string ⟨#[]⟩, .int .i64 1, .string ⟨#[110, 117, 109, 98, 101, 114]⟩, .slice none 0 0, .int .i64 3, .string ⟨#[]⟩, .int .i64 1, .string ⟨#[43]⟩, .slice (some ⟨w.heap.size, 0, none⟩) 2 2, .int .i64 0, .string ⟨#[]⟩, .int .i64 1] : Array Value) := by
    rw [hwa]
    have := Blk.new (w.alloc (.cells #[.int .i64 0, .int .i64 1] 3)) 49 (#[.string ⟨#[110, 117, 109, 98, 101, 114]⟩, .slice none 0 0, .int .i64 2, .string ⟨#[]⟩, .int .i64 1, .string ⟨#[110, 117, 109, 98, 101, 114]⟩, .slice none 0 0, .int .i64 3, .string ⟨#[]⟩, .int .i64 1, .string ⟨#[43]⟩, .slice (some ⟨w.heap.size, 0, none⟩) 2 2, .int .i64 0, .string ⟨#[]⟩, .int .i64 1] : Array Value)
    rw [show (w.alloc (.cells #[.int .i64 0, .int .i64 1] 3)).heap.size = w.heap.size + 1 by simp] at this
    exact this
  have hI : Blk wa w.heap.size 3 #[.int .i64 0, .int .i64 1] := by rw [hwa]; exact (Blk.new _ _ _).alloc _
  have harg : ArgPl wa (some ⟨w.heap.size + 1, 0, none⟩) l23 := fun i s hs => by
    have hi : i < 3 := (List.getElem?_eq_some_iff.1 hs).1
    have hc : i = 0 ∨ i = 1 ∨ i = 2 := by omega
    have hk := fun j => hK.cell j
    rcases hc with rfl | rfl | rfl
    · injection hs with hs
      subst hs
      exact ⟨w.heap.size + 1, 0, none, 0, rfl, hK.lt, hk 0, hk 1, hk 2, hk 3, hk 4, ⟨rfl, fun h => by simp [numSt] at h⟩⟩
    · injection hs with hs
      subst hs
      exact ⟨w.heap.size + 1, 0, none, 0, rfl, hK.lt, hk 5, hk 6, hk 7, hk 8, hk 9, ⟨rfl, fun h => by simp [numSt] at h⟩⟩
    · injection hs with hs
      subst hs
      refine ⟨w.heap.size + 1, 0, some ⟨w.heap.size, 0, none⟩, 2, rfl, hK.lt, hk 10, hk 11, hk 12, hk 13, hk 14, ⟨rfl, fun _ => ⟨_, rfl, hI.lt, fun j u hj => ?_⟩⟩⟩
      rw [addr_add, Nat.zero_add, hI.cell, ← Array.getElem?_toList]
      exact hj
  have HTO := Lib.hid (show Calls Try.prog 18 #[.slice (some ⟨w.heap.size + 1, 0, none⟩) 3 3] wa fun e w' => Below wa.heap.size wa w' ∧ ∃ A c, e = .returned (.agg #[.slice A 3 c]) ∧ PlAt w' (fun i => wa.heap.size ≤ i ∧ i < w'.heap.size) A l23 from to_any (some ⟨w.heap.size + 1, 0, none⟩) 3 l23 wa harg (by decide) (by decide))
  have HBA := Lib.hid hba
  have HWA := Lib.hid hwa
  clear hba hK hI harg hwa
  go_enter Try.func16, Try.ntmps16
  go_wp2_with fail
  rw [← HWA.out]
  refine HTO.out.mono ?_
  rintro e w1 ⟨hb1, A1, c1, rfl, hp1⟩
  have hza := HBA.out.size
  have HB1 := Lib.hid (HBA.out.trans (hb1.mono hza))
  have hz1 := HB1.out.size
  go_upto_region 2 with (fail)
  obtain ⟨wb, hwb⟩ : ∃ wb, wb = w1.alloc (.cells #[.slice A1 3 c1] 28) := ⟨_, rfl⟩
  rw [← hwb]
  have hb1b : Below w1.heap.size w1 wb := by rw [hwb]; exact below_alloc _ _
  have hxb : Blk wb w1.heap.size 28 #[.slice A1 3 c1] := by rw [hwb]; exact Blk.new _ _ _
  have x0 := hxb.cell 0
  simp only [List.getElem?_toArray, List.getElem?_cons_zero] at x0
  have HBB := Lib.hid (HB1.out.trans (hb1b.mono hz1))
  have hzb := HBB.out.size
  have hpb : PlAt wb (fun i => i < wb.heap.size) A1 l23 := PlAt.below (hp1.keep (w' := w1) (fun _ _ _ => rfl) (Nat.le_refl _) (fun i hi _ => hi.2)) hb1b
  have HOF := Lib.hid (of_23 A1 c1 wb hpb)
  clear hb1 hp1 hwb hb1b hxb hpb HTO
  go_wp2_with fail
  refine HOF.out.mono ?_
  rintro e w2 ⟨g, gs, cap, V, rfl, he2, hb2⟩
  have HB2 := Lib.hid (HBB.out.trans (hb2.mono hzb))
  have hz2 := HB2.out.size
  go_upto_region 3 with (fail)
  obtain ⟨wc, hwc⟩ : ∃ wc, wc = w2.alloc (.cells #[.slice (some ⟨gs, 0, none⟩) 1 cap] 28) := ⟨_, rfl⟩
  rw [← hwc]
  have hb2c : Below w2.heap.size w2 wc := by rw [hwc]; exact below_alloc _ _
  have hxc : Blk wc w2.heap.size 28 #[.slice (some ⟨gs, 0, none⟩) 1 cap] := by rw [hwc]; exact Blk.new _ _ _
  obtain ⟨wd, hwd⟩ : ∃ wd, wd = wc.alloc (.cells #[.string ⟨#[110, 117, 109, 98, 101, 114]⟩, .slice none 0 0, .int .i64 5, .string ⟨#[]⟩, .int .i64 1] 49) := ⟨_, rfl⟩
  have hbcd : Below wc.heap.size wc wd := by rw [hwd]; exact below_alloc _ _
  have hkd : Blk wd wc.heap.size 49 #[.string ⟨#[110, 117, 109, 98, 101, 114]⟩, .slice none 0 0, .int .i64 5, .string ⟨#[]⟩, .int .i64 1] := by rw [hwd]; exact Blk.new _ _ _
  have hb2d : Below w2.heap.size w2 wd := hb2c.trans (hbcd.mono hb2c.size)
  have HBD := Lib.hid (HB2.out.trans (hb2d.mono hz2))
  have HIS := Lib.hid (show Calls Try.prog 22 #[.agg #[.slice (some ⟨gs, 0, none⟩) 1 cap], .slice (some ⟨wc.heap.size, 0, none⟩) 1 1] wd (AwEnd wd) from is57_ok (some ⟨gs, 0, none⟩) (some ⟨wc.heap.size, 0, none⟩) cap 1 [numSt 5] wd (pl_one (he2.below hb2d)) (arg_one hkd) (by decide) (by decide))
  have xc := hxc.cell 0
  simp only [List.getElem?_toArray, List.getElem?_cons_zero] at xc
  have hxl := hxc.lt
  have HWD := Lib.hid hwd
  clear he2 hb2 hwc hb2c hxc hwd hbcd hkd hb2d HOF x0
  go_wp2_with fail
  rw [← HWD.out]
  refine HIS.out.mono ?_
  rintro e w5 ⟨rfl, hb5⟩
  have HB5 := Lib.hid (HBD.out.trans (hb5.mono HBD.out.size))
  clear hb5
  go_wp2_with fail
  go_ret
  exact ⟨rfl, HB5.out⟩
def knK (name : List UInt8) (k : Nat) : Bool := (namesR.take k).any fun s => s == name
theorem knK_succ {name s : List UInt8} {k : Nat} (h : namesR[k]? = some s) : knK name (k + 1) = (knK name k || s == name) := by
  unfold knK
  rw [List.take_add_one, h, Option.toList_some, List.any_append]
  simp
theorem knK_known (name : List UInt8) : knK name 11 = known name := by
  have h : knK name 11 = true ↔ known name = true := by
    rw [known_iff]
    unfold knK
    rw [show namesR.take 11 = namesR from rfl, List.any_eq_true]
    constructor
    · rintro ⟨s, hs, he⟩
      rw [← beq_iff_eq.1 he]
      exact hs
    · intro h
      exact ⟨name, h, beq_self_eq_true name⟩
  cases h1 : knK name 11 <;> cases h2 : known name <;> simp_all
def LrRel (w : World) (g1 g2 : Nat) (name : List UInt8) (f : Nat) (kn i : Value) (wr : World) : Prop := ∃ (k : Nat) (cs : Array Value), i = .int .i64 k ∧ k ≤ 11 ∧ 11 - k < f ∧ kn = .bool (knK name k) ∧ Hid (Blk wr g1 9 cs) ∧ Hid (∀ j, k ≤ j → cs[j]? = namesC[j]?) ∧ Hid (Blk wr g2 9 namesC) ∧ Hid (Below w.heap.size w wr)
set_option maxRecDepth 100000 in
set_option maxHeartbeats 8000000 in
theorem rules_law (name : List UInt8) (w : World) : Calls Try.prog 6 #[.string ⟨name.toArray⟩] w (AwEnd w) := by
  go_enter Try.func6, Try.ntmps6
  go_wp2_with fail
  refine (awake_any _).mono ?_
  rintro e w1 ⟨rfl, hb1⟩
  have HB1 := Lib.hid hb1
  have hz1 := HB1.out.size
  clear hb1
  go_wp2_with fail
  refine (rules_any _).mono ?_
  rintro e w2 ⟨rfl, hn2, hb2⟩
  have HB2 := Lib.hid (HB1.out.trans (hb2.mono hz1))
  have hz2 := HB2.out.size
  have HN2 := Lib.hid hn2
  clear hb2 hn2
  go_wp2_with fail
  refine (rrules_any _).mono ?_
  rintro e w3 ⟨rfl, hn3, hb3⟩
  have HB3 := Lib.hid (HB2.out.trans (hb3.mono hz2))
  have hz3 := HB3.out.size
  have HN3 := Lib.hid hn3
  have HN23 := Lib.hid (HN2.out.below hb3 HN2.out.lt)
  have hg12 : w1.heap.size < w2.heap.size := HN2.out.lt
  clear hb3 hn3
  go_wp2_with fail
  go_loopg [5, 6, 26] 12 (fun f kn _ i wr => LrRel w w1.heap.size w2.heap.size name f kn i wr)
  case atStart => exact ⟨0, namesC, rfl, by omega, by omega, rfl, HN23, Lib.hid (fun _ _ => rfl), HN3, HB3⟩
  case round =>
    clear HN23 HN3 HB3 HN2
    obtain ⟨k, cs, rfl, hk, hkf, rfl, HC, HJ, HN, HB⟩ := hrel
    obtain ⟨f, rfl⟩ : ∃ f, gk = f + 1 := ⟨gk - 1, by omega⟩
    by_cases hlt : k < 11
    · obtain ⟨s, hs⟩ : ∃ s, namesR[k]? = some s := ⟨namesR[k]'(show k < 11 from hlt), List.getElem?_eq_getElem _⟩
      have hc := namesC_at hs
      have y1 : wr.cell? ⟨w1.heap.size, k, none⟩ = some (.string ⟨s.toArray⟩) := by rw [HC.out.cell, HJ.out k (Nat.le_refl _), hc]
      have y2 : wr.cell? ⟨w2.heap.size, k, none⟩ = some (.string ⟨s.toArray⟩) := by rw [HN.out.cell, hc]
      have y3 := HC.out.frozen k
      have HKS := Lib.hid (knK_succ (name := name) hs)
      obtain ⟨kb, hkb⟩ : ∃ kb, kb = knK name k := ⟨_, rfl⟩
      rw [← hkb] at HKS ⊢
      have q0 : (k : Int) < 11 := by omega
      have q1 : (0 : Int) ≤ (k : Int) := by omega
      have HC2 := Lib.hid (HC.out.set_ k (.string ⟨#[63]⟩))
      have HJ2 : Hid (∀ j, k + 1 ≤ j → (cs.setIfInBounds k (.string ⟨#[63]⟩))[j]? = namesC[j]?) := Lib.hid (fun j hj => by rw [Array.getElem?_setIfInBounds_ne (by omega)]; exact HJ.out j (by omega))
      have HN2 := Lib.hid (HN.out.far (p := ⟨w1.heap.size, k, none⟩) (by show w2.heap.size ≠ w1.heap.size; omega) (.string ⟨#[63]⟩))
      have HB2' := Lib.hid (HB.out.setCell (p := ⟨w1.heap.size, k, none⟩) (by show w.heap.size ≤ w1.heap.size; omega) (.string ⟨#[63]⟩))
      clear hs hc hkb
      cases kb with
      | true =>
        go_wp2_with fail
        go_quiet (fail)
        go_wp2_with fail
        go_roundg f
        case measure => omega
        case rel => exact ⟨k + 1, _, by go_num, by omega, by omega, by rw [HKS.out]; rfl, Lib.hid (HC2.out.drewN _), HJ2, Lib.hid (HN2.out.drewN _), Lib.hid (below_drewN HB2'.out _)⟩
      | false =>
        by_cases hsn : s = name
        · subst hsn
          go_wp2_with fail
          go_quiet (fail)
          go_wp2_with fail
          go_roundg f
          case measure => omega
          case rel => exact ⟨k + 1, _, by go_num, by omega, by omega, by rw [HKS.out]; simp, Lib.hid (HC2.out.drewN _), HJ2, Lib.hid (HN2.out.drewN _), Lib.hid (below_drewN HB2'.out _)⟩
        · have hne : (s == name) = false := beq_eq_false_iff_ne.2 hsn
          go_wp2_with fail
          go_quiet (fail)
          go_wp2_with fail
          go_roundg f
          case measure => omega
          case rel => exact ⟨k + 1, _, by go_num, by omega, by omega, by rw [HKS.out, hne]; rfl, Lib.hid (HC2.out.drewN _), HJ2, Lib.hid (HN2.out.drewN _), Lib.hid (below_drewN HB2'.out _)⟩
    · obtain rfl : k = 11 := by omega
      rw [knK_known]
      obtain ⟨kb, hkb⟩ : ∃ kb, kb = known name := ⟨_, rfl⟩
      rw [← hkb]
      have HKB := Lib.hid hkb
      have hzr := HB.out.size
      clear hkb HC HJ
      go_wp2_with fail
      refine (rules_any _).mono ?_
      rintro e w4 ⟨rfl, hn4, hb4⟩
      have HB4 := Lib.hid (HB.out.trans (hb4.mono hzr))
      have hz4 := HB4.out.size
      have y1 : w4.cell? ⟨wr.heap.size, 0, none⟩ = some (.string ⟨#[115, 104, 97, 114, 101]⟩) := by rw [hn4.cell]; rfl
      have y2 : w4.cell? ⟨w2.heap.size, 0, none⟩ = some (.string ⟨#[115, 104, 97, 114, 101]⟩) := by rw [(HN.out.below hb4 HN.out.lt).cell]; rfl
      clear hn4 hb4 HN
      go_wp2_with fail
      go_quiet (fail)
      obtain ⟨w5, hw5⟩ : ∃ w5, w5 = w4.drewN nq := ⟨_, rfl⟩
      rw [← hw5]
      have HB5 : Hid (Below w.heap.size w w5) := Lib.hid (by rw [hw5]; exact below_drewN HB4.out _)
      have hz5 := HB5.out.size
      obtain ⟨wd, hwd⟩ : ∃ wd, wd = w5.alloc (.cells #[.string ⟨#[110, 117, 109, 98, 101, 114]⟩, .slice none 0 0, .int .i64 1, .string ⟨#[]⟩, .int .i64 1] 49) := ⟨_, rfl⟩
      have hbd : Below w5.heap.size w5 wd := by rw [hwd]; exact below_alloc _ _
      have hkd : Blk wd w5.heap.size 49 #[.string ⟨#[110, 117, 109, 98, 101, 114]⟩, .slice none 0 0, .int .i64 1, .string ⟨#[]⟩, .int .i64 1] := by rw [hwd]; exact Blk.new _ _ _
      have HTO := Lib.hid (show Calls Try.prog 18 #[.slice (some ⟨w5.heap.size, 0, none⟩) 1 1] wd fun e w' => Below wd.heap.size wd w' ∧ ∃ A c, e = .returned (.agg #[.slice A 1 c]) ∧ PlAt w' (fun i => wd.heap.size ≤ i ∧ i < w'.heap.size) A one1 from to_any (some ⟨w5.heap.size, 0, none⟩) 1 one1 wd (arg_one hkd) (by decide) (by decide))
      have HBD := Lib.hid (HB5.out.trans (hbd.mono hz5))
      have hzd := HBD.out.size
      have HWD := Lib.hid hwd
      clear hw5 hwd hbd hkd y1 y2
      go_wp2_with fail
      rw [← HWD.out]
      refine HTO.out.mono ?_
      rintro e w6 ⟨hb6, A6, c6, rfl, hp6⟩
      have HB6 := Lib.hid (HBD.out.trans (hb6.mono hzd))
      have hz6 := HB6.out.size
      go_upto_region 19 with (fail)
      obtain ⟨we, hwe⟩ : ∃ we, we = w6.alloc (.cells #[.slice A6 1 c6] 28) := ⟨_, rfl⟩
      rw [← hwe]
      have hb6e : Below w6.heap.size w6 we := by rw [hwe]; exact below_alloc _ _
      have hxe : Blk we w6.heap.size 28 #[.slice A6 1 c6] := by rw [hwe]; exact Blk.new _ _ _
      have x0 := hxe.cell 0
      simp only [List.getElem?_toArray, List.getElem?_cons_zero] at x0
      have HBE := Lib.hid (HB6.out.trans (hb6e.mono hz6))
      have hze := HBE.out.size
      have HST := Lib.hid (step_one A6 c6 name we (PlAt.below (hp6.keep (w' := w6) (fun _ _ _ => rfl) (Nat.le_refl _) (fun i hi _ => hi.2)) hb6e))
      clear hb6 hp6 hwe hb6e hxe HTO
      go_wp2_with fail
      refine HST.out.mono ?_
      rintro e w7 ⟨hb7, hcase⟩
      have HB7 := Lib.hid (HBE.out.trans (hb7.mono hze))
      have hz7 := HB7.out.size
      clear x0
      rcases hcase with ⟨hk, g, cap, rfl⟩ | ⟨hk, rfl⟩
      · have hkk : kb = true := HKB.out.trans hk
        subst hkk
        clear hk HST
        go_upto_region 20 with (fail)
        obtain ⟨wf, hwf⟩ : ∃ wf, wf = w7.alloc (.cells #[.slice (some ⟨g, 0, none⟩) 1 cap] 28) := ⟨_, rfl⟩
        rw [← hwf]
        have hb7f : Below w7.heap.size w7 wf := by rw [hwf]; exact below_alloc _ _
        have HTF := Lib.hid (show Blk wf w7.heap.size 28 #[.slice (some ⟨g, 0, none⟩) 1 cap] by rw [hwf]; exact Blk.new _ _ _)
        have HBF := Lib.hid (HB7.out.trans (hb7f.mono hz7))
        clear hwf hb7f hb7
        go_wp2_with fail
        refine (step_nil name _).mono ?_
        rintro e w8 ⟨rfl, hb8⟩
        have HB8 := Lib.hid (HBF.out.trans (hb8.mono HBF.out.size))
        have hz8 := HB8.out.size
        rw [show errV 4 = .iface 37 (.int .i64 4) from rfl]
        have HT8 := Lib.hid (HTF.out.below hb8 HTF.out.lt)
        clear hb8
        go_upto_region 21 with (fail)
        obtain ⟨wg, hwg⟩ : ∃ wg, wg = w8.alloc (.cells #[.slice none 0 0] 28) := ⟨_, rfl⟩
        rw [← hwg]
        have hb8g : Below w8.heap.size w8 wg := by rw [hwg]; exact below_alloc _ _
        have HBG := Lib.hid (HB8.out.trans (hb8g.mono hz8))
        have t0 := (HT8.out.below hb8g HT8.out.lt).cell 0
        simp only [List.getElem?_toArray, List.getElem?_cons_zero] at t0
        clear hwg hb8g
        go_wp2_with fail
        refine (is_same 4 _ (by decide)).mono ?_
        rintro e _ ⟨rfl, rfl⟩
        go_wp2_with fail
        go_ret
        exact ⟨rfl, HBG.out⟩
      · have hkk : kb = false := HKB.out.trans hk
        subst hkk
        clear hk HST
        go_upto_region 20 with (fail)
        obtain ⟨wf, hwf⟩ : ∃ wf, wf = w7.alloc (.cells #[.slice none 0 0] 28) := ⟨_, rfl⟩
        rw [← hwf]
        have hb7f : Below w7.heap.size w7 wf := by rw [hwf]; exact below_alloc _ _
        have HTF := Lib.hid (show Blk wf w7.heap.size 28 #[.slice none 0 0] by rw [hwf]; exact Blk.new _ _ _)
        have HBF := Lib.hid (HB7.out.trans (hb7f.mono hz7))
        clear hwf hb7f hb7
        go_wp2_with fail
        refine (step_nil name _).mono ?_
        rintro e w8 ⟨rfl, hb8⟩
        have HB8 := Lib.hid (HBF.out.trans (hb8.mono HBF.out.size))
        have hz8 := HB8.out.size
        rw [show errV 4 = .iface 37 (.int .i64 4) from rfl]
        have HT8 := Lib.hid (HTF.out.below hb8 HTF.out.lt)
        clear hb8
        go_upto_region 21 with (fail)
        obtain ⟨wg, hwg⟩ : ∃ wg, wg = w8.alloc (.cells #[.slice none 0 0] 28) := ⟨_, rfl⟩
        rw [← hwg]
        have hb8g : Below w8.heap.size w8 wg := by rw [hwg]; exact below_alloc _ _
        have HBG := Lib.hid (HB8.out.trans (hb8g.mono hz8))
        have t0 := (HT8.out.below hb8g HT8.out.lt).cell 0
        simp only [List.getElem?_toArray, List.getElem?_cons_zero] at t0
        clear hwg hb8g
        go_wp2_with fail
        refine (is_same 5 _ (by decide)).mono ?_
        rintro e _ ⟨rfl, rfl⟩
        go_wp2_with fail
        refine (is_same 4 _ (by decide)).mono ?_
        rintro e _ ⟨rfl, rfl⟩
        go_wp2_with fail
        go_ret
        exact ⟨rfl, HBG.out⟩
theorem rules_str (s : ByteArray) (w : World) : Calls Try.prog 6 #[.string s] w (AwEnd w) := by
  have h := rules_law s.data.toList w
  rwa [show (⟨s.data.toList.toArray⟩ : ByteArray) = s by cases s; simp] at h
end Go.Proofs.Ytniefnjcimempaa
