/- The law: Literal answers the expression of a text, which has as many positions as letters and matches that text alone. Condition: the lengths are those of slices. (Printed by gen_llit.py.) -/
import Derived.Test.YtpiagfmjekcncaaDoorjLw
import Derived.Test.YtpiagfmjekcncaaDoorjLReg
import Derived.Deep.RegionHeld3
set_option linter.unusedVariables false
set_option linter.unusedSimpArgs false
set_option linter.unusedSectionVars false
namespace Go.Proofs.YtpiagfmjekcncaaDoor
open Go.RowKit
set_option maxRecDepth 100000 in
set_option maxHeartbeats 8000000 in
theorem regexLiterals_law (A B : Option Addr) (ca cb : Nat) (b t : List UInt8) (w : World) (hr : Reads w w.heap.size 1 A b.length (b.map byteV)) (hr2 : Reads w w.heap.size 1 B t.length (t.map byteV)) (hca : b.length ≤ ca) (hcb : t.length ≤ cb) (hT : TzAt w) :
    Calls Tryd.prog 4 #[.slice A b.length ca, .slice B t.length cb] w (AwEnd w) := by
  by_cases hl1 : 2000 < b.length
  · have t1 : decide (2000 < (b.length : Int)) = true := decide_eq_true (by omega)
    clear hr hr2 hT
    go_enter Tryd.func4, Tryd.ntmps4
    go_wp2_with fail
    go_ret
    exact ⟨rfl, Below.refl _ _⟩
  have t1 : decide (2000 < (b.length : Int)) = false := decide_eq_false (by omega)
  by_cases hl2 : 2000 < t.length
  · have t2 : decide (2000 < (t.length : Int)) = true := decide_eq_true (by omega)
    clear hr hr2 hT
    go_enter Tryd.func4, Tryd.ntmps4
    go_wp2_with fail
    go_ret
    exact ⟨rfl, Below.refl _ _⟩
  have t2 : decide (2000 < (t.length : Int)) = false := decide_eq_false (by omega)
  have HL := Lib.hid (lit_any A ca b w hr (by omega))
  have HR0 := Lib.hid hr
  have HS0 := Lib.hid hr2
  have HT := Lib.hid hT
  have hTl := hT.lt
  clear hr hr2 hT
  by_cases h64 : 64 < b.length
  · have t3 : decide (64 < (b.length : Int)) = true := decide_eq_true (by omega)
    go_enter Tryd.func4, Tryd.ntmps4
    go_wp2_with fail
    refine HL.out.mono ?_
    rintro e w1 ⟨he, hb1⟩
    rw [if_pos h64] at he
    subst he
    have HB2 := Lib.hid (hb1.alloc hb1.size (.cells #[.int .i64 0, .int .u64 0, .int .u64 0, .int .u64 0, .int .u64 0, .int .i64 0, .int .i64 0, .slice none 0 0] 27))
    have HR2 := Lib.hid (show R8 (w1.alloc (.cells #[.int .i64 0, .int .u64 0, .int .u64 0, .int .u64 0, .int .u64 0, .int .i64 0, .int .i64 0, .slice none 0 0] 27)) w1.heap.size (.int .i64 0) (.int .u64 0) (.int .u64 0) (.int .u64 0) (.int .u64 0) (.int .i64 0) (.int .i64 0) (.slice none 0 0) from Blk.new w1 _ _)
    obtain ⟨w2, hw2⟩ : ∃ w2, w2 = w1.alloc (.cells #[.int .i64 0, .int .u64 0, .int .u64 0, .int .u64 0, .int .u64 0, .int .i64 0, .int .i64 0, .slice none 0 0] 27) := ⟨_, rfl⟩
    rw [← hw2] at HB2 HR2
    obtain ⟨G, hG⟩ : ∃ G, G = w1.heap.size := ⟨_, rfl⟩
    rw [← hG] at HR2
    have HW2 := Lib.hid hw2
    have HG := Lib.hid hG
    clear hw2 hG hb1 HL
    unfold zeroC
    go_upto_region 4 with (fail)
    rw [← HW2.out, ← HG.out]
    clear HW2 HG
    go_wp2_with fail
    refine (alive30_any w2).mono ?_
    rintro e w3 ⟨rfl, hb3⟩
    have HB3 := Lib.hid (HB2.out.trans (hb3.mono HB2.out.size))
    have HR3 := Lib.hid (HR2.out.below hb3 HR2.out.lt)
    clear hb3 HR2 HB2
    obtain ⟨⟨⟨s0, s1⟩, s2, s3⟩, ⟨s4, s5⟩, s6, s7⟩ := HR3.out.cells
    go_wp2_with fail
    refine (is_same 9 w3 (by decide)).mono ?_
    rintro e w4 ⟨rfl, rfl⟩
    go_wp2_with fail
    go_ret
    exact ⟨rfl, HB3.out⟩
  have t3 : decide (64 < (b.length : Int)) = false := decide_eq_false (by omega)
  go_enter Tryd.func4, Tryd.ntmps4
  go_wp2_with fail
  refine HL.out.mono ?_
  rintro e w1 ⟨he, hb1⟩
  rw [if_neg h64] at he
  obtain ⟨cs, rfl, hv⟩ := he
  obtain ⟨kd, aa, ab, ac, ad, lo, hi, A2, n2, c2, rfl⟩ := hv.rxv.eight
  have HB2 := Lib.hid (hb1.alloc hb1.size (.cells #[.int .i64 kd, .int .u64 aa, .int .u64 ab, .int .u64 ac, .int .u64 ad, .int .i64 lo, .int .i64 hi, .slice A2 n2 c2] 27))
  have HR2 := Lib.hid (show R8 (w1.alloc (.cells #[.int .i64 kd, .int .u64 aa, .int .u64 ab, .int .u64 ac, .int .u64 ad, .int .i64 lo, .int .i64 hi, .slice A2 n2 c2] 27)) w1.heap.size (.int .i64 kd) (.int .u64 aa) (.int .u64 ab) (.int .u64 ac) (.int .u64 ad) (.int .i64 lo) (.int .i64 hi) (.slice A2 n2 c2) from Blk.new w1 _ _)
  have HV2 := Lib.hid (hv.below ((Below.refl w1.heap.size w1).alloc (Nat.le_refl _) (.cells #[.int .i64 kd, .int .u64 aa, .int .u64 ab, .int .u64 ac, .int .u64 ad, .int .i64 lo, .int .i64 hi, .slice A2 n2 c2] 27)))
  obtain ⟨w2, hw2⟩ : ∃ w2, w2 = w1.alloc (.cells #[.int .i64 kd, .int .u64 aa, .int .u64 ab, .int .u64 ac, .int .u64 ad, .int .i64 lo, .int .i64 hi, .slice A2 n2 c2] 27) := ⟨_, rfl⟩
  rw [← hw2] at HB2 HR2 HV2
  obtain ⟨G, hG⟩ : ∃ G, G = w1.heap.size := ⟨_, rfl⟩
  rw [← hG] at HR2
  have HW2 := Lib.hid hw2
  have HG := Lib.hid hG
  clear hw2 hG hb1 HL hv
  go_upto_region 4 with (fail)
  rw [← HW2.out, ← HG.out]
  clear HW2 HG
  obtain ⟨⟨⟨s0, s1⟩, s2, s3⟩, ⟨s4, s5⟩, s6, s7⟩ := HR2.out.cells
  have HP := Lib.hid (positions_lit b (by omega) w2 w.heap.size _ HV2.out)
  go_wp2_with fail
  refine HP.out.mono ?_
  rintro e w3 ⟨rfl, hb3⟩
  have HB3 := Lib.hid (HB2.out.trans (hb3.mono HB2.out.size))
  have HR3 := Lib.hid (HR2.out.below hb3 HR2.out.lt)
  have HV3 := Lib.hid (HV2.out.below hb3)
  clear hb3 HR2 HB2 HV2 HP s0 s1 s2 s3 s4 s5 s6 s7
  obtain ⟨⟨⟨s0, s1⟩, s2, s3⟩, ⟨s4, s5⟩, s6, s7⟩ := HR3.out.cells
  have hM1 := matches_lit b (by omega) w3 w.heap.size _ HV3.out A ca b ((HR0.out.below HB3.out).more HB3.out.size) hca (by omega) (HT.out.below HB3.out hTl)
  rw [decide_eq_true rfl] at hM1
  have HM1 := Lib.hid hM1
  clear hM1
  go_wp2_with fail
  refine HM1.out.mono ?_
  rintro e w4 ⟨rfl, hb4⟩
  have HB4 := Lib.hid (HB3.out.trans (hb4.mono HB3.out.size))
  have HR4 := Lib.hid (HR3.out.below hb4 HR3.out.lt)
  have HV4 := Lib.hid (HV3.out.below hb4)
  clear hb4 HR3 HB3 HV3 HM1 s0 s1 s2 s3 s4 s5 s6 s7
  obtain ⟨⟨⟨s0, s1⟩, s2, s3⟩, ⟨s4, s5⟩, s6, s7⟩ := HR4.out.cells
  have hM2 := matches_lit b (by omega) w4 w.heap.size _ HV4.out B cb t ((HS0.out.below HB4.out).more HB4.out.size) hcb (by omega) (HT.out.below HB4.out hTl)
  obtain ⟨Y, hY⟩ : ∃ Y, Y = decide (t = b) := ⟨_, rfl⟩
  rw [← hY] at hM2
  have HM2 := Lib.hid hM2
  have hq : (Y == (b == t)) = true := by
    rw [hY, beq_iff_eq, Bool.eq_iff_iff]
    simp only [decide_eq_true_eq, beq_iff_eq]
    exact ⟨fun h => h.symm, fun h => h.symm⟩
  obtain ⟨X, hX⟩ : ∃ X, X = (b == t) := ⟨_, rfl⟩
  rw [← hX] at hq
  have HX := Lib.hid hX
  clear hM2 hY hX
  go_wp2_with fail
  refine HM2.out.mono ?_
  rintro e w5 ⟨rfl, hb5⟩
  have HB5 := Lib.hid (HB4.out.trans (hb5.mono HB4.out.size))
  have HR5 := Lib.hid (HR4.out.below hb5 HR4.out.lt)
  have HV5 := Lib.hid (HV4.out.below hb5)
  clear hb5 HR4 HB4 HV4 HM2 s0 s1 s2 s3 s4 s5 s6 s7
  obtain ⟨⟨⟨s0, s1⟩, s2, s3⟩, ⟨s4, s5⟩, s6, s7⟩ := HR5.out.cells
  have K1 := Lib.hid (fun (W : World) (h : Below w5.heap.size w5 W) => (HR5.out.below h HR5.out.lt))
  have hbb := fun (W : World) (h : Below w5.heap.size w5 W) => bytes_any A B b.length t.length ca cb _ _ b t W ((HR0.out.below (HB5.out.trans (h.mono HB5.out.size)))) ((HS0.out.below (HB5.out.trans (h.mono HB5.out.size))))
  rw [← HX.out] at hbb
  have HBB := Lib.hid hbb
  have HGL := Lib.hid (fun (W : World) (h : Below w5.heap.size w5 W) => glit_any A ca b W ((HR0.out.below (HB5.out.trans (h.mono HB5.out.size))).more (HB5.out.trans (h.mono HB5.out.size)).size) (by omega))
  have e1 : ((b.length : Int) == (b.length : Int)) = true := beq_self_eq_true _
  clear hbb
  go_upto_region 9 with (fail)
  go_region_held3 (fun w' => w'.cell? ⟨G, 0, none⟩ = some (.int .i64 kd) ∧ w'.cell? ⟨G, 1, none⟩ = some (.int .u64 aa) ∧ w'.cell? ⟨G, 2, none⟩ = some (.int .u64 ab) ∧ w'.cell? ⟨G, 3, none⟩ = some (.int .u64 ac) ∧ w'.cell? ⟨G, 4, none⟩ = some (.int .u64 ad) ∧ w'.cell? ⟨G, 5, none⟩ = some (.int .i64 lo) ∧ w'.cell? ⟨G, 6, none⟩ = some (.int .i64 hi) ∧ w'.cell? ⟨G, 7, none⟩ = some (.slice A2 n2 c2))
    (first | go_keep | (refine ⟨?_, ?_, ?_, ?_, ?_, ?_, ?_, ?_⟩ <;> assumption))
    (first | (go_at_call 7; refine (alive30_any _).mono ?_; rintro e wa ⟨rfl, hba'⟩; have hba : Below w5.heap.size w5 wa := ((Below.refl _ w5).drew).trans hba'; have HBA := Lib.hid hba; have hra := K1.out wa hba; obtain ⟨⟨⟨p0, p1⟩, p2, p3⟩, ⟨p4, p5⟩, p6, p7⟩ := (Lib.hid hra).out.cells; clear hba' hba hra) | (go_at_call 14; refine (HBB.out wa HBA.out).mono ?_; rintro e wa2 ⟨rfl, rfl⟩) | (go_at_call 15; refine (HGL.out wa HBA.out).mono ?_; rintro e wb ⟨cs2, rfl, hv2, hbb2⟩; obtain ⟨kx, ax, bx, cx, dx, lox, hix, Ax, nx, cxx, rfl⟩ := hv2.eight; have HV6 := Lib.hid hv2; have HBX := Lib.hid (HBA.out.trans (hbb2.mono HBA.out.size)); have hrb := K1.out wb HBX.out; obtain ⟨⟨⟨r0, r1⟩, r2, r3⟩, ⟨r4, r5⟩, r6, r7⟩ := (Lib.hid hrb).out.cells; clear hv2 hbb2 hrb) | (go_at_call 9; refine (gequal_any (litR b).size (litR b) (Nat.le_refl _) _ _ wb _ _ (HV5.out.below HBX.out).rxv HV6.out (by have := (lit_meas b).1; omega)).mono ?_; rintro e wc ⟨rfl, hbc⟩; have HBC := Lib.hid (HBX.out.trans (hbc.mono HBX.out.size)); have hrc := K1.out wc HBC.out; obtain ⟨⟨⟨v0, v1⟩, v2, v3⟩, ⟨v4, v5⟩, v6, v7⟩ := (Lib.hid hrc).out.cells; clear hbc hrc))
  all_goals go_wp2_with fail
  all_goals go_ret
  all_goals exact ⟨rfl, HB5.out.trans (HBC.out.mono HB5.out.size)⟩
theorem regexLiterals_row (A B : Option Addr) (na nb ca cb : Nat) (b t : List UInt8) (w : World) (hr : Reads w w.heap.size 1 A na (b.map byteV)) (hr2 : Reads w w.heap.size 1 B nb (t.map byteV)) (hca : na ≤ ca) (hcb : nb ≤ cb) (hT : TzAt w) :
    Calls Tryd.prog 4 #[.slice A na ca, .slice B nb cb] w (AwEnd w) := by
  have e1 : b.length = na := by have := hr.1; simpa using this
  have e2 : t.length = nb := by have := hr2.1; simpa using this
  subst e1 e2
  exact regexLiterals_law A B ca cb b t w hr hr2 hca hcb hT
end Go.Proofs.YtpiagfmjekcncaaDoor
