/- The walks of length.Add, Sub, Mul and of optimize's compute. The walk of optimize's rule fold at any step (printed by gen_ozf.py). The walk of optimize's rule fold, of texts (printed by gen_ozf.py). The walk of optimize's rule fold at any step of a plan without an error (printed by gen_ozj.py). -/
import Derived.Test.YtamhdmkolfmmdaaGreatDoorsay
import Derived.Test.YtamhdmkolfmmdaaGreatDoorsaa
import Derived.Lib.QuietBelow
import Derived.BigQuiet
import Derived.StillTailTactics
import Derived.Laws.Concat
import Derived.Test.YtamhdmkolfmmdaaGreatDoorsax
set_option linter.unusedVariables false
set_option linter.unusedSimpArgs false
namespace Go.Proofs.YtamhdmkolfmmdaaGreatDoor
open Go.RowKit
set_option maxRecDepth 100000
theorem z6 {P : Prop} (h : P := by
 have HH := hD H
 clear H
 go_enter Tryz.func112, Tryz.ntmps112
 go_wp2_with fail
 refine (HH.out _).mono ?_
 rintro e _ ⟨rfl, hr⟩
 clear HH
 rcases hr with rfl | rfl
 all_goals
  go_wp2_with fail
  go_quiet (fail)
  go_wp2_with fail
  go_ret2
  exact ⟨kaf (Below.refl _ _) _, _, rfl⟩) : P := h
theorem z9 {P : Prop} (h : P := by
 have HH := hD H
 clear H
 go_enter Tryz.func112, Tryz.ntmps112
 go_wp2_with fail
 refine (HH.out _).mono ?_
 rintro e _ ⟨rfl, rfl⟩
 clear HH
 go_wp2_with fail
 go_quiet (fail)
 go_wp2_with fail
 go_ret2
 exact ⟨kaf (Below.refl _ _) _, rfl⟩) : P := h
theorem y34 {P : Prop} (h : P := by
 first
 | guard_hyp t194q0
   have h0 : 0 ≤ a * b := Int.mul_nonneg (by omega) hb
   have hw2 := IntWalk.i64_in (a * b) (by omega)
   have hq := (khH (b := b) ha).2 h
 | have hq : ¬ (b ≤ (1152921504606846976 : Int).tdiv a) := fun h' => h ((khH (b := b) ha).1 h')
 have hq0 : 0 ≤ (1152921504606846976 : Int).tdiv a := Int.tdiv_nonneg (by decide) (by omega)
 have hq1 : (1152921504606846976 : Int).tdiv a ≤ 1152921504606846976 := by
  rw [Int.tdiv_eq_ediv_of_nonneg (by decide)]
  exact Int.ediv_le_self _ (by decide)
 obtain ⟨d, hd⟩ := xE ((1152921504606846976 : Int).tdiv a)
 rw [← hd] at hq hq0 hq1
 have hw := IntWalk.i64_in d (by omega)
 have HVA := hD (kbH a (by omega) ha')
 have q1 : ¬ (b < 0) := by omega
 have q2 : ¬ (a = 0) := by omega
 have q3 : (a == 0) = false := beq_eq_false_iff_ne.2 q2
 have q5 : (1152921504606846976 : Int).tdiv a = d := hd.symm
 first
 | guard_hyp t194q0
   clear ha ha' hb h h0 hd hq0 hq1
 | clear ha ha' hb h hd hq0 hq1
 go_enter Tryz.func155, Tryz.ntmps155
 go_wp2_with fail
 refine (HVA.out _).mono ?_
 rintro e _ ⟨rfl, rfl⟩
 go_wp2_with fail
 go_ret2
 first
 | guard_hyp t194q0
   exact ⟨rfl, rfl⟩
 | exact ⟨rfl, .inl rfl⟩) : P := h
theorem kbH (n : Int) (h0 : 0 ≤ n) (h1 : n ≤ 1152921504606846976) (w : World) : Calls Tryz.prog 182 #[.int .i64 n] w fun e w' => e = .returned (.bool true) ∧ w = w' := by
 go_enter Tryz.func182, Tryz.ntmps182
 go_wp2_with fail
 go_ret
 exact ⟨rfl, rfl⟩
def kcg (w : World) (r : Option Int) (e : Ending) (w' : World) : Prop := w = w' ∧ match r with
 | some n => e = .returned (.tuple #[.int .i64 n, .nilIface])
 | none => e = .returned (.tuple #[.int .i64 0, .iface 66 (.int .i64 2)]) ∨ e = .returned (.tuple #[.int .i64 0, .iface 66 (.int .i64 1)])
theorem add_ok (a b : Int) (ha : 0 ≤ a) (ha' : a ≤ 1152921504606846976) (hb : 0 ≤ b) (hb' : b ≤ 1152921504606846976) (h : a + b ≤ 1152921504606846976) (w : World) : Calls Tryz.prog 153 #[.int .i64 a, .int .i64 b] w (kcg w (some (a + b))) := by
 have hw := IntWalk.i64_in (1152921504606846976 - b) (by omega)
 have hw2 := IntWalk.i64_in (a + b) (by omega)
 have q0 : a ≤ 1152921504606846976 - b := by omega
 have HVA := hD (kbH a ha ha')
 have HVB := hD (kbH b hb hb')
 clear ha ha' hb hb' h
 go_enter Tryz.func153, Tryz.ntmps153
 go_wp2_with fail
 refine (HVA.out _).mono ?_
 rintro e _ ⟨rfl, rfl⟩
 go_wp2_with fail
 refine (HVB.out _).mono ?_
 rintro e _ ⟨rfl, rfl⟩
 go_wp2_with fail
 go_ret2
 exact ⟨rfl, rfl⟩
theorem add_no (a b : Int) (ha : 0 ≤ a) (ha' : a ≤ 1152921504606846976) (hb : 0 ≤ b) (hb' : b ≤ 1152921504606846976) (h : ¬ (a + b ≤ 1152921504606846976)) (w : World) : Calls Tryz.prog 153 #[.int .i64 a, .int .i64 b] w (kcg w none) := by
 have hw := IntWalk.i64_in (1152921504606846976 - b) (by omega)
 have q0 : ¬ (a ≤ 1152921504606846976 - b) := by omega
 have HVA := hD (kbH a ha ha')
 have HVB := hD (kbH b hb hb')
 clear ha ha' hb hb' h
 go_enter Tryz.func153, Tryz.ntmps153
 go_wp2_with fail
 refine (HVA.out _).mono ?_
 rintro e _ ⟨rfl, rfl⟩
 go_wp2_with fail
 refine (HVB.out _).mono ?_
 rintro e _ ⟨rfl, rfl⟩
 go_wp2_with fail
 go_ret2
 exact ⟨rfl, .inl rfl⟩
theorem sub_ok (a b : Int) (ha : 0 ≤ a) (ha' : a ≤ 1152921504606846976) (hb : 0 ≤ b) (hb' : b ≤ 1152921504606846976) (h : b ≤ a) (w : World) : Calls Tryz.prog 154 #[.int .i64 a, .int .i64 b] w (kcg w (some (a - b))) := by
 have hw2 := IntWalk.i64_in (a - b) (by omega)
 have HVA := hD (kbH a ha ha')
 have HVB := hD (kbH b hb hb')
 clear ha ha' hb hb'
 go_enter Tryz.func154, Tryz.ntmps154
 go_wp2_with fail
 refine (HVA.out _).mono ?_
 rintro e _ ⟨rfl, rfl⟩
 go_wp2_with fail
 refine (HVB.out _).mono ?_
 rintro e _ ⟨rfl, rfl⟩
 go_wp2_with fail
 go_ret2
 exact ⟨rfl, rfl⟩
theorem sub_no (a b : Int) (ha : 0 ≤ a) (ha' : a ≤ 1152921504606846976) (hb : 0 ≤ b) (hb' : b ≤ 1152921504606846976) (h : ¬ (b ≤ a)) (w : World) : Calls Tryz.prog 154 #[.int .i64 a, .int .i64 b] w (kcg w none) := by
 have HVA := hD (kbH a ha ha')
 have HVB := hD (kbH b hb hb')
 clear ha ha' hb hb'
 go_enter Tryz.func154, Tryz.ntmps154
 go_wp2_with fail
 refine (HVA.out _).mono ?_
 rintro e _ ⟨rfl, rfl⟩
 go_wp2_with fail
 refine (HVB.out _).mono ?_
 rintro e _ ⟨rfl, rfl⟩
 go_wp2_with fail
 go_ret2
 exact ⟨rfl, .inr rfl⟩
theorem mul_zero (b : Int) (hb : 0 ≤ b) (w : World) : Calls Tryz.prog 155 #[.int .i64 0, .int .i64 b] w (kcg w (some 0)) := by
 have HVA := hD (kbH 0 (by decide) (by decide))
 have q1 : ¬ (b < 0) := by omega
 go_enter Tryz.func155, Tryz.ntmps155
 go_wp2_with fail
 refine (HVA.out _).mono ?_
 rintro e _ ⟨rfl, rfl⟩
 go_wp2_with fail
 go_ret2
 exact ⟨rfl, rfl⟩
theorem khH {a b : Int} (ha : 0 < a) : b ≤ (1152921504606846976 : Int).tdiv a ↔ a * b ≤ 1152921504606846976 := by
 rw [Int.tdiv_eq_ediv_of_nonneg (by decide), Int.le_ediv_iff_mul_le ha, Int.mul_comm]
theorem mul_ok (a b : Int) (ha : 0 < a) (ha' : a ≤ 1152921504606846976) (hb : 0 ≤ b) (h : a * b ≤ 1152921504606846976) (w : World) : Calls Tryz.prog 155 #[.int .i64 a, .int .i64 b] w (kcg w (some (a * b))) := by
 have t194q0 := True.intro
 exact y34
theorem mul_no (a b : Int) (ha : 0 < a) (ha' : a ≤ 1152921504606846976) (hb : 0 ≤ b) (h : ¬ (a * b ≤ 1152921504606846976)) (w : World) : Calls Tryz.prog 155 #[.int .i64 a, .int .i64 b] w (kcg w none) := by
 exact y34
def kdn (w : World) (r : Option Int) (e : Ending) (w' : World) : Prop := Below w.heap.size w w' ∧ match r with
 | some n => e = .returned (.tuple #[.int .i64 n, .bool true])
 | none => ∃ n, e = .returned (.tuple #[.int .i64 n, .bool false])
theorem kjg (a b : Int) (w : World) : Calls Tryz.prog 112 #[.string ⟨#[109, 105, 110]⟩, .int .i64 a, .int .i64 b] w (kdn w (some (min a b))) := by
 go_enter Tryz.func112, Tryz.ntmps112
 go_wp2_with fail
 go_quiet (fail)
 go_wp2_with fail
 go_ret2
 exact ⟨kaf (Below.refl _ _) _, rfl⟩
theorem kjh (a b : Int) (w : World) : Calls Tryz.prog 112 #[.string ⟨#[109, 97, 120]⟩, .int .i64 a, .int .i64 b] w (kdn w (some (max a b))) := by
 go_enter Tryz.func112, Tryz.ntmps112
 go_wp2_with fail
 go_quiet (fail)
 go_wp2_with fail
 go_ret2
 exact ⟨kaf (Below.refl _ _) _, rfl⟩
theorem khf (a b : Int) (n : Int) (H : ∀ w : World, Calls Tryz.prog 153 #[.int .i64 a, .int .i64 b] w (kcg w (some n))) (w : World) : Calls Tryz.prog 112 #[.string ⟨#[43]⟩, .int .i64 a, .int .i64 b] w (kdn w (some n)) := by
 exact z9
theorem khg (a b : Int) (H : ∀ w : World, Calls Tryz.prog 153 #[.int .i64 a, .int .i64 b] w (kcg w none)) (w : World) : Calls Tryz.prog 112 #[.string ⟨#[43]⟩, .int .i64 a, .int .i64 b] w (kdn w (none)) := by
 exact z6
theorem khc (a b : Int) (n : Int) (H : ∀ w : World, Calls Tryz.prog 154 #[.int .i64 a, .int .i64 b] w (kcg w (some n))) (w : World) : Calls Tryz.prog 112 #[.string ⟨#[45]⟩, .int .i64 a, .int .i64 b] w (kdn w (some n)) := by
 exact z9
theorem khd (a b : Int) (H : ∀ w : World, Calls Tryz.prog 154 #[.int .i64 a, .int .i64 b] w (kcg w none)) (w : World) : Calls Tryz.prog 112 #[.string ⟨#[45]⟩, .int .i64 a, .int .i64 b] w (kdn w (none)) := by
 exact z6
theorem kex (a b : Int) (n : Int) (H : ∀ w : World, Calls Tryz.prog 155 #[.int .i64 a, .int .i64 b] w (kcg w (some n))) (w : World) : Calls Tryz.prog 112 #[.string ⟨#[42]⟩, .int .i64 a, .int .i64 b] w (kdn w (some n)) := by
 exact z9
theorem khe (a b : Int) (H : ∀ w : World, Calls Tryz.prog 155 #[.int .i64 a, .int .i64 b] w (kcg w none)) (w : World) : Calls Tryz.prog 112 #[.string ⟨#[42]⟩, .int .i64 a, .int .i64 b] w (kdn w (none)) := by
 exact z6
theorem kcj (op : List UInt8) (hop : op = Oz.oMin ∨ op = Oz.oMax ∨ op = Oz.oAdd ∨ op = Oz.oSub ∨ op = Oz.oMul) (a b : Int) (ha : 0 ≤ a) (ha' : a ≤ 1152921504606846976) (hb : 0 ≤ b) (hb' : b ≤ 1152921504606846976) (w : World) :
  Calls Tryz.prog 112 #[.string ⟨op.toArray⟩, .int .i64 a, .int .i64 b] w (kdn w (Oz.computeR op a b)) := by
 have hva : Oz.valid a = true := decide_eq_true ⟨ha, ha'⟩
 have hvb : Oz.valid b = true := decide_eq_true ⟨hb, hb'⟩
 rcases hop with rfl | rfl | rfl | rfl | rfl
 ·
  exact kjg a b w
 ·
  exact kjh a b w
 ·
  have hR : Oz.computeR Oz.oAdd a b = if decide (a + b ≤ Oz.maxLn) then some (a + b) else none := by unfold Oz.computeR; rw [if_neg (by decide), if_neg (by decide), if_pos rfl, hva, hvb]; rfl
  rw [hR]
  by_cases h : a + b ≤ Oz.maxLn
  ·
   rw [if_pos (decide_eq_true h)]
   exact khf a b _ (add_ok a b ha ha' hb hb' h) w
  ·
   rw [if_neg (by simpa using h)]
   exact khg a b (add_no a b ha ha' hb hb' h) w
 ·
  have hR : Oz.computeR Oz.oSub a b = if decide (b ≤ a) then some (a - b) else none := by unfold Oz.computeR; rw [if_neg (by decide), if_neg (by decide), if_neg (by decide), if_pos rfl, hva, hvb]; rfl
  rw [hR]
  by_cases h : b ≤ a
  ·
   rw [if_pos (decide_eq_true h)]
   exact khc a b _ (sub_ok a b ha ha' hb hb' h) w
  ·
   rw [if_neg (by simpa using h)]
   exact khd a b (sub_no a b ha ha' hb hb' h) w
 ·
  have hR : Oz.computeR Oz.oMul a b = if decide (a * b ≤ Oz.maxLn) then some (a * b) else none := by unfold Oz.computeR; rw [if_neg (by decide), if_neg (by decide), if_neg (by decide), if_neg (by decide), if_pos rfl, hva, hvb]; rfl
  rw [hR]
  by_cases h0 : a = 0
  ·
   subst h0
   rw [if_pos (by rw [Int.zero_mul]; decide)]
   refine kex 0 b _ (fun w => ?_) w
   rw [Int.zero_mul]
   exact mul_zero b hb w
  ·
   by_cases h : a * b ≤ Oz.maxLn
   ·
    rw [if_pos (decide_eq_true h)]
    exact kex a b _ (mul_ok a b (by omega) ha' hb h) w
   ·
    rw [if_neg (by simpa using h)]
    exact khe a b (mul_no a b (by omega) ha' hb h) w
set_option maxHeartbeats 8000000
theorem y68 {P : Prop} (h : P := by
 have k0 := cell_regrown g0
 have k1 := cell_regrown g3
 have k2 := cell_regrown g4
 go_wp2_with fail
 refine wp_region_quiet_below (by kernel_rfl) (by kernel_rfl) ?_
 repeat (go_big_quiet_step (first | (go_at_call_of 113 (Value.int .i64 (j0 : Int)); exact HS0.out _ _) | (go_at_call_of 113 (Value.int .i64 (j1 : Int)); exact HS1.out _ _)))
 refine wpQuiet_nil ?_
 intro _ hw'
 obtain ⟨⟨dq, osq⟩, hw''⟩ := hw'
 subst hw''
 have hq := below_regrown w2 dq osq
 have HB3 := hD (HB2.out.trans (hq.mono HB2.out.size))
 simp only
 generalize Go.Sort.grow (redrawn w2 dq) osq = w3 at *
 clear hq k0 k1 k2 g0 g3 g4
 first
 | guard_hyp t511q0
   have m0 := (HB3.out.cell (p := ⟨gs, _, none⟩) hgsl).trans HG3.out
   have m1 := (HB3.out.cell (p := ⟨gs, _, none⟩) hgsl).trans HG4.out
   have HW := HB3
   have hcW := fun m => HW.out.cell (p := ⟨gs, m, none⟩) hgsl
   have c0 := (HW.out.cell (p := ⟨g, 0, none⟩) hgl).trans HX0.out
   have d0 := (hcW _).trans HY.out.1
   have d1 := (hcW _).trans HY.out.2.1
   have d2 := (hcW _).trans HY.out.2.2.1
   have d3 := (hcW _).trans HY.out.2.2.2.1
   have d4 := (hcW _).trans HY.out.2.2.2.2
   obtain ⟨f0, f1, f2, f3, f4⟩ : w3.frozen? ⟨gs, i * 5, none⟩ = false ∧ w3.frozen? ⟨gs, i * 5 + 1, none⟩ = false ∧ w3.frozen? ⟨gs, i * 5 + 2, none⟩ = false ∧ w3.frozen? ⟨gs, i * 5 + 3, none⟩ = false ∧ w3.frozen? ⟨gs, i * 5 + 4, none⟩ = false := by
    obtain ⟨cs, e1, _⟩ := (HH.out.below HW.out).blk
    exact ⟨e1.frozen _, e1.frozen _, e1.frozen _, e1.frozen _, e1.frozen _⟩
   have hp := HH.out.putFresh HW.out HI.out (Oz.mk kai [] 0 TU 3) (.slice none 0 0) (World.ownsRow_nil _ _ _ _)
   have HP := hD hp.1
   have HF := hD hp.2
   clear hp hcW
   go_wp2_with fail
   go_still_tail 24, (by kernel_rfl)
   change wpList _ _ _ _ _ w3.drew
   obtain ⟨w4, hw4⟩ := xE w3.drew
   rw [← hw4]
   have HB4 : Hid (Below w.heap.size w w4) := hD (by rw [hw4]; exact HB3.out.drew)
   clear hw4 c0 d0 d1 d2 d3 d4 f0 f1 f2 f3 f4 HP HF m0 m1
   have HW := HB4
   have hcW := fun m => HW.out.cell (p := ⟨gs, m, none⟩) hgsl
   have c0 := (HW.out.cell (p := ⟨g, 0, none⟩) hgl).trans HX0.out
   have d0 := (hcW _).trans HY.out.1
   have d1 := (hcW _).trans HY.out.2.1
   have d2 := (hcW _).trans HY.out.2.2.1
   have d3 := (hcW _).trans HY.out.2.2.2.1
   have d4 := (hcW _).trans HY.out.2.2.2.2
   obtain ⟨f0, f1, f2, f3, f4⟩ : w4.frozen? ⟨gs, i * 5, none⟩ = false ∧ w4.frozen? ⟨gs, i * 5 + 1, none⟩ = false ∧ w4.frozen? ⟨gs, i * 5 + 2, none⟩ = false ∧ w4.frozen? ⟨gs, i * 5 + 3, none⟩ = false ∧ w4.frozen? ⟨gs, i * 5 + 4, none⟩ = false := by
    obtain ⟨cs, e1, _⟩ := (HH.out.below HW.out).blk
    exact ⟨e1.frozen _, e1.frozen _, e1.frozen _, e1.frozen _, e1.frozen _⟩
   have hp := HH.out.putFresh HW.out HI.out (Oz.mk kai [] 0 TU 3) (.slice none 0 0) (World.ownsRow_nil _ _ _ _)
   have HP := hD hp.1
   have HF := hD hp.2
   clear hp hcW
   go_wp2_with fail
   go_ret
   unfold RepEnd
   rw [HRN.out]
   exact ⟨rfl, ⟨_, HP.out⟩, HF.out⟩
 | go_wp2_with fail
   go_ret
   unfold RepEnd
   rw [HRN.out]
   exact ⟨rfl, HB3.out⟩) : P := h
theorem y74 {P : Prop} (h : P := by
 have HW := HB2
 have hcW := fun m => HW.out.cell (p := ⟨gs, m, none⟩) hgsl
 have c0 := (HW.out.cell (p := ⟨g, 0, none⟩) hgl).trans HX0.out
 have d0 := (hcW _).trans HY.out.1
 have d1 := (hcW _).trans HY.out.2.1
 have d2 := (hcW _).trans HY.out.2.2.1
 have d3 := (hcW _).trans HY.out.2.2.2.1
 have d4 := (hcW _).trans HY.out.2.2.2.2
 obtain ⟨f0, f1, f2, f3, f4⟩ : w2.frozen? ⟨gs, i * 5, none⟩ = false ∧ w2.frozen? ⟨gs, i * 5 + 1, none⟩ = false ∧ w2.frozen? ⟨gs, i * 5 + 2, none⟩ = false ∧ w2.frozen? ⟨gs, i * 5 + 3, none⟩ = false ∧ w2.frozen? ⟨gs, i * 5 + 4, none⟩ = false := by
  obtain ⟨cs, e1, _⟩ := (HH.out.below HW.out).blk
  exact ⟨e1.frozen _, e1.frozen _, e1.frozen _, e1.frozen _, e1.frozen _⟩
 first
 | guard_hyp t517q0
   have hp := HH.out.putFresh HW.out HI.out (Oz.mk kab [] T.length [] 1) (.slice none 0 0) (World.ownsRow_nil _ _ _ _)
   have HP := hD hp.1
   have HF := hD hp.2
   clear hp hcW
   go_wp2_with fail
   go_ret
   unfold RepEnd
   rw [HRN.out]
   exact ⟨rfl, ⟨_, HP.out⟩, HF.out⟩
 | have hp := HH.out.putFresh HW.out HI.out (Oz.mk kab [] (m + 1) [] 1) (.slice none 0 0) (World.ownsRow_nil _ _ _ _)
   have HP := hD hp.1
   have HF := hD hp.2
   clear hp hcW
   go_wp2_with fail
   go_ret
   unfold RepEnd
   rw [HRN.out]
   exact ⟨rfl, ⟨_, HP.out⟩, HF.out⟩) : P := h
theorem y86 {P : Prop} (h : P := by
 have hil := (gH hs).1
 have hbase := h.base_le
 have x0 := h.ed.cell 0
 simp only [gA, gB] at x0
 obtain ⟨v, hv, ⟨y0, y1, y2, y3, y4⟩, ho⟩ := h.at_ hs
 obtain ⟨A, c, rfl⟩ := kak ho
 obtain ⟨R, hR⟩ := xE (Oz.foldR l i)
 rw [← hR]
 unfold Oz.foldR at hR
 rw [kad hs] at hR
 obtain ⟨n, hn⟩ := xE l.length
 have HI : Hid (i < l.length) := hD hil
 rw [← hn] at hil x0
 have HH := hD h
 first
 | guard_hyp t529q0
   have t489q0 := True.intro
   exact y46
 | exact y46) : P := h
theorem y46 {P : Prop} (h : P := by
 have t531q0 := True.intro
 exact y88) : P := h
theorem y3 {P : Prop} (h : P := by
 have t529q0 := True.intro
 exact y86) : P := h
theorem y14 {P : Prop} (h : P := by
 exact y86) : P := h
theorem fold_min (base g gs cap i : Nat) (l : List St) (vs : List Value) (V : Value) (s : St) (w : World) (h : EdX w base g gs cap l vs V) (hs : l[i]? = some s) (hop : s.op = Oz.oMin) (hl : s.args.length = 2) (j0 j1 : Nat) (t0 t1 : St) (hj0 : s.args[0]? = some (j0 : Int)) (hj1 : s.args[1]? = some (j1 : Int)) (ht0 : l[j0]? = some t0) (ht1 : l[j1]? = some t1) (hn0 : 0 ≤ t0.num) (hn1 : 0 ≤ t1.num) :
  Calls Tryz.prog 68 #[.pointer (some ⟨g, 0, none⟩), .int .i64 i] w (RepEnd base g gs cap l vs V (Oz.foldR l i) w) := by
 have t38q0 := True.intro
 exact y14
theorem fold_max (base g gs cap i : Nat) (l : List St) (vs : List Value) (V : Value) (s : St) (w : World) (h : EdX w base g gs cap l vs V) (hs : l[i]? = some s) (hop : s.op = Oz.oMax) (hl : s.args.length = 2) (j0 j1 : Nat) (t0 t1 : St) (hj0 : s.args[0]? = some (j0 : Int)) (hj1 : s.args[1]? = some (j1 : Int)) (ht0 : l[j0]? = some t0) (ht1 : l[j1]? = some t1) (hn0 : 0 ≤ t0.num) (hn1 : 0 ≤ t1.num) :
  Calls Tryz.prog 68 #[.pointer (some ⟨g, 0, none⟩), .int .i64 i] w (RepEnd base g gs cap l vs V (Oz.foldR l i) w) := by
 exact y14
theorem fold_add (base g gs cap i : Nat) (l : List St) (vs : List Value) (V : Value) (s : St) (w : World) (h : EdX w base g gs cap l vs V) (hs : l[i]? = some s) (hop : s.op = Oz.oAdd) (hl : s.args.length = 2) (j0 j1 : Nat) (t0 t1 : St) (hj0 : s.args[0]? = some (j0 : Int)) (hj1 : s.args[1]? = some (j1 : Int)) (ht0 : l[j0]? = some t0) (ht1 : l[j1]? = some t1) (hn0 : 0 ≤ t0.num) (hn1 : 0 ≤ t1.num) :
  Calls Tryz.prog 68 #[.pointer (some ⟨g, 0, none⟩), .int .i64 i] w (RepEnd base g gs cap l vs V (Oz.foldR l i) w) := by
 have t38q3 := True.intro
 exact y14
theorem fold_sub (base g gs cap i : Nat) (l : List St) (vs : List Value) (V : Value) (s : St) (w : World) (h : EdX w base g gs cap l vs V) (hs : l[i]? = some s) (hop : s.op = Oz.oSub) (hl : s.args.length = 2) (j0 j1 : Nat) (t0 t1 : St) (hj0 : s.args[0]? = some (j0 : Int)) (hj1 : s.args[1]? = some (j1 : Int)) (ht0 : l[j0]? = some t0) (ht1 : l[j1]? = some t1) (hn0 : 0 ≤ t0.num) (hn1 : 0 ≤ t1.num) :
  Calls Tryz.prog 68 #[.pointer (some ⟨g, 0, none⟩), .int .i64 i] w (RepEnd base g gs cap l vs V (Oz.foldR l i) w) := by
 have t38q2 := True.intro
 exact y14
theorem fold_mul (base g gs cap i : Nat) (l : List St) (vs : List Value) (V : Value) (s : St) (w : World) (h : EdX w base g gs cap l vs V) (hs : l[i]? = some s) (hop : s.op = Oz.oMul) (hl : s.args.length = 2) (j0 j1 : Nat) (t0 t1 : St) (hj0 : s.args[0]? = some (j0 : Int)) (hj1 : s.args[1]? = some (j1 : Int)) (ht0 : l[j0]? = some t0) (ht1 : l[j1]? = some t1) (hn0 : 0 ≤ t0.num) (hn1 : 0 ≤ t1.num) :
  Calls Tryz.prog 68 #[.pointer (some ⟨g, 0, none⟩), .int .i64 i] w (RepEnd base g gs cap l vs V (Oz.foldR l i) w) := by
 have t38q1 := True.intro
 exact y14
theorem fold_len (base g gs cap i : Nat) (l : List St) (vs : List Value) (V : Value) (s : St) (w : World) (h : EdX w base g gs cap l vs V) (hs : l[i]? = some s) (hop : s.op = Oz.oLen) (hl : s.args.length = 1) (j0 : Nat) (t0 : St) (hj0 : s.args[0]? = some (j0 : Int)) (ht0 : l[j0]? = some t0) :
  Calls Tryz.prog 68 #[.pointer (some ⟨g, 0, none⟩), .int .i64 i] w (RepEnd base g gs cap l vs V (Oz.foldR l i) w) := by
 have t14q1 := True.intro
 exact y3
theorem kkL (base g gs cap i : Nat) (l : List St) (vs : List Value) (V : Value) (s : St) (w : World) (h : EdX w base g gs cap l vs V) (hs : l[i]? = some s) (hop : s.op = Oz.oLines) (hl : s.args.length = 1) (j0 : Nat) (t0 : St) (hj0 : s.args[0]? = some (j0 : Int)) (ht0 : l[j0]? = some t0) :
  Calls Tryz.prog 68 #[.pointer (some ⟨g, 0, none⟩), .int .i64 i] w (RepEnd base g gs cap l vs V (Oz.foldR l i) w) := by
 exact y3
theorem fold_cat (base g gs cap i : Nat) (l : List St) (vs : List Value) (V : Value) (s : St) (w : World) (h : EdX w base g gs cap l vs V) (hs : l[i]? = some s) (hop : s.op = Oz.oCat) (hl : s.args.length = 2) (j0 j1 : Nat) (t0 t1 : St) (hj0 : s.args[0]? = some (j0 : Int)) (hj1 : s.args[1]? = some (j1 : Int)) (ht0 : l[j0]? = some t0) (ht1 : l[j1]? = some t1) :
  Calls Tryz.prog 68 #[.pointer (some ⟨g, 0, none⟩), .int .i64 i] w (RepEnd base g gs cap l vs V (Oz.foldR l i) w) := by
 have t14q0 := True.intro
 exact y3
theorem fold_no (base g gs cap i : Nat) (l : List St) (vs : List Value) (V : Value) (s : St) (w : World) (h : EdX w base g gs cap l vs V) (hs : l[i]? = some s) (h0 : s.op ≠ Oz.oMin) (h1 : s.op ≠ Oz.oMax) (h2 : s.op ≠ Oz.oAdd) (h3 : s.op ≠ Oz.oSub) (h4 : s.op ≠ Oz.oMul) (h5 : s.op ≠ Oz.oLen) (h6 : s.op ≠ Oz.oLines) (h7 : s.op ≠ Oz.oCat) :
  Calls Tryz.prog 68 #[.pointer (some ⟨g, 0, none⟩), .int .i64 i] w (RepEnd base g gs cap l vs V (Oz.foldR l i) w) := by
 have hil := (gH hs).1
 have x0 := h.ed.cell 0
 simp only [gA, gB] at x0
 obtain ⟨v, hv, ⟨y0, y1, y2, y3, y4⟩, ho⟩ := h.at_ hs
 obtain ⟨A, c, rfl⟩ := kak ho
 obtain ⟨R, hR⟩ := xE (Oz.foldR l i)
 rw [← hR]
 unfold Oz.foldR at hR
 rw [kad hs] at hR
 dsimp only at hR
 have HRN : Hid (R = none) := hD (by rw [hR, if_neg (by simp only [not_or]; exact ⟨h0, h1, h2, h3, h4⟩), if_neg h5, if_neg h6, if_neg h7])
 obtain ⟨n, hn⟩ := xE l.length
 rw [← hn] at hil x0
 have q0 : (i : Int) < (n : Int) := by omega
 have q1 : (0 : Int) ≤ (i : Int) := by omega
 have e0 : (s.op == [109, 105, 110]) = false := beq_eq_false_iff_ne.2 h0
 have e1 : (s.op == [109, 97, 120]) = false := beq_eq_false_iff_ne.2 h1
 have e2 : (s.op == [43]) = false := beq_eq_false_iff_ne.2 h2
 have e3 : (s.op == [45]) = false := beq_eq_false_iff_ne.2 h3
 have e4 : (s.op == [42]) = false := beq_eq_false_iff_ne.2 h4
 have e5 : (s.op == [108, 101, 110]) = false := beq_eq_false_iff_ne.2 h5
 have e6 : (s.op == [108, 105, 110, 101, 115]) = false := beq_eq_false_iff_ne.2 h6
 have e7 : (s.op == [43, 43]) = false := beq_eq_false_iff_ne.2 h7
 clear h hs hv ho hn hR h0 h1 h2 h3 h4 h5 h6 h7
 go_enter Tryz.func68, Tryz.ntmps68
 go_wp2_with fail
 go_ret
 unfold RepEnd
 rw [HRN.out]
 exact ⟨rfl, kaa _ _⟩
theorem fold_any (base g gs cap i : Nat) (l : List St) (vs : List Value) (V : Value) (s : St) (w : World) (h : EdX w base g gs cap l vs V) (hs : l[i]? = some s) (hc : kac l = 0) :
  Calls Tryz.prog 68 #[.pointer (some ⟨g, 0, none⟩), .int .i64 i] w (RepEnd base g gs cap l vs V (Oz.foldR l i) w) := by
 by_cases h0 : s.op = Oz.oMin
 ·
  have hal := kae hc hs 2 (by rw [h0]; kernel_rfl)
  obtain ⟨j0, t0, hj0, _, ht0, _, _⟩ := kah hc hs (k := 0) (by omega)
  obtain ⟨j1, t1, hj1, _, ht1, _, _⟩ := kah hc hs (k := 1) (by omega)
  obtain ⟨o0, f0⟩ := ka2 hc ht0
  obtain ⟨o1, f1⟩ := ka2 hc ht1
  exact fold_min base g gs cap i l vs V s w h hs h0 hal j0 j1 t0 t1 hj0 hj1 ht0 ht1 f0.num f1.num
 by_cases h1 : s.op = Oz.oMax
 ·
  have hal := kae hc hs 2 (by rw [h1]; kernel_rfl)
  obtain ⟨j0, t0, hj0, _, ht0, _, _⟩ := kah hc hs (k := 0) (by omega)
  obtain ⟨j1, t1, hj1, _, ht1, _, _⟩ := kah hc hs (k := 1) (by omega)
  obtain ⟨o0, f0⟩ := ka2 hc ht0
  obtain ⟨o1, f1⟩ := ka2 hc ht1
  exact fold_max base g gs cap i l vs V s w h hs h1 hal j0 j1 t0 t1 hj0 hj1 ht0 ht1 f0.num f1.num
 by_cases h2 : s.op = Oz.oAdd
 ·
  have hal := kae hc hs 2 (by rw [h2]; kernel_rfl)
  obtain ⟨j0, t0, hj0, _, ht0, _, _⟩ := kah hc hs (k := 0) (by omega)
  obtain ⟨j1, t1, hj1, _, ht1, _, _⟩ := kah hc hs (k := 1) (by omega)
  obtain ⟨o0, f0⟩ := ka2 hc ht0
  obtain ⟨o1, f1⟩ := ka2 hc ht1
  exact fold_add base g gs cap i l vs V s w h hs h2 hal j0 j1 t0 t1 hj0 hj1 ht0 ht1 f0.num f1.num
 by_cases h3 : s.op = Oz.oSub
 ·
  have hal := kae hc hs 2 (by rw [h3]; kernel_rfl)
  obtain ⟨j0, t0, hj0, _, ht0, _, _⟩ := kah hc hs (k := 0) (by omega)
  obtain ⟨j1, t1, hj1, _, ht1, _, _⟩ := kah hc hs (k := 1) (by omega)
  obtain ⟨o0, f0⟩ := ka2 hc ht0
  obtain ⟨o1, f1⟩ := ka2 hc ht1
  exact fold_sub base g gs cap i l vs V s w h hs h3 hal j0 j1 t0 t1 hj0 hj1 ht0 ht1 f0.num f1.num
 by_cases h4 : s.op = Oz.oMul
 ·
  have hal := kae hc hs 2 (by rw [h4]; kernel_rfl)
  obtain ⟨j0, t0, hj0, _, ht0, _, _⟩ := kah hc hs (k := 0) (by omega)
  obtain ⟨j1, t1, hj1, _, ht1, _, _⟩ := kah hc hs (k := 1) (by omega)
  obtain ⟨o0, f0⟩ := ka2 hc ht0
  obtain ⟨o1, f1⟩ := ka2 hc ht1
  exact fold_mul base g gs cap i l vs V s w h hs h4 hal j0 j1 t0 t1 hj0 hj1 ht0 ht1 f0.num f1.num
 by_cases h5 : s.op = Oz.oLen
 ·
  have hal := kae hc hs 1 (by rw [h5]; kernel_rfl)
  obtain ⟨j0, t0, hj0, _, ht0, _, _⟩ := kah hc hs (k := 0) (by omega)
  exact fold_len base g gs cap i l vs V s w h hs h5 hal j0 t0 hj0 ht0
 by_cases h6 : s.op = Oz.oLines
 ·
  have hal := kae hc hs 1 (by rw [h6]; kernel_rfl)
  obtain ⟨j0, t0, hj0, _, ht0, _, _⟩ := kah hc hs (k := 0) (by omega)
  exact kkL base g gs cap i l vs V s w h hs h6 hal j0 t0 hj0 ht0
 by_cases h7 : s.op = Oz.oCat
 ·
  have hal := kae hc hs 2 (by rw [h7]; kernel_rfl)
  obtain ⟨j0, t0, hj0, _, ht0, _, _⟩ := kah hc hs (k := 0) (by omega)
  obtain ⟨j1, t1, hj1, _, ht1, _, _⟩ := kah hc hs (k := 1) (by omega)
  exact fold_cat base g gs cap i l vs V s w h hs h7 hal j0 j1 t0 t1 hj0 hj1 ht0 ht1
 exact fold_no base g gs cap i l vs V s w h hs h0 h1 h2 h3 h4 h5 h6 h7
end Go.Proofs.YtamhdmkolfmmdaaGreatDoor
