/- The walks of length.Add, Sub, Mul and of optimize's compute. The walk of optimize's rule fold at any step (printed by gen_ozf.py). The walk of optimize's rule fold, of texts (printed by gen_ozf.py). The walk of optimize's rule fold at any step of a plan without an error (printed by gen_ozj.py). -/
import Derived.Test.YtniefnjcimempaarOzN
import Derived.Lib.QuietBelow
import Derived.BigQuiet
import Derived.StillTailTactics
import Derived.Laws.Concat
import Derived.Test.YtniefnjcimempaarRz2
namespace Go.Proofs.Ytniefnjcimempaa
open Go.RowKit
set_option maxRecDepth 100000 in
theorem valid_ok (n : Int) (h0 : 0 ≤ n) (h1 : n ≤ 1152921504606846976) (w : World) : Calls Try.prog 103 #[.int .i64 n] w fun e w' => e = .returned (.bool true) ∧ w = w' := by
  go_enter Try.func103, Try.ntmps103
  go_wp2_with fail
  go_ret
  exact ⟨rfl, rfl⟩
def ArEnd (w : World) (r : Option Int) (e : Ending) (w' : World) : Prop := w = w' ∧ match r with
  | some n => e = .returned (.tuple #[.int .i64 n, .nilIface])
  | none => e = .returned (.tuple #[.int .i64 0, .iface 37 (.int .i64 2)]) ∨ e = .returned (.tuple #[.int .i64 0, .iface 37 (.int .i64 1)])
set_option maxRecDepth 100000 in
theorem add_ok (a b : Int) (ha : 0 ≤ a) (ha' : a ≤ 1152921504606846976) (hb : 0 ≤ b) (hb' : b ≤ 1152921504606846976) (h : a + b ≤ 1152921504606846976) (w : World) : Calls Try.prog 93 #[.int .i64 a, .int .i64 b] w (ArEnd w (some (a + b))) := by
  have hw := IntWalk.i64_in (1152921504606846976 - b) (by omega)
  have hw2 := IntWalk.i64_in (a + b) (by omega)
  have q0 : a ≤ 1152921504606846976 - b := by omega
  have HVA := Lib.hid (valid_ok a ha ha')
  have HVB := Lib.hid (valid_ok b hb hb')
  clear ha ha' hb hb' h
  go_enter Try.func93, Try.ntmps93
  go_wp2_with fail
  refine (HVA.out _).mono ?_
  rintro e _ ⟨rfl, rfl⟩
  go_wp2_with fail
  refine (HVB.out _).mono ?_
  rintro e _ ⟨rfl, rfl⟩
  go_wp2_with fail
  go_ret2
  exact ⟨rfl, rfl⟩
set_option maxRecDepth 100000 in
theorem add_no (a b : Int) (ha : 0 ≤ a) (ha' : a ≤ 1152921504606846976) (hb : 0 ≤ b) (hb' : b ≤ 1152921504606846976) (h : ¬ (a + b ≤ 1152921504606846976)) (w : World) : Calls Try.prog 93 #[.int .i64 a, .int .i64 b] w (ArEnd w none) := by
  have hw := IntWalk.i64_in (1152921504606846976 - b) (by omega)
  have q0 : ¬ (a ≤ 1152921504606846976 - b) := by omega
  have HVA := Lib.hid (valid_ok a ha ha')
  have HVB := Lib.hid (valid_ok b hb hb')
  clear ha ha' hb hb' h
  go_enter Try.func93, Try.ntmps93
  go_wp2_with fail
  refine (HVA.out _).mono ?_
  rintro e _ ⟨rfl, rfl⟩
  go_wp2_with fail
  refine (HVB.out _).mono ?_
  rintro e _ ⟨rfl, rfl⟩
  go_wp2_with fail
  go_ret2
  exact ⟨rfl, .inl rfl⟩
set_option maxRecDepth 100000 in
theorem sub_ok (a b : Int) (ha : 0 ≤ a) (ha' : a ≤ 1152921504606846976) (hb : 0 ≤ b) (hb' : b ≤ 1152921504606846976) (h : b ≤ a) (w : World) : Calls Try.prog 94 #[.int .i64 a, .int .i64 b] w (ArEnd w (some (a - b))) := by
  have hw2 := IntWalk.i64_in (a - b) (by omega)
  have HVA := Lib.hid (valid_ok a ha ha')
  have HVB := Lib.hid (valid_ok b hb hb')
  clear ha ha' hb hb'
  go_enter Try.func94, Try.ntmps94
  go_wp2_with fail
  refine (HVA.out _).mono ?_
  rintro e _ ⟨rfl, rfl⟩
  go_wp2_with fail
  refine (HVB.out _).mono ?_
  rintro e _ ⟨rfl, rfl⟩
  go_wp2_with fail
  go_ret2
  exact ⟨rfl, rfl⟩
set_option maxRecDepth 100000 in
theorem sub_no (a b : Int) (ha : 0 ≤ a) (ha' : a ≤ 1152921504606846976) (hb : 0 ≤ b) (hb' : b ≤ 1152921504606846976) (h : ¬ (b ≤ a)) (w : World) : Calls Try.prog 94 #[.int .i64 a, .int .i64 b] w (ArEnd w none) := by
  have HVA := Lib.hid (valid_ok a ha ha')
  have HVB := Lib.hid (valid_ok b hb hb')
  clear ha ha' hb hb'
  go_enter Try.func94, Try.ntmps94
  go_wp2_with fail
  refine (HVA.out _).mono ?_
  rintro e _ ⟨rfl, rfl⟩
  go_wp2_with fail
  refine (HVB.out _).mono ?_
  rintro e _ ⟨rfl, rfl⟩
  go_wp2_with fail
  go_ret2
  exact ⟨rfl, .inr rfl⟩
set_option maxRecDepth 100000 in
theorem mul_zero (b : Int) (hb : 0 ≤ b) (w : World) : Calls Try.prog 95 #[.int .i64 0, .int .i64 b] w (ArEnd w (some 0)) := by
  have HVA := Lib.hid (valid_ok 0 (by decide) (by decide))
  have q1 : ¬ (b < 0) := by omega
  go_enter Try.func95, Try.ntmps95
  go_wp2_with fail
  refine (HVA.out _).mono ?_
  rintro e _ ⟨rfl, rfl⟩
  go_wp2_with fail
  go_ret2
  exact ⟨rfl, rfl⟩
theorem quo_le {a b : Int} (ha : 0 < a) : b ≤ (1152921504606846976 : Int).tdiv a ↔ a * b ≤ 1152921504606846976 := by
  rw [Int.tdiv_eq_ediv_of_nonneg (by decide), Int.le_ediv_iff_mul_le ha, Int.mul_comm]
set_option maxRecDepth 100000 in
theorem mul_ok (a b : Int) (ha : 0 < a) (ha' : a ≤ 1152921504606846976) (hb : 0 ≤ b) (h : a * b ≤ 1152921504606846976) (w : World) : Calls Try.prog 95 #[.int .i64 a, .int .i64 b] w (ArEnd w (some (a * b))) := by
  have h0 : 0 ≤ a * b := Int.mul_nonneg (by omega) hb
  have hw2 := IntWalk.i64_in (a * b) (by omega)
  have hq := (quo_le (b := b) ha).2 h
  have hq0 : 0 ≤ (1152921504606846976 : Int).tdiv a := Int.tdiv_nonneg (by decide) (by omega)
  have hq1 : (1152921504606846976 : Int).tdiv a ≤ 1152921504606846976 := by
    rw [Int.tdiv_eq_ediv_of_nonneg (by decide)]
    exact Int.ediv_le_self _ (by decide)
  obtain ⟨d, hd⟩ : ∃ d, d = (1152921504606846976 : Int).tdiv a := ⟨_, rfl⟩
  rw [← hd] at hq hq0 hq1
  have hw := IntWalk.i64_in d (by omega)
  have HVA := Lib.hid (valid_ok a (by omega) ha')
  have q1 : ¬ (b < 0) := by omega
  have q2 : ¬ (a = 0) := by omega
  have q3 : (a == 0) = false := beq_eq_false_iff_ne.2 q2
  have q5 : (1152921504606846976 : Int).tdiv a = d := hd.symm
  clear ha ha' hb h h0 hd hq0 hq1
  go_enter Try.func95, Try.ntmps95
  go_wp2_with fail
  refine (HVA.out _).mono ?_
  rintro e _ ⟨rfl, rfl⟩
  go_wp2_with fail
  go_ret2
  exact ⟨rfl, rfl⟩
set_option maxRecDepth 100000 in
theorem mul_no (a b : Int) (ha : 0 < a) (ha' : a ≤ 1152921504606846976) (hb : 0 ≤ b) (h : ¬ (a * b ≤ 1152921504606846976)) (w : World) : Calls Try.prog 95 #[.int .i64 a, .int .i64 b] w (ArEnd w none) := by
  have hq : ¬ (b ≤ (1152921504606846976 : Int).tdiv a) := fun h' => h ((quo_le (b := b) ha).1 h')
  have hq0 : 0 ≤ (1152921504606846976 : Int).tdiv a := Int.tdiv_nonneg (by decide) (by omega)
  have hq1 : (1152921504606846976 : Int).tdiv a ≤ 1152921504606846976 := by
    rw [Int.tdiv_eq_ediv_of_nonneg (by decide)]
    exact Int.ediv_le_self _ (by decide)
  obtain ⟨d, hd⟩ : ∃ d, d = (1152921504606846976 : Int).tdiv a := ⟨_, rfl⟩
  rw [← hd] at hq hq0 hq1
  have hw := IntWalk.i64_in d (by omega)
  have HVA := Lib.hid (valid_ok a (by omega) ha')
  have q1 : ¬ (b < 0) := by omega
  have q2 : ¬ (a = 0) := by omega
  have q3 : (a == 0) = false := beq_eq_false_iff_ne.2 q2
  have q5 : (1152921504606846976 : Int).tdiv a = d := hd.symm
  clear ha ha' hb h hd hq0 hq1
  go_enter Try.func95, Try.ntmps95
  go_wp2_with fail
  refine (HVA.out _).mono ?_
  rintro e _ ⟨rfl, rfl⟩
  go_wp2_with fail
  go_ret2
  exact ⟨rfl, .inl rfl⟩
-- COMPUTE
def CmEnd (w : World) (r : Option Int) (e : Ending) (w' : World) : Prop := Below w.heap.size w w' ∧ match r with
  | some n => e = .returned (.tuple #[.int .i64 n, .bool true])
  | none => ∃ n, e = .returned (.tuple #[.int .i64 n, .bool false])
set_option maxRecDepth 100000 in
theorem compute_min (a b : Int) (w : World) : Calls Try.prog 76 #[.string ⟨#[109, 105, 110]⟩, .int .i64 a, .int .i64 b] w (CmEnd w (some (min a b))) := by
  go_enter Try.func76, Try.ntmps76
  go_wp2_with fail
  go_quiet (fail)
  go_wp2_with fail
  go_ret2
  exact ⟨below_drewN (Below.refl _ _) _, rfl⟩
set_option maxRecDepth 100000 in
theorem compute_max (a b : Int) (w : World) : Calls Try.prog 76 #[.string ⟨#[109, 97, 120]⟩, .int .i64 a, .int .i64 b] w (CmEnd w (some (max a b))) := by
  go_enter Try.func76, Try.ntmps76
  go_wp2_with fail
  go_quiet (fail)
  go_wp2_with fail
  go_ret2
  exact ⟨below_drewN (Below.refl _ _) _, rfl⟩
set_option maxRecDepth 100000 in
theorem compute_add_y (a b : Int) (n : Int) (H : ∀ w : World, Calls Try.prog 93 #[.int .i64 a, .int .i64 b] w (ArEnd w (some n))) (w : World) : Calls Try.prog 76 #[.string ⟨#[43]⟩, .int .i64 a, .int .i64 b] w (CmEnd w (some n)) := by
  have HH := Lib.hid H
  clear H
  go_enter Try.func76, Try.ntmps76
  go_wp2_with fail
  refine (HH.out _).mono ?_
  rintro e _ ⟨rfl, rfl⟩
  clear HH
  go_wp2_with fail
  go_quiet (fail)
  go_wp2_with fail
  go_ret2
  exact ⟨below_drewN (Below.refl _ _) _, rfl⟩
set_option maxRecDepth 100000 in
theorem compute_add_n (a b : Int) (H : ∀ w : World, Calls Try.prog 93 #[.int .i64 a, .int .i64 b] w (ArEnd w none)) (w : World) : Calls Try.prog 76 #[.string ⟨#[43]⟩, .int .i64 a, .int .i64 b] w (CmEnd w (none)) := by
  have HH := Lib.hid H
  clear H
  go_enter Try.func76, Try.ntmps76
  go_wp2_with fail
  refine (HH.out _).mono ?_
  rintro e _ ⟨rfl, hr⟩
  clear HH
  rcases hr with rfl | rfl
  all_goals
   go_wp2_with fail
   go_quiet (fail)
   go_wp2_with fail
   go_ret2
   exact ⟨below_drewN (Below.refl _ _) _, _, rfl⟩
set_option maxRecDepth 100000 in
theorem compute_sub_y (a b : Int) (n : Int) (H : ∀ w : World, Calls Try.prog 94 #[.int .i64 a, .int .i64 b] w (ArEnd w (some n))) (w : World) : Calls Try.prog 76 #[.string ⟨#[45]⟩, .int .i64 a, .int .i64 b] w (CmEnd w (some n)) := by
  have HH := Lib.hid H
  clear H
  go_enter Try.func76, Try.ntmps76
  go_wp2_with fail
  refine (HH.out _).mono ?_
  rintro e _ ⟨rfl, rfl⟩
  clear HH
  go_wp2_with fail
  go_quiet (fail)
  go_wp2_with fail
  go_ret2
  exact ⟨below_drewN (Below.refl _ _) _, rfl⟩
set_option maxRecDepth 100000 in
theorem compute_sub_n (a b : Int) (H : ∀ w : World, Calls Try.prog 94 #[.int .i64 a, .int .i64 b] w (ArEnd w none)) (w : World) : Calls Try.prog 76 #[.string ⟨#[45]⟩, .int .i64 a, .int .i64 b] w (CmEnd w (none)) := by
  have HH := Lib.hid H
  clear H
  go_enter Try.func76, Try.ntmps76
  go_wp2_with fail
  refine (HH.out _).mono ?_
  rintro e _ ⟨rfl, hr⟩
  clear HH
  rcases hr with rfl | rfl
  all_goals
   go_wp2_with fail
   go_quiet (fail)
   go_wp2_with fail
   go_ret2
   exact ⟨below_drewN (Below.refl _ _) _, _, rfl⟩
set_option maxRecDepth 100000 in
theorem compute_mul_y (a b : Int) (n : Int) (H : ∀ w : World, Calls Try.prog 95 #[.int .i64 a, .int .i64 b] w (ArEnd w (some n))) (w : World) : Calls Try.prog 76 #[.string ⟨#[42]⟩, .int .i64 a, .int .i64 b] w (CmEnd w (some n)) := by
  have HH := Lib.hid H
  clear H
  go_enter Try.func76, Try.ntmps76
  go_wp2_with fail
  refine (HH.out _).mono ?_
  rintro e _ ⟨rfl, rfl⟩
  clear HH
  go_wp2_with fail
  go_quiet (fail)
  go_wp2_with fail
  go_ret2
  exact ⟨below_drewN (Below.refl _ _) _, rfl⟩
set_option maxRecDepth 100000 in
theorem compute_mul_n (a b : Int) (H : ∀ w : World, Calls Try.prog 95 #[.int .i64 a, .int .i64 b] w (ArEnd w none)) (w : World) : Calls Try.prog 76 #[.string ⟨#[42]⟩, .int .i64 a, .int .i64 b] w (CmEnd w (none)) := by
  have HH := Lib.hid H
  clear H
  go_enter Try.func76, Try.ntmps76
  go_wp2_with fail
  refine (HH.out _).mono ?_
  rintro e _ ⟨rfl, hr⟩
  clear HH
  rcases hr with rfl | rfl
  all_goals
   go_wp2_with fail
   go_quiet (fail)
   go_wp2_with fail
   go_ret2
   exact ⟨below_drewN (Below.refl _ _) _, _, rfl⟩
theorem compute_any (op : List UInt8) (hop : op = Oz.oMin ∨ op = Oz.oMax ∨ op = Oz.oAdd ∨ op = Oz.oSub ∨ op = Oz.oMul) (a b : Int) (ha : 0 ≤ a) (ha' : a ≤ 1152921504606846976) (hb : 0 ≤ b) (hb' : b ≤ 1152921504606846976) (w : World) :
    Calls Try.prog 76 #[.string ⟨op.toArray⟩, .int .i64 a, .int .i64 b] w (CmEnd w (Oz.computeR op a b)) := by
  have hva : Oz.valid a = true := decide_eq_true ⟨ha, ha'⟩
  have hvb : Oz.valid b = true := decide_eq_true ⟨hb, hb'⟩
  rcases hop with rfl | rfl | rfl | rfl | rfl
  · exact compute_min a b w
  · exact compute_max a b w
  · have hR : Oz.computeR Oz.oAdd a b = if decide (a + b ≤ Oz.maxLn) then some (a + b) else none := by unfold Oz.computeR; rw [if_neg (by decide), if_neg (by decide), if_pos rfl, hva, hvb]; rfl
    rw [hR]
    by_cases h : a + b ≤ Oz.maxLn
    · rw [if_pos (decide_eq_true h)]
      exact compute_add_y a b _ (add_ok a b ha ha' hb hb' h) w
    · rw [if_neg (by simpa using h)]
      exact compute_add_n a b (add_no a b ha ha' hb hb' h) w
  · have hR : Oz.computeR Oz.oSub a b = if decide (b ≤ a) then some (a - b) else none := by unfold Oz.computeR; rw [if_neg (by decide), if_neg (by decide), if_neg (by decide), if_pos rfl, hva, hvb]; rfl
    rw [hR]
    by_cases h : b ≤ a
    · rw [if_pos (decide_eq_true h)]
      exact compute_sub_y a b _ (sub_ok a b ha ha' hb hb' h) w
    · rw [if_neg (by simpa using h)]
      exact compute_sub_n a b (sub_no a b ha ha' hb hb' h) w
  · have hR : Oz.computeR Oz.oMul a b = if decide (a * b ≤ Oz.maxLn) then some (a * b) else none := by unfold Oz.computeR; rw [if_neg (by decide), if_neg (by decide), if_neg (by decide), if_neg (by decide), if_pos rfl, hva, hvb]; rfl
    rw [hR]
    by_cases h0 : a = 0
    · subst h0
      rw [if_pos (by rw [Int.zero_mul]; decide)]
      refine compute_mul_y 0 b _ (fun w => ?_) w
      rw [Int.zero_mul]
      exact mul_zero b hb w
    · by_cases h : a * b ≤ Oz.maxLn
      · rw [if_pos (decide_eq_true h)]
        exact compute_mul_y a b _ (mul_ok a b (by omega) ha' hb h) w
      · rw [if_neg (by simpa using h)]
        exact compute_mul_n a b (mul_no a b (by omega) ha' hb h) w
end Go.Proofs.Ytniefnjcimempaa
namespace Go.Proofs.Ytniefnjcimempaa
open Go.RowKit
set_option maxRecDepth 100000 in
set_option maxHeartbeats 8000000 in
theorem fold_min (base g gs cap i : Nat) (l : List St) (vs : List Value) (V : Value) (s : St) (w : World) (h : EdX w base g gs cap l vs V) (hs : l[i]? = some s) (hop : s.op = Oz.oMin) (hl : s.args.length = 2) (j0 j1 : Nat) (t0 t1 : St) (hj0 : s.args[0]? = some (j0 : Int)) (hj1 : s.args[1]? = some (j1 : Int)) (ht0 : l[j0]? = some t0) (ht1 : l[j1]? = some t1) (hn0 : 0 ≤ t0.num) (hn1 : 0 ≤ t1.num) :
    Calls Try.prog 57 #[.pointer (some ⟨g, 0, none⟩), .int .i64 i] w (RepEnd base g gs cap l vs V (Oz.foldR l i) w) := by
  have hil := (List.getElem?_eq_some_iff.1 hs).1
  have hbase := h.base_le
  have x0 := h.ed.cell 0
  simp only [List.getElem?_toArray, List.getElem?_cons_zero] at x0
  obtain ⟨v, hv, ⟨y0, y1, y2, y3, y4⟩, ho⟩ := h.at_ hs
  obtain ⟨A, c, rfl⟩ := own_form ho
  obtain ⟨R, hR⟩ : ∃ R, R = Oz.foldR l i := ⟨_, rfl⟩
  rw [← hR]
  unfold Oz.foldR at hR
  rw [at_get hs] at hR
  obtain ⟨n, hn⟩ : ∃ n, n = l.length := ⟨_, rfl⟩
  have HI : Hid (i < l.length) := Lib.hid hil
  rw [← hn] at hil x0
  have HH := Lib.hid h
  have q0 : (i : Int) < (n : Int) := by omega
  have q1 : (0 : Int) ≤ (i : Int) := by omega
  have hgl := h.ed.lt
  have hgsl := h.gs_lt
  obtain ⟨num, hnum⟩ : ∃ num, num = s.num := ⟨_, rfl⟩
  obtain ⟨text, htext⟩ : ∃ text, text = s.text := ⟨_, rfl⟩
  obtain ⟨ty, hty⟩ : ∃ ty, ty = s.ty := ⟨_, rfl⟩
  obtain ⟨k, hk⟩ : ∃ k, k = s.args.length := ⟨_, rfl⟩
  rw [← hnum] at y2
  rw [← htext] at y3
  rw [← hty] at y4
  rw [← hk] at y1
  obtain ⟨q, c', hvq, _, hbq, hql, hc⟩ := own_at ho (by omega)
  injection hvq with hA hkk hcc
  clear hkk
  subst hA hcc
  have a0 : w.cell? ⟨q, 0, none⟩ = some (.int .i64 j0) := hc 0 _ (by rw [List.getElem?_map, hj0]; rfl)
  have ea0 : Oz.arg s 0 = (j0 : Int) := by unfold Oz.arg; rw [List.getD_eq_getElem?_getD, hj0]; rfl
  have p0 : (0 : Int) < (k : Int) := by omega
  have pp0 : 0 < k := by omega
  have a1 : w.cell? ⟨q, 1, none⟩ = some (.int .i64 j1) := hc 1 _ (by rw [List.getElem?_map, hj1]; rfl)
  have ea1 : Oz.arg s 1 = (j1 : Int) := by unfold Oz.arg; rw [List.getD_eq_getElem?_getD, hj1]; rfl
  have p1 : (1 : Int) < (k : Int) := by omega
  have pp1 : 1 < k := by omega
  have HN0 := Lib.hid (fun w h => number_step g gs cap j0 l V t0 w h ht0)
  have HN1 := Lib.hid (fun w h => number_step g gs cap j1 l V t1 w h ht1)
  dsimp only at hR
  rw [hop, if_pos (by decide), ea0, ea1] at hR
  unfold Oz.numR at hR
  rw [at_get ht0, at_get ht1] at hR
  rw [hop] at y0
  unfold Oz.oMin at y0
  have HR := Lib.hid hR
  have HX0 := Lib.hid x0
  have HY : Hid (w.cell? ⟨gs, i * 5, none⟩ = some (.string ⟨#[109, 105, 110]⟩) ∧ w.cell? ⟨gs, i * 5 + 1, none⟩ = some (.slice (some ⟨q, 0, none⟩) k c) ∧ w.cell? ⟨gs, i * 5 + 2, none⟩ = some (.int .i64 num) ∧ w.cell? ⟨gs, i * 5 + 3, none⟩ = some (.string ⟨text.toArray⟩) ∧ w.cell? ⟨gs, i * 5 + 4, none⟩ = some (.int .i64 ty)) := Lib.hid ⟨y0, y1, y2, y3, y4⟩
  have HA0 := Lib.hid a0
  have HA1 := Lib.hid a1
  clear h hs hv ho hn hop hl hj0 hj1 ht0 ht1 hk hnum htext hty hc ea0 ea1 a0 a1 hR
  go_enter Try.func57, Try.ntmps57
  go_upto_region 8 with (fail)
  obtain ⟨w1, hw1⟩ : ∃ w1, w1 = w.alloc (.cells #[.string ⟨#[109, 105, 110]⟩, .slice (some ⟨q, 0, none⟩) k c, .int .i64 num, .string ⟨text.toArray⟩, .int .i64 ty] 25) := ⟨_, rfl⟩
  rw [← hw1]
  have hb1 : Below w.heap.size w w1 := by rw [hw1]; exact below_alloc _ _
  have hblk : Blk w1 w.heap.size 25 #[.string ⟨#[109, 105, 110]⟩, .slice (some ⟨q, 0, none⟩) k c, .int .i64 num, .string ⟨text.toArray⟩, .int .i64 ty] := by rw [hw1]; exact Blk.new _ _ _
  have HB1 := Lib.hid hb1
  have HS1 := Lib.hid hblk
  have s1 := hblk.cell 1
  simp only [List.getElem?_toArray, List.getElem?_cons_zero, List.getElem?_cons_succ] at s1
  have b0 := (hb1.cell (p := ⟨q, 0, none⟩) hql).trans HA0.out
  have HC0 := Lib.hid (HN0.out w1 (HH.out.below hb1).edAt)
  clear hw1 hb1 hblk x0 y0 y1 y2 y3 y4 HN0
  go_wp2_with fail
  refine HC0.out.mono ?_
  rintro e w2 ⟨rfl, hb2⟩
  have HB2 := Lib.hid (HB1.out.trans (hb2.mono HB1.out.size))
  have hS2 := HS1.out.below hb2 HS1.out.lt
  have HS2 := Lib.hid hS2
  have s2 := hS2.cell 1
  simp only [List.getElem?_toArray, List.getElem?_cons_zero, List.getElem?_cons_succ] at s2
  have b1 := (HB2.out.cell (p := ⟨q, 1, none⟩) hql).trans HA1.out
  have HC1 := Lib.hid (HN1.out w2 (HH.out.below HB2.out).edAt)
  clear hb2 hS2 s1 b0 HC0 HN1 HB1 HS1
  obtain ⟨z0, hz0⟩ : ∃ z, z = decide (t0.op = nNumber ∧ t0.num ≤ Oz.maxLn) := ⟨_, rfl⟩
  rw [← hz0]
  have HZ0 := Lib.hid hz0
  clear hz0
  go_wp2_with fail
  refine HC1.out.mono ?_
  rintro e w3 ⟨rfl, hb3⟩
  have HB3 := Lib.hid (HB2.out.trans (hb3.mono HB2.out.size))
  have hS3 := HS2.out.below hb3 HS2.out.lt
  have s3 := hS3.cell 0
  simp only [List.getElem?_toArray, List.getElem?_cons_zero] at s3
  clear hb3 hS3 s2 b1 HC1 HB2 HS2
  obtain ⟨z1, hz1⟩ : ∃ z, z = decide (t1.op = nNumber ∧ t1.num ≤ Oz.maxLn) := ⟨_, rfl⟩
  rw [← hz1]
  have HZ1 := Lib.hid hz1
  clear hz1
  obtain ⟨x, hx⟩ : ∃ x, x = t0.num := ⟨_, rfl⟩
  obtain ⟨y, hy⟩ : ∃ y, y = t1.num := ⟨_, rfl⟩
  have HXN := Lib.hid hx
  have HYN := Lib.hid hy
  have HN0 := Lib.hid hn0
  have HN1 := Lib.hid hn1
  rw [← hx, ← hy]
  clear hx hy hn0 hn1
  cases z0 with
  | false =>
    have hz := of_decide_eq_false HZ0.out.symm
    have HRN : Hid (R = none) := Lib.hid (by rw [HR.out, if_neg hz])
    clear hz
    go_wp2_with fail
    go_ret
    unfold RepEnd
    rw [HRN.out]
    exact ⟨rfl, HB3.out⟩
  | true =>
  have hz := of_decide_eq_true HZ0.out.symm
  cases z1 with
  | false =>
    have hz1 := of_decide_eq_false HZ1.out.symm
    have HRN : Hid (R = none) := Lib.hid (by rw [HR.out, if_pos hz, if_neg hz1])
    clear hz hz1
    go_wp2_with fail
    go_ret
    unfold RepEnd
    rw [HRN.out]
    exact ⟨rfl, HB3.out⟩
  | true =>
  have hz1 := of_decide_eq_true HZ1.out.symm
  have HCM := Lib.hid (compute_any Oz.oMin (by decide) x y (by rw [HXN.out]; exact HN0.out) (by rw [HXN.out]; exact hz.2) (by rw [HYN.out]; exact HN1.out) (by rw [HYN.out]; exact hz1.2) w3)
  have HRM : Hid (R = (Oz.computeR Oz.oMin x y).map fun n => l.set i (Oz.mk nNumber [] n [] 1)) := Lib.hid (by rw [HR.out, if_pos hz, if_pos hz1, ← HXN.out, ← HYN.out])
  clear hz hz1
  go_wp2_with fail
  refine HCM.out.mono ?_
  clear HCM
  rintro e w4 ⟨hb4, hcm⟩
  have HB4 := Lib.hid (HB3.out.trans (hb4.mono HB3.out.size))
  obtain ⟨o, ho⟩ : ∃ o, o = Oz.computeR Oz.oMin x y := ⟨_, rfl⟩
  rw [← ho] at hcm
  have HO := Lib.hid ho
  clear hb4 s3 ho
  cases o with
  | none =>
    obtain ⟨z, rfl⟩ := hcm
    have HRN : Hid (R = none) := Lib.hid (by rw [HRM.out, ← HO.out]; rfl)
    go_wp2_with fail
    go_ret
    unfold RepEnd
    rw [HRN.out]
    exact ⟨rfl, HB4.out⟩
  | some m =>
    dsimp only at hcm
    subst hcm
    have HRN : Hid (R = some (l.set i (Oz.mk nNumber [] m [] 1))) := Lib.hid (by rw [HRM.out, ← HO.out]; rfl)
    have HW := HB4
    have hcW := fun m => HW.out.cell (p := ⟨gs, m, none⟩) hgsl
    have c0 := (HW.out.cell (p := ⟨g, 0, none⟩) hgl).trans HX0.out
    have d0 := (hcW _).trans HY.out.1
    have d1 := (hcW _).trans HY.out.2.1
    have d2 := (hcW _).trans HY.out.2.2.1
    have d3 := (hcW _).trans HY.out.2.2.2.1
    have d4 := (hcW _).trans HY.out.2.2.2.2
    obtain ⟨f0, f1, f2, f3, f4⟩ : w4.frozen? ⟨gs, i * 5, none⟩ = false ∧ w4.frozen? ⟨gs, i * 5 + 1, none⟩ = false ∧ w4.frozen? ⟨gs, i * 5 + 2, none⟩ = false ∧ w4.frozen? ⟨gs, i * 5 + 3, none⟩ = false ∧ w4.frozen? ⟨gs, i * 5 + 4, none⟩ = false := by
      obtain ⟨cs, e1, _⟩ := (HH.out.below HW.out).blk
      exact ⟨e1.frozen _, e1.frozen _, e1.frozen _, e1.frozen _, e1.frozen _⟩
    have hp := HH.out.putFresh HW.out HI.out (Oz.mk nNumber [] m [] 1) (.slice none 0 0) (World.ownsRow_nil _ _ _ _)
    have HP := Lib.hid hp.1
    have HF := Lib.hid hp.2
    clear hp hcW
    go_wp2_with fail
    go_ret
    unfold RepEnd
    rw [HRN.out]
    exact ⟨rfl, ⟨_, HP.out⟩, HF.out⟩
set_option maxRecDepth 100000 in
set_option maxHeartbeats 8000000 in
theorem fold_max (base g gs cap i : Nat) (l : List St) (vs : List Value) (V : Value) (s : St) (w : World) (h : EdX w base g gs cap l vs V) (hs : l[i]? = some s) (hop : s.op = Oz.oMax) (hl : s.args.length = 2) (j0 j1 : Nat) (t0 t1 : St) (hj0 : s.args[0]? = some (j0 : Int)) (hj1 : s.args[1]? = some (j1 : Int)) (ht0 : l[j0]? = some t0) (ht1 : l[j1]? = some t1) (hn0 : 0 ≤ t0.num) (hn1 : 0 ≤ t1.num) :
    Calls Try.prog 57 #[.pointer (some ⟨g, 0, none⟩), .int .i64 i] w (RepEnd base g gs cap l vs V (Oz.foldR l i) w) := by
  have hil := (List.getElem?_eq_some_iff.1 hs).1
  have hbase := h.base_le
  have x0 := h.ed.cell 0
  simp only [List.getElem?_toArray, List.getElem?_cons_zero] at x0
  obtain ⟨v, hv, ⟨y0, y1, y2, y3, y4⟩, ho⟩ := h.at_ hs
  obtain ⟨A, c, rfl⟩ := own_form ho
  obtain ⟨R, hR⟩ : ∃ R, R = Oz.foldR l i := ⟨_, rfl⟩
  rw [← hR]
  unfold Oz.foldR at hR
  rw [at_get hs] at hR
  obtain ⟨n, hn⟩ : ∃ n, n = l.length := ⟨_, rfl⟩
  have HI : Hid (i < l.length) := Lib.hid hil
  rw [← hn] at hil x0
  have HH := Lib.hid h
  have q0 : (i : Int) < (n : Int) := by omega
  have q1 : (0 : Int) ≤ (i : Int) := by omega
  have hgl := h.ed.lt
  have hgsl := h.gs_lt
  obtain ⟨num, hnum⟩ : ∃ num, num = s.num := ⟨_, rfl⟩
  obtain ⟨text, htext⟩ : ∃ text, text = s.text := ⟨_, rfl⟩
  obtain ⟨ty, hty⟩ : ∃ ty, ty = s.ty := ⟨_, rfl⟩
  obtain ⟨k, hk⟩ : ∃ k, k = s.args.length := ⟨_, rfl⟩
  rw [← hnum] at y2
  rw [← htext] at y3
  rw [← hty] at y4
  rw [← hk] at y1
  obtain ⟨q, c', hvq, _, hbq, hql, hc⟩ := own_at ho (by omega)
  injection hvq with hA hkk hcc
  clear hkk
  subst hA hcc
  have a0 : w.cell? ⟨q, 0, none⟩ = some (.int .i64 j0) := hc 0 _ (by rw [List.getElem?_map, hj0]; rfl)
  have ea0 : Oz.arg s 0 = (j0 : Int) := by unfold Oz.arg; rw [List.getD_eq_getElem?_getD, hj0]; rfl
  have p0 : (0 : Int) < (k : Int) := by omega
  have pp0 : 0 < k := by omega
  have a1 : w.cell? ⟨q, 1, none⟩ = some (.int .i64 j1) := hc 1 _ (by rw [List.getElem?_map, hj1]; rfl)
  have ea1 : Oz.arg s 1 = (j1 : Int) := by unfold Oz.arg; rw [List.getD_eq_getElem?_getD, hj1]; rfl
  have p1 : (1 : Int) < (k : Int) := by omega
  have pp1 : 1 < k := by omega
  have HN0 := Lib.hid (fun w h => number_step g gs cap j0 l V t0 w h ht0)
  have HN1 := Lib.hid (fun w h => number_step g gs cap j1 l V t1 w h ht1)
  dsimp only at hR
  rw [hop, if_pos (by decide), ea0, ea1] at hR
  unfold Oz.numR at hR
  rw [at_get ht0, at_get ht1] at hR
  rw [hop] at y0
  unfold Oz.oMax at y0
  have HR := Lib.hid hR
  have HX0 := Lib.hid x0
  have HY : Hid (w.cell? ⟨gs, i * 5, none⟩ = some (.string ⟨#[109, 97, 120]⟩) ∧ w.cell? ⟨gs, i * 5 + 1, none⟩ = some (.slice (some ⟨q, 0, none⟩) k c) ∧ w.cell? ⟨gs, i * 5 + 2, none⟩ = some (.int .i64 num) ∧ w.cell? ⟨gs, i * 5 + 3, none⟩ = some (.string ⟨text.toArray⟩) ∧ w.cell? ⟨gs, i * 5 + 4, none⟩ = some (.int .i64 ty)) := Lib.hid ⟨y0, y1, y2, y3, y4⟩
  have HA0 := Lib.hid a0
  have HA1 := Lib.hid a1
  clear h hs hv ho hn hop hl hj0 hj1 ht0 ht1 hk hnum htext hty hc ea0 ea1 a0 a1 hR
  go_enter Try.func57, Try.ntmps57
  go_upto_region 8 with (fail)
  obtain ⟨w1, hw1⟩ : ∃ w1, w1 = w.alloc (.cells #[.string ⟨#[109, 97, 120]⟩, .slice (some ⟨q, 0, none⟩) k c, .int .i64 num, .string ⟨text.toArray⟩, .int .i64 ty] 25) := ⟨_, rfl⟩
  rw [← hw1]
  have hb1 : Below w.heap.size w w1 := by rw [hw1]; exact below_alloc _ _
  have hblk : Blk w1 w.heap.size 25 #[.string ⟨#[109, 97, 120]⟩, .slice (some ⟨q, 0, none⟩) k c, .int .i64 num, .string ⟨text.toArray⟩, .int .i64 ty] := by rw [hw1]; exact Blk.new _ _ _
  have HB1 := Lib.hid hb1
  have HS1 := Lib.hid hblk
  have s1 := hblk.cell 1
  simp only [List.getElem?_toArray, List.getElem?_cons_zero, List.getElem?_cons_succ] at s1
  have b0 := (hb1.cell (p := ⟨q, 0, none⟩) hql).trans HA0.out
  have HC0 := Lib.hid (HN0.out w1 (HH.out.below hb1).edAt)
  clear hw1 hb1 hblk x0 y0 y1 y2 y3 y4 HN0
  go_wp2_with fail
  refine HC0.out.mono ?_
  rintro e w2 ⟨rfl, hb2⟩
  have HB2 := Lib.hid (HB1.out.trans (hb2.mono HB1.out.size))
  have hS2 := HS1.out.below hb2 HS1.out.lt
  have HS2 := Lib.hid hS2
  have s2 := hS2.cell 1
  simp only [List.getElem?_toArray, List.getElem?_cons_zero, List.getElem?_cons_succ] at s2
  have b1 := (HB2.out.cell (p := ⟨q, 1, none⟩) hql).trans HA1.out
  have HC1 := Lib.hid (HN1.out w2 (HH.out.below HB2.out).edAt)
  clear hb2 hS2 s1 b0 HC0 HN1 HB1 HS1
  obtain ⟨z0, hz0⟩ : ∃ z, z = decide (t0.op = nNumber ∧ t0.num ≤ Oz.maxLn) := ⟨_, rfl⟩
  rw [← hz0]
  have HZ0 := Lib.hid hz0
  clear hz0
  go_wp2_with fail
  refine HC1.out.mono ?_
  rintro e w3 ⟨rfl, hb3⟩
  have HB3 := Lib.hid (HB2.out.trans (hb3.mono HB2.out.size))
  have hS3 := HS2.out.below hb3 HS2.out.lt
  have s3 := hS3.cell 0
  simp only [List.getElem?_toArray, List.getElem?_cons_zero] at s3
  clear hb3 hS3 s2 b1 HC1 HB2 HS2
  obtain ⟨z1, hz1⟩ : ∃ z, z = decide (t1.op = nNumber ∧ t1.num ≤ Oz.maxLn) := ⟨_, rfl⟩
  rw [← hz1]
  have HZ1 := Lib.hid hz1
  clear hz1
  obtain ⟨x, hx⟩ : ∃ x, x = t0.num := ⟨_, rfl⟩
  obtain ⟨y, hy⟩ : ∃ y, y = t1.num := ⟨_, rfl⟩
  have HXN := Lib.hid hx
  have HYN := Lib.hid hy
  have HN0 := Lib.hid hn0
  have HN1 := Lib.hid hn1
  rw [← hx, ← hy]
  clear hx hy hn0 hn1
  cases z0 with
  | false =>
    have hz := of_decide_eq_false HZ0.out.symm
    have HRN : Hid (R = none) := Lib.hid (by rw [HR.out, if_neg hz])
    clear hz
    go_wp2_with fail
    go_ret
    unfold RepEnd
    rw [HRN.out]
    exact ⟨rfl, HB3.out⟩
  | true =>
  have hz := of_decide_eq_true HZ0.out.symm
  cases z1 with
  | false =>
    have hz1 := of_decide_eq_false HZ1.out.symm
    have HRN : Hid (R = none) := Lib.hid (by rw [HR.out, if_pos hz, if_neg hz1])
    clear hz hz1
    go_wp2_with fail
    go_ret
    unfold RepEnd
    rw [HRN.out]
    exact ⟨rfl, HB3.out⟩
  | true =>
  have hz1 := of_decide_eq_true HZ1.out.symm
  have HCM := Lib.hid (compute_any Oz.oMax (by decide) x y (by rw [HXN.out]; exact HN0.out) (by rw [HXN.out]; exact hz.2) (by rw [HYN.out]; exact HN1.out) (by rw [HYN.out]; exact hz1.2) w3)
  have HRM : Hid (R = (Oz.computeR Oz.oMax x y).map fun n => l.set i (Oz.mk nNumber [] n [] 1)) := Lib.hid (by rw [HR.out, if_pos hz, if_pos hz1, ← HXN.out, ← HYN.out])
  clear hz hz1
  go_wp2_with fail
  refine HCM.out.mono ?_
  clear HCM
  rintro e w4 ⟨hb4, hcm⟩
  have HB4 := Lib.hid (HB3.out.trans (hb4.mono HB3.out.size))
  obtain ⟨o, ho⟩ : ∃ o, o = Oz.computeR Oz.oMax x y := ⟨_, rfl⟩
  rw [← ho] at hcm
  have HO := Lib.hid ho
  clear hb4 s3 ho
  cases o with
  | none =>
    obtain ⟨z, rfl⟩ := hcm
    have HRN : Hid (R = none) := Lib.hid (by rw [HRM.out, ← HO.out]; rfl)
    go_wp2_with fail
    go_ret
    unfold RepEnd
    rw [HRN.out]
    exact ⟨rfl, HB4.out⟩
  | some m =>
    dsimp only at hcm
    subst hcm
    have HRN : Hid (R = some (l.set i (Oz.mk nNumber [] m [] 1))) := Lib.hid (by rw [HRM.out, ← HO.out]; rfl)
    have HW := HB4
    have hcW := fun m => HW.out.cell (p := ⟨gs, m, none⟩) hgsl
    have c0 := (HW.out.cell (p := ⟨g, 0, none⟩) hgl).trans HX0.out
    have d0 := (hcW _).trans HY.out.1
    have d1 := (hcW _).trans HY.out.2.1
    have d2 := (hcW _).trans HY.out.2.2.1
    have d3 := (hcW _).trans HY.out.2.2.2.1
    have d4 := (hcW _).trans HY.out.2.2.2.2
    obtain ⟨f0, f1, f2, f3, f4⟩ : w4.frozen? ⟨gs, i * 5, none⟩ = false ∧ w4.frozen? ⟨gs, i * 5 + 1, none⟩ = false ∧ w4.frozen? ⟨gs, i * 5 + 2, none⟩ = false ∧ w4.frozen? ⟨gs, i * 5 + 3, none⟩ = false ∧ w4.frozen? ⟨gs, i * 5 + 4, none⟩ = false := by
      obtain ⟨cs, e1, _⟩ := (HH.out.below HW.out).blk
      exact ⟨e1.frozen _, e1.frozen _, e1.frozen _, e1.frozen _, e1.frozen _⟩
    have hp := HH.out.putFresh HW.out HI.out (Oz.mk nNumber [] m [] 1) (.slice none 0 0) (World.ownsRow_nil _ _ _ _)
    have HP := Lib.hid hp.1
    have HF := Lib.hid hp.2
    clear hp hcW
    go_wp2_with fail
    go_ret
    unfold RepEnd
    rw [HRN.out]
    exact ⟨rfl, ⟨_, HP.out⟩, HF.out⟩
set_option maxRecDepth 100000 in
set_option maxHeartbeats 8000000 in
theorem fold_add (base g gs cap i : Nat) (l : List St) (vs : List Value) (V : Value) (s : St) (w : World) (h : EdX w base g gs cap l vs V) (hs : l[i]? = some s) (hop : s.op = Oz.oAdd) (hl : s.args.length = 2) (j0 j1 : Nat) (t0 t1 : St) (hj0 : s.args[0]? = some (j0 : Int)) (hj1 : s.args[1]? = some (j1 : Int)) (ht0 : l[j0]? = some t0) (ht1 : l[j1]? = some t1) (hn0 : 0 ≤ t0.num) (hn1 : 0 ≤ t1.num) :
    Calls Try.prog 57 #[.pointer (some ⟨g, 0, none⟩), .int .i64 i] w (RepEnd base g gs cap l vs V (Oz.foldR l i) w) := by
  have hil := (List.getElem?_eq_some_iff.1 hs).1
  have hbase := h.base_le
  have x0 := h.ed.cell 0
  simp only [List.getElem?_toArray, List.getElem?_cons_zero] at x0
  obtain ⟨v, hv, ⟨y0, y1, y2, y3, y4⟩, ho⟩ := h.at_ hs
  obtain ⟨A, c, rfl⟩ := own_form ho
  obtain ⟨R, hR⟩ : ∃ R, R = Oz.foldR l i := ⟨_, rfl⟩
  rw [← hR]
  unfold Oz.foldR at hR
  rw [at_get hs] at hR
  obtain ⟨n, hn⟩ : ∃ n, n = l.length := ⟨_, rfl⟩
  have HI : Hid (i < l.length) := Lib.hid hil
  rw [← hn] at hil x0
  have HH := Lib.hid h
  have q0 : (i : Int) < (n : Int) := by omega
  have q1 : (0 : Int) ≤ (i : Int) := by omega
  have hgl := h.ed.lt
  have hgsl := h.gs_lt
  obtain ⟨num, hnum⟩ : ∃ num, num = s.num := ⟨_, rfl⟩
  obtain ⟨text, htext⟩ : ∃ text, text = s.text := ⟨_, rfl⟩
  obtain ⟨ty, hty⟩ : ∃ ty, ty = s.ty := ⟨_, rfl⟩
  obtain ⟨k, hk⟩ : ∃ k, k = s.args.length := ⟨_, rfl⟩
  rw [← hnum] at y2
  rw [← htext] at y3
  rw [← hty] at y4
  rw [← hk] at y1
  obtain ⟨q, c', hvq, _, hbq, hql, hc⟩ := own_at ho (by omega)
  injection hvq with hA hkk hcc
  clear hkk
  subst hA hcc
  have a0 : w.cell? ⟨q, 0, none⟩ = some (.int .i64 j0) := hc 0 _ (by rw [List.getElem?_map, hj0]; rfl)
  have ea0 : Oz.arg s 0 = (j0 : Int) := by unfold Oz.arg; rw [List.getD_eq_getElem?_getD, hj0]; rfl
  have p0 : (0 : Int) < (k : Int) := by omega
  have pp0 : 0 < k := by omega
  have a1 : w.cell? ⟨q, 1, none⟩ = some (.int .i64 j1) := hc 1 _ (by rw [List.getElem?_map, hj1]; rfl)
  have ea1 : Oz.arg s 1 = (j1 : Int) := by unfold Oz.arg; rw [List.getD_eq_getElem?_getD, hj1]; rfl
  have p1 : (1 : Int) < (k : Int) := by omega
  have pp1 : 1 < k := by omega
  have HN0 := Lib.hid (fun w h => number_step g gs cap j0 l V t0 w h ht0)
  have HN1 := Lib.hid (fun w h => number_step g gs cap j1 l V t1 w h ht1)
  dsimp only at hR
  rw [hop, if_pos (by decide), ea0, ea1] at hR
  unfold Oz.numR at hR
  rw [at_get ht0, at_get ht1] at hR
  rw [hop] at y0
  unfold Oz.oAdd at y0
  have HR := Lib.hid hR
  have HX0 := Lib.hid x0
  have HY : Hid (w.cell? ⟨gs, i * 5, none⟩ = some (.string ⟨#[43]⟩) ∧ w.cell? ⟨gs, i * 5 + 1, none⟩ = some (.slice (some ⟨q, 0, none⟩) k c) ∧ w.cell? ⟨gs, i * 5 + 2, none⟩ = some (.int .i64 num) ∧ w.cell? ⟨gs, i * 5 + 3, none⟩ = some (.string ⟨text.toArray⟩) ∧ w.cell? ⟨gs, i * 5 + 4, none⟩ = some (.int .i64 ty)) := Lib.hid ⟨y0, y1, y2, y3, y4⟩
  have HA0 := Lib.hid a0
  have HA1 := Lib.hid a1
  clear h hs hv ho hn hop hl hj0 hj1 ht0 ht1 hk hnum htext hty hc ea0 ea1 a0 a1 hR
  go_enter Try.func57, Try.ntmps57
  go_upto_region 8 with (fail)
  obtain ⟨w1, hw1⟩ : ∃ w1, w1 = w.alloc (.cells #[.string ⟨#[43]⟩, .slice (some ⟨q, 0, none⟩) k c, .int .i64 num, .string ⟨text.toArray⟩, .int .i64 ty] 25) := ⟨_, rfl⟩
  rw [← hw1]
  have hb1 : Below w.heap.size w w1 := by rw [hw1]; exact below_alloc _ _
  have hblk : Blk w1 w.heap.size 25 #[.string ⟨#[43]⟩, .slice (some ⟨q, 0, none⟩) k c, .int .i64 num, .string ⟨text.toArray⟩, .int .i64 ty] := by rw [hw1]; exact Blk.new _ _ _
  have HB1 := Lib.hid hb1
  have HS1 := Lib.hid hblk
  have s1 := hblk.cell 1
  simp only [List.getElem?_toArray, List.getElem?_cons_zero, List.getElem?_cons_succ] at s1
  have b0 := (hb1.cell (p := ⟨q, 0, none⟩) hql).trans HA0.out
  have HC0 := Lib.hid (HN0.out w1 (HH.out.below hb1).edAt)
  clear hw1 hb1 hblk x0 y0 y1 y2 y3 y4 HN0
  go_wp2_with fail
  refine HC0.out.mono ?_
  rintro e w2 ⟨rfl, hb2⟩
  have HB2 := Lib.hid (HB1.out.trans (hb2.mono HB1.out.size))
  have hS2 := HS1.out.below hb2 HS1.out.lt
  have HS2 := Lib.hid hS2
  have s2 := hS2.cell 1
  simp only [List.getElem?_toArray, List.getElem?_cons_zero, List.getElem?_cons_succ] at s2
  have b1 := (HB2.out.cell (p := ⟨q, 1, none⟩) hql).trans HA1.out
  have HC1 := Lib.hid (HN1.out w2 (HH.out.below HB2.out).edAt)
  clear hb2 hS2 s1 b0 HC0 HN1 HB1 HS1
  obtain ⟨z0, hz0⟩ : ∃ z, z = decide (t0.op = nNumber ∧ t0.num ≤ Oz.maxLn) := ⟨_, rfl⟩
  rw [← hz0]
  have HZ0 := Lib.hid hz0
  clear hz0
  go_wp2_with fail
  refine HC1.out.mono ?_
  rintro e w3 ⟨rfl, hb3⟩
  have HB3 := Lib.hid (HB2.out.trans (hb3.mono HB2.out.size))
  have hS3 := HS2.out.below hb3 HS2.out.lt
  have s3 := hS3.cell 0
  simp only [List.getElem?_toArray, List.getElem?_cons_zero] at s3
  clear hb3 hS3 s2 b1 HC1 HB2 HS2
  obtain ⟨z1, hz1⟩ : ∃ z, z = decide (t1.op = nNumber ∧ t1.num ≤ Oz.maxLn) := ⟨_, rfl⟩
  rw [← hz1]
  have HZ1 := Lib.hid hz1
  clear hz1
  obtain ⟨x, hx⟩ : ∃ x, x = t0.num := ⟨_, rfl⟩
  obtain ⟨y, hy⟩ : ∃ y, y = t1.num := ⟨_, rfl⟩
  have HXN := Lib.hid hx
  have HYN := Lib.hid hy
  have HN0 := Lib.hid hn0
  have HN1 := Lib.hid hn1
  rw [← hx, ← hy]
  clear hx hy hn0 hn1
  cases z0 with
  | false =>
    have hz := of_decide_eq_false HZ0.out.symm
    have HRN : Hid (R = none) := Lib.hid (by rw [HR.out, if_neg hz])
    clear hz
    go_wp2_with fail
    go_ret
    unfold RepEnd
    rw [HRN.out]
    exact ⟨rfl, HB3.out⟩
  | true =>
  have hz := of_decide_eq_true HZ0.out.symm
  cases z1 with
  | false =>
    have hz1 := of_decide_eq_false HZ1.out.symm
    have HRN : Hid (R = none) := Lib.hid (by rw [HR.out, if_pos hz, if_neg hz1])
    clear hz hz1
    go_wp2_with fail
    go_ret
    unfold RepEnd
    rw [HRN.out]
    exact ⟨rfl, HB3.out⟩
  | true =>
  have hz1 := of_decide_eq_true HZ1.out.symm
  have HCM := Lib.hid (compute_any Oz.oAdd (by decide) x y (by rw [HXN.out]; exact HN0.out) (by rw [HXN.out]; exact hz.2) (by rw [HYN.out]; exact HN1.out) (by rw [HYN.out]; exact hz1.2) w3)
  have HRM : Hid (R = (Oz.computeR Oz.oAdd x y).map fun n => l.set i (Oz.mk nNumber [] n [] 1)) := Lib.hid (by rw [HR.out, if_pos hz, if_pos hz1, ← HXN.out, ← HYN.out])
  clear hz hz1
  go_wp2_with fail
  refine HCM.out.mono ?_
  clear HCM
  rintro e w4 ⟨hb4, hcm⟩
  have HB4 := Lib.hid (HB3.out.trans (hb4.mono HB3.out.size))
  obtain ⟨o, ho⟩ : ∃ o, o = Oz.computeR Oz.oAdd x y := ⟨_, rfl⟩
  rw [← ho] at hcm
  have HO := Lib.hid ho
  clear hb4 s3 ho
  cases o with
  | none =>
    obtain ⟨z, rfl⟩ := hcm
    have HRN : Hid (R = none) := Lib.hid (by rw [HRM.out, ← HO.out]; rfl)
    go_wp2_with fail
    go_ret
    unfold RepEnd
    rw [HRN.out]
    exact ⟨rfl, HB4.out⟩
  | some m =>
    dsimp only at hcm
    subst hcm
    have HRN : Hid (R = some (l.set i (Oz.mk nNumber [] m [] 1))) := Lib.hid (by rw [HRM.out, ← HO.out]; rfl)
    have HW := HB4
    have hcW := fun m => HW.out.cell (p := ⟨gs, m, none⟩) hgsl
    have c0 := (HW.out.cell (p := ⟨g, 0, none⟩) hgl).trans HX0.out
    have d0 := (hcW _).trans HY.out.1
    have d1 := (hcW _).trans HY.out.2.1
    have d2 := (hcW _).trans HY.out.2.2.1
    have d3 := (hcW _).trans HY.out.2.2.2.1
    have d4 := (hcW _).trans HY.out.2.2.2.2
    obtain ⟨f0, f1, f2, f3, f4⟩ : w4.frozen? ⟨gs, i * 5, none⟩ = false ∧ w4.frozen? ⟨gs, i * 5 + 1, none⟩ = false ∧ w4.frozen? ⟨gs, i * 5 + 2, none⟩ = false ∧ w4.frozen? ⟨gs, i * 5 + 3, none⟩ = false ∧ w4.frozen? ⟨gs, i * 5 + 4, none⟩ = false := by
      obtain ⟨cs, e1, _⟩ := (HH.out.below HW.out).blk
      exact ⟨e1.frozen _, e1.frozen _, e1.frozen _, e1.frozen _, e1.frozen _⟩
    have hp := HH.out.putFresh HW.out HI.out (Oz.mk nNumber [] m [] 1) (.slice none 0 0) (World.ownsRow_nil _ _ _ _)
    have HP := Lib.hid hp.1
    have HF := Lib.hid hp.2
    clear hp hcW
    go_wp2_with fail
    go_ret
    unfold RepEnd
    rw [HRN.out]
    exact ⟨rfl, ⟨_, HP.out⟩, HF.out⟩
set_option maxRecDepth 100000 in
set_option maxHeartbeats 8000000 in
theorem fold_sub (base g gs cap i : Nat) (l : List St) (vs : List Value) (V : Value) (s : St) (w : World) (h : EdX w base g gs cap l vs V) (hs : l[i]? = some s) (hop : s.op = Oz.oSub) (hl : s.args.length = 2) (j0 j1 : Nat) (t0 t1 : St) (hj0 : s.args[0]? = some (j0 : Int)) (hj1 : s.args[1]? = some (j1 : Int)) (ht0 : l[j0]? = some t0) (ht1 : l[j1]? = some t1) (hn0 : 0 ≤ t0.num) (hn1 : 0 ≤ t1.num) :
    Calls Try.prog 57 #[.pointer (some ⟨g, 0, none⟩), .int .i64 i] w (RepEnd base g gs cap l vs V (Oz.foldR l i) w) := by
  have hil := (List.getElem?_eq_some_iff.1 hs).1
  have hbase := h.base_le
  have x0 := h.ed.cell 0
  simp only [List.getElem?_toArray, List.getElem?_cons_zero] at x0
  obtain ⟨v, hv, ⟨y0, y1, y2, y3, y4⟩, ho⟩ := h.at_ hs
  obtain ⟨A, c, rfl⟩ := own_form ho
  obtain ⟨R, hR⟩ : ∃ R, R = Oz.foldR l i := ⟨_, rfl⟩
  rw [← hR]
  unfold Oz.foldR at hR
  rw [at_get hs] at hR
  obtain ⟨n, hn⟩ : ∃ n, n = l.length := ⟨_, rfl⟩
  have HI : Hid (i < l.length) := Lib.hid hil
  rw [← hn] at hil x0
  have HH := Lib.hid h
  have q0 : (i : Int) < (n : Int) := by omega
  have q1 : (0 : Int) ≤ (i : Int) := by omega
  have hgl := h.ed.lt
  have hgsl := h.gs_lt
  obtain ⟨num, hnum⟩ : ∃ num, num = s.num := ⟨_, rfl⟩
  obtain ⟨text, htext⟩ : ∃ text, text = s.text := ⟨_, rfl⟩
  obtain ⟨ty, hty⟩ : ∃ ty, ty = s.ty := ⟨_, rfl⟩
  obtain ⟨k, hk⟩ : ∃ k, k = s.args.length := ⟨_, rfl⟩
  rw [← hnum] at y2
  rw [← htext] at y3
  rw [← hty] at y4
  rw [← hk] at y1
  obtain ⟨q, c', hvq, _, hbq, hql, hc⟩ := own_at ho (by omega)
  injection hvq with hA hkk hcc
  clear hkk
  subst hA hcc
  have a0 : w.cell? ⟨q, 0, none⟩ = some (.int .i64 j0) := hc 0 _ (by rw [List.getElem?_map, hj0]; rfl)
  have ea0 : Oz.arg s 0 = (j0 : Int) := by unfold Oz.arg; rw [List.getD_eq_getElem?_getD, hj0]; rfl
  have p0 : (0 : Int) < (k : Int) := by omega
  have pp0 : 0 < k := by omega
  have a1 : w.cell? ⟨q, 1, none⟩ = some (.int .i64 j1) := hc 1 _ (by rw [List.getElem?_map, hj1]; rfl)
  have ea1 : Oz.arg s 1 = (j1 : Int) := by unfold Oz.arg; rw [List.getD_eq_getElem?_getD, hj1]; rfl
  have p1 : (1 : Int) < (k : Int) := by omega
  have pp1 : 1 < k := by omega
  have HN0 := Lib.hid (fun w h => number_step g gs cap j0 l V t0 w h ht0)
  have HN1 := Lib.hid (fun w h => number_step g gs cap j1 l V t1 w h ht1)
  dsimp only at hR
  rw [hop, if_pos (by decide), ea0, ea1] at hR
  unfold Oz.numR at hR
  rw [at_get ht0, at_get ht1] at hR
  rw [hop] at y0
  unfold Oz.oSub at y0
  have HR := Lib.hid hR
  have HX0 := Lib.hid x0
  have HY : Hid (w.cell? ⟨gs, i * 5, none⟩ = some (.string ⟨#[45]⟩) ∧ w.cell? ⟨gs, i * 5 + 1, none⟩ = some (.slice (some ⟨q, 0, none⟩) k c) ∧ w.cell? ⟨gs, i * 5 + 2, none⟩ = some (.int .i64 num) ∧ w.cell? ⟨gs, i * 5 + 3, none⟩ = some (.string ⟨text.toArray⟩) ∧ w.cell? ⟨gs, i * 5 + 4, none⟩ = some (.int .i64 ty)) := Lib.hid ⟨y0, y1, y2, y3, y4⟩
  have HA0 := Lib.hid a0
  have HA1 := Lib.hid a1
  clear h hs hv ho hn hop hl hj0 hj1 ht0 ht1 hk hnum htext hty hc ea0 ea1 a0 a1 hR
  go_enter Try.func57, Try.ntmps57
  go_upto_region 8 with (fail)
  obtain ⟨w1, hw1⟩ : ∃ w1, w1 = w.alloc (.cells #[.string ⟨#[45]⟩, .slice (some ⟨q, 0, none⟩) k c, .int .i64 num, .string ⟨text.toArray⟩, .int .i64 ty] 25) := ⟨_, rfl⟩
  rw [← hw1]
  have hb1 : Below w.heap.size w w1 := by rw [hw1]; exact below_alloc _ _
  have hblk : Blk w1 w.heap.size 25 #[.string ⟨#[45]⟩, .slice (some ⟨q, 0, none⟩) k c, .int .i64 num, .string ⟨text.toArray⟩, .int .i64 ty] := by rw [hw1]; exact Blk.new _ _ _
  have HB1 := Lib.hid hb1
  have HS1 := Lib.hid hblk
  have s1 := hblk.cell 1
  simp only [List.getElem?_toArray, List.getElem?_cons_zero, List.getElem?_cons_succ] at s1
  have b0 := (hb1.cell (p := ⟨q, 0, none⟩) hql).trans HA0.out
  have HC0 := Lib.hid (HN0.out w1 (HH.out.below hb1).edAt)
  clear hw1 hb1 hblk x0 y0 y1 y2 y3 y4 HN0
  go_wp2_with fail
  refine HC0.out.mono ?_
  rintro e w2 ⟨rfl, hb2⟩
  have HB2 := Lib.hid (HB1.out.trans (hb2.mono HB1.out.size))
  have hS2 := HS1.out.below hb2 HS1.out.lt
  have HS2 := Lib.hid hS2
  have s2 := hS2.cell 1
  simp only [List.getElem?_toArray, List.getElem?_cons_zero, List.getElem?_cons_succ] at s2
  have b1 := (HB2.out.cell (p := ⟨q, 1, none⟩) hql).trans HA1.out
  have HC1 := Lib.hid (HN1.out w2 (HH.out.below HB2.out).edAt)
  clear hb2 hS2 s1 b0 HC0 HN1 HB1 HS1
  obtain ⟨z0, hz0⟩ : ∃ z, z = decide (t0.op = nNumber ∧ t0.num ≤ Oz.maxLn) := ⟨_, rfl⟩
  rw [← hz0]
  have HZ0 := Lib.hid hz0
  clear hz0
  go_wp2_with fail
  refine HC1.out.mono ?_
  rintro e w3 ⟨rfl, hb3⟩
  have HB3 := Lib.hid (HB2.out.trans (hb3.mono HB2.out.size))
  have hS3 := HS2.out.below hb3 HS2.out.lt
  have s3 := hS3.cell 0
  simp only [List.getElem?_toArray, List.getElem?_cons_zero] at s3
  clear hb3 hS3 s2 b1 HC1 HB2 HS2
  obtain ⟨z1, hz1⟩ : ∃ z, z = decide (t1.op = nNumber ∧ t1.num ≤ Oz.maxLn) := ⟨_, rfl⟩
  rw [← hz1]
  have HZ1 := Lib.hid hz1
  clear hz1
  obtain ⟨x, hx⟩ : ∃ x, x = t0.num := ⟨_, rfl⟩
  obtain ⟨y, hy⟩ : ∃ y, y = t1.num := ⟨_, rfl⟩
  have HXN := Lib.hid hx
  have HYN := Lib.hid hy
  have HN0 := Lib.hid hn0
  have HN1 := Lib.hid hn1
  rw [← hx, ← hy]
  clear hx hy hn0 hn1
  cases z0 with
  | false =>
    have hz := of_decide_eq_false HZ0.out.symm
    have HRN : Hid (R = none) := Lib.hid (by rw [HR.out, if_neg hz])
    clear hz
    go_wp2_with fail
    go_ret
    unfold RepEnd
    rw [HRN.out]
    exact ⟨rfl, HB3.out⟩
  | true =>
  have hz := of_decide_eq_true HZ0.out.symm
  cases z1 with
  | false =>
    have hz1 := of_decide_eq_false HZ1.out.symm
    have HRN : Hid (R = none) := Lib.hid (by rw [HR.out, if_pos hz, if_neg hz1])
    clear hz hz1
    go_wp2_with fail
    go_ret
    unfold RepEnd
    rw [HRN.out]
    exact ⟨rfl, HB3.out⟩
  | true =>
  have hz1 := of_decide_eq_true HZ1.out.symm
  have HCM := Lib.hid (compute_any Oz.oSub (by decide) x y (by rw [HXN.out]; exact HN0.out) (by rw [HXN.out]; exact hz.2) (by rw [HYN.out]; exact HN1.out) (by rw [HYN.out]; exact hz1.2) w3)
  have HRM : Hid (R = (Oz.computeR Oz.oSub x y).map fun n => l.set i (Oz.mk nNumber [] n [] 1)) := Lib.hid (by rw [HR.out, if_pos hz, if_pos hz1, ← HXN.out, ← HYN.out])
  clear hz hz1
  go_wp2_with fail
  refine HCM.out.mono ?_
  clear HCM
  rintro e w4 ⟨hb4, hcm⟩
  have HB4 := Lib.hid (HB3.out.trans (hb4.mono HB3.out.size))
  obtain ⟨o, ho⟩ : ∃ o, o = Oz.computeR Oz.oSub x y := ⟨_, rfl⟩
  rw [← ho] at hcm
  have HO := Lib.hid ho
  clear hb4 s3 ho
  cases o with
  | none =>
    obtain ⟨z, rfl⟩ := hcm
    have HRN : Hid (R = none) := Lib.hid (by rw [HRM.out, ← HO.out]; rfl)
    go_wp2_with fail
    go_ret
    unfold RepEnd
    rw [HRN.out]
    exact ⟨rfl, HB4.out⟩
  | some m =>
    dsimp only at hcm
    subst hcm
    have HRN : Hid (R = some (l.set i (Oz.mk nNumber [] m [] 1))) := Lib.hid (by rw [HRM.out, ← HO.out]; rfl)
    have HW := HB4
    have hcW := fun m => HW.out.cell (p := ⟨gs, m, none⟩) hgsl
    have c0 := (HW.out.cell (p := ⟨g, 0, none⟩) hgl).trans HX0.out
    have d0 := (hcW _).trans HY.out.1
    have d1 := (hcW _).trans HY.out.2.1
    have d2 := (hcW _).trans HY.out.2.2.1
    have d3 := (hcW _).trans HY.out.2.2.2.1
    have d4 := (hcW _).trans HY.out.2.2.2.2
    obtain ⟨f0, f1, f2, f3, f4⟩ : w4.frozen? ⟨gs, i * 5, none⟩ = false ∧ w4.frozen? ⟨gs, i * 5 + 1, none⟩ = false ∧ w4.frozen? ⟨gs, i * 5 + 2, none⟩ = false ∧ w4.frozen? ⟨gs, i * 5 + 3, none⟩ = false ∧ w4.frozen? ⟨gs, i * 5 + 4, none⟩ = false := by
      obtain ⟨cs, e1, _⟩ := (HH.out.below HW.out).blk
      exact ⟨e1.frozen _, e1.frozen _, e1.frozen _, e1.frozen _, e1.frozen _⟩
    have hp := HH.out.putFresh HW.out HI.out (Oz.mk nNumber [] m [] 1) (.slice none 0 0) (World.ownsRow_nil _ _ _ _)
    have HP := Lib.hid hp.1
    have HF := Lib.hid hp.2
    clear hp hcW
    go_wp2_with fail
    go_ret
    unfold RepEnd
    rw [HRN.out]
    exact ⟨rfl, ⟨_, HP.out⟩, HF.out⟩
set_option maxRecDepth 100000 in
set_option maxHeartbeats 8000000 in
theorem fold_mul (base g gs cap i : Nat) (l : List St) (vs : List Value) (V : Value) (s : St) (w : World) (h : EdX w base g gs cap l vs V) (hs : l[i]? = some s) (hop : s.op = Oz.oMul) (hl : s.args.length = 2) (j0 j1 : Nat) (t0 t1 : St) (hj0 : s.args[0]? = some (j0 : Int)) (hj1 : s.args[1]? = some (j1 : Int)) (ht0 : l[j0]? = some t0) (ht1 : l[j1]? = some t1) (hn0 : 0 ≤ t0.num) (hn1 : 0 ≤ t1.num) :
    Calls Try.prog 57 #[.pointer (some ⟨g, 0, none⟩), .int .i64 i] w (RepEnd base g gs cap l vs V (Oz.foldR l i) w) := by
  have hil := (List.getElem?_eq_some_iff.1 hs).1
  have hbase := h.base_le
  have x0 := h.ed.cell 0
  simp only [List.getElem?_toArray, List.getElem?_cons_zero] at x0
  obtain ⟨v, hv, ⟨y0, y1, y2, y3, y4⟩, ho⟩ := h.at_ hs
  obtain ⟨A, c, rfl⟩ := own_form ho
  obtain ⟨R, hR⟩ : ∃ R, R = Oz.foldR l i := ⟨_, rfl⟩
  rw [← hR]
  unfold Oz.foldR at hR
  rw [at_get hs] at hR
  obtain ⟨n, hn⟩ : ∃ n, n = l.length := ⟨_, rfl⟩
  have HI : Hid (i < l.length) := Lib.hid hil
  rw [← hn] at hil x0
  have HH := Lib.hid h
  have q0 : (i : Int) < (n : Int) := by omega
  have q1 : (0 : Int) ≤ (i : Int) := by omega
  have hgl := h.ed.lt
  have hgsl := h.gs_lt
  obtain ⟨num, hnum⟩ : ∃ num, num = s.num := ⟨_, rfl⟩
  obtain ⟨text, htext⟩ : ∃ text, text = s.text := ⟨_, rfl⟩
  obtain ⟨ty, hty⟩ : ∃ ty, ty = s.ty := ⟨_, rfl⟩
  obtain ⟨k, hk⟩ : ∃ k, k = s.args.length := ⟨_, rfl⟩
  rw [← hnum] at y2
  rw [← htext] at y3
  rw [← hty] at y4
  rw [← hk] at y1
  obtain ⟨q, c', hvq, _, hbq, hql, hc⟩ := own_at ho (by omega)
  injection hvq with hA hkk hcc
  clear hkk
  subst hA hcc
  have a0 : w.cell? ⟨q, 0, none⟩ = some (.int .i64 j0) := hc 0 _ (by rw [List.getElem?_map, hj0]; rfl)
  have ea0 : Oz.arg s 0 = (j0 : Int) := by unfold Oz.arg; rw [List.getD_eq_getElem?_getD, hj0]; rfl
  have p0 : (0 : Int) < (k : Int) := by omega
  have pp0 : 0 < k := by omega
  have a1 : w.cell? ⟨q, 1, none⟩ = some (.int .i64 j1) := hc 1 _ (by rw [List.getElem?_map, hj1]; rfl)
  have ea1 : Oz.arg s 1 = (j1 : Int) := by unfold Oz.arg; rw [List.getD_eq_getElem?_getD, hj1]; rfl
  have p1 : (1 : Int) < (k : Int) := by omega
  have pp1 : 1 < k := by omega
  have HN0 := Lib.hid (fun w h => number_step g gs cap j0 l V t0 w h ht0)
  have HN1 := Lib.hid (fun w h => number_step g gs cap j1 l V t1 w h ht1)
  dsimp only at hR
  rw [hop, if_pos (by decide), ea0, ea1] at hR
  unfold Oz.numR at hR
  rw [at_get ht0, at_get ht1] at hR
  rw [hop] at y0
  unfold Oz.oMul at y0
  have HR := Lib.hid hR
  have HX0 := Lib.hid x0
  have HY : Hid (w.cell? ⟨gs, i * 5, none⟩ = some (.string ⟨#[42]⟩) ∧ w.cell? ⟨gs, i * 5 + 1, none⟩ = some (.slice (some ⟨q, 0, none⟩) k c) ∧ w.cell? ⟨gs, i * 5 + 2, none⟩ = some (.int .i64 num) ∧ w.cell? ⟨gs, i * 5 + 3, none⟩ = some (.string ⟨text.toArray⟩) ∧ w.cell? ⟨gs, i * 5 + 4, none⟩ = some (.int .i64 ty)) := Lib.hid ⟨y0, y1, y2, y3, y4⟩
  have HA0 := Lib.hid a0
  have HA1 := Lib.hid a1
  clear h hs hv ho hn hop hl hj0 hj1 ht0 ht1 hk hnum htext hty hc ea0 ea1 a0 a1 hR
  go_enter Try.func57, Try.ntmps57
  go_upto_region 8 with (fail)
  obtain ⟨w1, hw1⟩ : ∃ w1, w1 = w.alloc (.cells #[.string ⟨#[42]⟩, .slice (some ⟨q, 0, none⟩) k c, .int .i64 num, .string ⟨text.toArray⟩, .int .i64 ty] 25) := ⟨_, rfl⟩
  rw [← hw1]
  have hb1 : Below w.heap.size w w1 := by rw [hw1]; exact below_alloc _ _
  have hblk : Blk w1 w.heap.size 25 #[.string ⟨#[42]⟩, .slice (some ⟨q, 0, none⟩) k c, .int .i64 num, .string ⟨text.toArray⟩, .int .i64 ty] := by rw [hw1]; exact Blk.new _ _ _
  have HB1 := Lib.hid hb1
  have HS1 := Lib.hid hblk
  have s1 := hblk.cell 1
  simp only [List.getElem?_toArray, List.getElem?_cons_zero, List.getElem?_cons_succ] at s1
  have b0 := (hb1.cell (p := ⟨q, 0, none⟩) hql).trans HA0.out
  have HC0 := Lib.hid (HN0.out w1 (HH.out.below hb1).edAt)
  clear hw1 hb1 hblk x0 y0 y1 y2 y3 y4 HN0
  go_wp2_with fail
  refine HC0.out.mono ?_
  rintro e w2 ⟨rfl, hb2⟩
  have HB2 := Lib.hid (HB1.out.trans (hb2.mono HB1.out.size))
  have hS2 := HS1.out.below hb2 HS1.out.lt
  have HS2 := Lib.hid hS2
  have s2 := hS2.cell 1
  simp only [List.getElem?_toArray, List.getElem?_cons_zero, List.getElem?_cons_succ] at s2
  have b1 := (HB2.out.cell (p := ⟨q, 1, none⟩) hql).trans HA1.out
  have HC1 := Lib.hid (HN1.out w2 (HH.out.below HB2.out).edAt)
  clear hb2 hS2 s1 b0 HC0 HN1 HB1 HS1
  obtain ⟨z0, hz0⟩ : ∃ z, z = decide (t0.op = nNumber ∧ t0.num ≤ Oz.maxLn) := ⟨_, rfl⟩
  rw [← hz0]
  have HZ0 := Lib.hid hz0
  clear hz0
  go_wp2_with fail
  refine HC1.out.mono ?_
  rintro e w3 ⟨rfl, hb3⟩
  have HB3 := Lib.hid (HB2.out.trans (hb3.mono HB2.out.size))
  have hS3 := HS2.out.below hb3 HS2.out.lt
  have s3 := hS3.cell 0
  simp only [List.getElem?_toArray, List.getElem?_cons_zero] at s3
  clear hb3 hS3 s2 b1 HC1 HB2 HS2
  obtain ⟨z1, hz1⟩ : ∃ z, z = decide (t1.op = nNumber ∧ t1.num ≤ Oz.maxLn) := ⟨_, rfl⟩
  rw [← hz1]
  have HZ1 := Lib.hid hz1
  clear hz1
  obtain ⟨x, hx⟩ : ∃ x, x = t0.num := ⟨_, rfl⟩
  obtain ⟨y, hy⟩ : ∃ y, y = t1.num := ⟨_, rfl⟩
  have HXN := Lib.hid hx
  have HYN := Lib.hid hy
  have HN0 := Lib.hid hn0
  have HN1 := Lib.hid hn1
  rw [← hx, ← hy]
  clear hx hy hn0 hn1
  cases z0 with
  | false =>
    have hz := of_decide_eq_false HZ0.out.symm
    have HRN : Hid (R = none) := Lib.hid (by rw [HR.out, if_neg hz])
    clear hz
    go_wp2_with fail
    go_ret
    unfold RepEnd
    rw [HRN.out]
    exact ⟨rfl, HB3.out⟩
  | true =>
  have hz := of_decide_eq_true HZ0.out.symm
  cases z1 with
  | false =>
    have hz1 := of_decide_eq_false HZ1.out.symm
    have HRN : Hid (R = none) := Lib.hid (by rw [HR.out, if_pos hz, if_neg hz1])
    clear hz hz1
    go_wp2_with fail
    go_ret
    unfold RepEnd
    rw [HRN.out]
    exact ⟨rfl, HB3.out⟩
  | true =>
  have hz1 := of_decide_eq_true HZ1.out.symm
  have HCM := Lib.hid (compute_any Oz.oMul (by decide) x y (by rw [HXN.out]; exact HN0.out) (by rw [HXN.out]; exact hz.2) (by rw [HYN.out]; exact HN1.out) (by rw [HYN.out]; exact hz1.2) w3)
  have HRM : Hid (R = (Oz.computeR Oz.oMul x y).map fun n => l.set i (Oz.mk nNumber [] n [] 1)) := Lib.hid (by rw [HR.out, if_pos hz, if_pos hz1, ← HXN.out, ← HYN.out])
  clear hz hz1
  go_wp2_with fail
  refine HCM.out.mono ?_
  clear HCM
  rintro e w4 ⟨hb4, hcm⟩
  have HB4 := Lib.hid (HB3.out.trans (hb4.mono HB3.out.size))
  obtain ⟨o, ho⟩ : ∃ o, o = Oz.computeR Oz.oMul x y := ⟨_, rfl⟩
  rw [← ho] at hcm
  have HO := Lib.hid ho
  clear hb4 s3 ho
  cases o with
  | none =>
    obtain ⟨z, rfl⟩ := hcm
    have HRN : Hid (R = none) := Lib.hid (by rw [HRM.out, ← HO.out]; rfl)
    go_wp2_with fail
    go_ret
    unfold RepEnd
    rw [HRN.out]
    exact ⟨rfl, HB4.out⟩
  | some m =>
    dsimp only at hcm
    subst hcm
    have HRN : Hid (R = some (l.set i (Oz.mk nNumber [] m [] 1))) := Lib.hid (by rw [HRM.out, ← HO.out]; rfl)
    have HW := HB4
    have hcW := fun m => HW.out.cell (p := ⟨gs, m, none⟩) hgsl
    have c0 := (HW.out.cell (p := ⟨g, 0, none⟩) hgl).trans HX0.out
    have d0 := (hcW _).trans HY.out.1
    have d1 := (hcW _).trans HY.out.2.1
    have d2 := (hcW _).trans HY.out.2.2.1
    have d3 := (hcW _).trans HY.out.2.2.2.1
    have d4 := (hcW _).trans HY.out.2.2.2.2
    obtain ⟨f0, f1, f2, f3, f4⟩ : w4.frozen? ⟨gs, i * 5, none⟩ = false ∧ w4.frozen? ⟨gs, i * 5 + 1, none⟩ = false ∧ w4.frozen? ⟨gs, i * 5 + 2, none⟩ = false ∧ w4.frozen? ⟨gs, i * 5 + 3, none⟩ = false ∧ w4.frozen? ⟨gs, i * 5 + 4, none⟩ = false := by
      obtain ⟨cs, e1, _⟩ := (HH.out.below HW.out).blk
      exact ⟨e1.frozen _, e1.frozen _, e1.frozen _, e1.frozen _, e1.frozen _⟩
    have hp := HH.out.putFresh HW.out HI.out (Oz.mk nNumber [] m [] 1) (.slice none 0 0) (World.ownsRow_nil _ _ _ _)
    have HP := Lib.hid hp.1
    have HF := Lib.hid hp.2
    clear hp hcW
    go_wp2_with fail
    go_ret
    unfold RepEnd
    rw [HRN.out]
    exact ⟨rfl, ⟨_, HP.out⟩, HF.out⟩
set_option maxRecDepth 100000 in
set_option maxHeartbeats 8000000 in
theorem fold_len (base g gs cap i : Nat) (l : List St) (vs : List Value) (V : Value) (s : St) (w : World) (h : EdX w base g gs cap l vs V) (hs : l[i]? = some s) (hop : s.op = Oz.oLen) (hl : s.args.length = 1) (j0 : Nat) (t0 : St) (hj0 : s.args[0]? = some (j0 : Int)) (ht0 : l[j0]? = some t0) :
    Calls Try.prog 57 #[.pointer (some ⟨g, 0, none⟩), .int .i64 i] w (RepEnd base g gs cap l vs V (Oz.foldR l i) w) := by
  have hil := (List.getElem?_eq_some_iff.1 hs).1
  have hbase := h.base_le
  have x0 := h.ed.cell 0
  simp only [List.getElem?_toArray, List.getElem?_cons_zero] at x0
  obtain ⟨v, hv, ⟨y0, y1, y2, y3, y4⟩, ho⟩ := h.at_ hs
  obtain ⟨A, c, rfl⟩ := own_form ho
  obtain ⟨R, hR⟩ : ∃ R, R = Oz.foldR l i := ⟨_, rfl⟩
  rw [← hR]
  unfold Oz.foldR at hR
  rw [at_get hs] at hR
  obtain ⟨n, hn⟩ : ∃ n, n = l.length := ⟨_, rfl⟩
  have HI : Hid (i < l.length) := Lib.hid hil
  rw [← hn] at hil x0
  have HH := Lib.hid h
  have q0 : (i : Int) < (n : Int) := by omega
  have q1 : (0 : Int) ≤ (i : Int) := by omega
  have hgl := h.ed.lt
  have hgsl := h.gs_lt
  obtain ⟨num, hnum⟩ : ∃ num, num = s.num := ⟨_, rfl⟩
  obtain ⟨text, htext⟩ : ∃ text, text = s.text := ⟨_, rfl⟩
  obtain ⟨ty, hty⟩ : ∃ ty, ty = s.ty := ⟨_, rfl⟩
  obtain ⟨k, hk⟩ : ∃ k, k = s.args.length := ⟨_, rfl⟩
  rw [← hnum] at y2
  rw [← htext] at y3
  rw [← hty] at y4
  rw [← hk] at y1
  obtain ⟨q, c', hvq, _, hbq, hql, hc⟩ := own_at ho (by omega)
  injection hvq with hA hkk hcc
  clear hkk
  subst hA hcc
  have a0 : w.cell? ⟨q, 0, none⟩ = some (.int .i64 j0) := hc 0 _ (by rw [List.getElem?_map, hj0]; rfl)
  have ea0 : Oz.arg s 0 = (j0 : Int) := by unfold Oz.arg; rw [List.getD_eq_getElem?_getD, hj0]; rfl
  have p0 : (0 : Int) < (k : Int) := by omega
  have pp0 : 0 < k := by omega
  have HN0 := Lib.hid (fun w h => isString_step g gs cap j0 l V t0 w h ht0)
  dsimp only at hR
  rw [hop, if_neg (by decide), if_pos rfl, ea0] at hR
  unfold Oz.strR at hR
  rw [at_get ht0] at hR
  rw [hop] at y0
  unfold Oz.oLen at y0
  obtain ⟨v0, hv0, ⟨_, _, _, g3, _⟩, _⟩ := h.at_ ht0
  have hjl := (List.getElem?_eq_some_iff.1 ht0).1
  rw [← hn] at hjl
  have q2 : (j0 : Int) < (n : Int) := by omega
  have q3 : (0 : Int) ≤ (j0 : Int) := by omega
  obtain ⟨T, hT⟩ : ∃ T, T = t0.text := ⟨_, rfl⟩
  rw [← hT] at g3 hR
  have HTT := Lib.hid hT
  have HR := Lib.hid hR
  have HX0 := Lib.hid x0
  have HG3 := Lib.hid g3
  have HY : Hid (w.cell? ⟨gs, i * 5, none⟩ = some (.string ⟨#[108, 101, 110]⟩) ∧ w.cell? ⟨gs, i * 5 + 1, none⟩ = some (.slice (some ⟨q, 0, none⟩) k c) ∧ w.cell? ⟨gs, i * 5 + 2, none⟩ = some (.int .i64 num) ∧ w.cell? ⟨gs, i * 5 + 3, none⟩ = some (.string ⟨text.toArray⟩) ∧ w.cell? ⟨gs, i * 5 + 4, none⟩ = some (.int .i64 ty)) := Lib.hid ⟨y0, y1, y2, y3, y4⟩
  have HA0 := Lib.hid a0
  clear h hs hv ho hn hop hl hj0 ht0 hk hnum htext hty hc ea0 a0 hR hv0 g3 hjl hT
  go_enter Try.func57, Try.ntmps57
  go_upto_region 19 with (fail)
  obtain ⟨w1, hw1⟩ : ∃ w1, w1 = w.alloc (.cells #[.string ⟨#[108, 101, 110]⟩, .slice (some ⟨q, 0, none⟩) k c, .int .i64 num, .string ⟨text.toArray⟩, .int .i64 ty] 25) := ⟨_, rfl⟩
  rw [← hw1]
  have hb1 : Below w.heap.size w w1 := by rw [hw1]; exact below_alloc _ _
  have hblk : Blk w1 w.heap.size 25 #[.string ⟨#[108, 101, 110]⟩, .slice (some ⟨q, 0, none⟩) k c, .int .i64 num, .string ⟨text.toArray⟩, .int .i64 ty] := by rw [hw1]; exact Blk.new _ _ _
  have HB1 := Lib.hid hb1
  have HS1 := Lib.hid hblk
  have s1 := hblk.cell 1
  simp only [List.getElem?_toArray, List.getElem?_cons_zero, List.getElem?_cons_succ] at s1
  have b0 := (hb1.cell (p := ⟨q, 0, none⟩) hql).trans HA0.out
  have HC0 := Lib.hid (HN0.out w1 (HH.out.below hb1).edAt)
  clear hw1 hb1 hblk x0 y0 y1 y2 y3 y4 HN0
  go_wp2_with fail
  refine HC0.out.mono ?_
  rintro e w2 ⟨rfl, hb2⟩
  have HB2 := Lib.hid (HB1.out.trans (hb2.mono HB1.out.size))
  have hS2 := HS1.out.below hb2 HS1.out.lt
  have s2 := hS2.cell 0
  simp only [List.getElem?_toArray, List.getElem?_cons_zero] at s2
  have g3 := (HB2.out.cell (p := ⟨gs, _, none⟩) hgsl).trans HG3.out
  have g0 := (HB2.out.cell (p := ⟨g, 0, none⟩) hgl).trans HX0.out
  clear hb2 hS2 s1 b0 HC0 HB1 HS1
  rw [← HTT.out]
  obtain ⟨z0, hz0⟩ : ∃ z, z = decide (t0.op = nString ∧ T.length ≤ 65536) := ⟨_, rfl⟩
  rw [← hz0] at HR ⊢
  have HZ0 := Lib.hid hz0
  clear hz0
  cases z0 with
  | false =>
    have HRN : Hid (R = none) := Lib.hid (by rw [HR.out]; rfl)
    go_wp2_with fail
    go_ret
    unfold RepEnd
    rw [HRN.out]
    exact ⟨rfl, HB2.out⟩
  | true =>
    have HRN : Hid (R = some (l.set i (Oz.mk nNumber [] T.length [] 1))) := Lib.hid (by rw [HR.out]; rfl)
    clear g0
    have g0 := (HB2.out.cell (p := ⟨g, 0, none⟩) hgl).trans HX0.out
    have HW := HB2
    have hcW := fun m => HW.out.cell (p := ⟨gs, m, none⟩) hgsl
    have c0 := (HW.out.cell (p := ⟨g, 0, none⟩) hgl).trans HX0.out
    have d0 := (hcW _).trans HY.out.1
    have d1 := (hcW _).trans HY.out.2.1
    have d2 := (hcW _).trans HY.out.2.2.1
    have d3 := (hcW _).trans HY.out.2.2.2.1
    have d4 := (hcW _).trans HY.out.2.2.2.2
    obtain ⟨f0, f1, f2, f3, f4⟩ : w2.frozen? ⟨gs, i * 5, none⟩ = false ∧ w2.frozen? ⟨gs, i * 5 + 1, none⟩ = false ∧ w2.frozen? ⟨gs, i * 5 + 2, none⟩ = false ∧ w2.frozen? ⟨gs, i * 5 + 3, none⟩ = false ∧ w2.frozen? ⟨gs, i * 5 + 4, none⟩ = false := by
      obtain ⟨cs, e1, _⟩ := (HH.out.below HW.out).blk
      exact ⟨e1.frozen _, e1.frozen _, e1.frozen _, e1.frozen _, e1.frozen _⟩
    have hp := HH.out.putFresh HW.out HI.out (Oz.mk nNumber [] T.length [] 1) (.slice none 0 0) (World.ownsRow_nil _ _ _ _)
    have HP := Lib.hid hp.1
    have HF := Lib.hid hp.2
    clear hp hcW
    go_wp2_with fail
    go_ret
    unfold RepEnd
    rw [HRN.out]
    exact ⟨rfl, ⟨_, HP.out⟩, HF.out⟩
set_option maxRecDepth 100000 in
set_option maxHeartbeats 8000000 in
theorem fold_lines (base g gs cap i : Nat) (l : List St) (vs : List Value) (V : Value) (s : St) (w : World) (h : EdX w base g gs cap l vs V) (hs : l[i]? = some s) (hop : s.op = Oz.oLines) (hl : s.args.length = 1) (j0 : Nat) (t0 : St) (hj0 : s.args[0]? = some (j0 : Int)) (ht0 : l[j0]? = some t0) :
    Calls Try.prog 57 #[.pointer (some ⟨g, 0, none⟩), .int .i64 i] w (RepEnd base g gs cap l vs V (Oz.foldR l i) w) := by
  have hil := (List.getElem?_eq_some_iff.1 hs).1
  have hbase := h.base_le
  have x0 := h.ed.cell 0
  simp only [List.getElem?_toArray, List.getElem?_cons_zero] at x0
  obtain ⟨v, hv, ⟨y0, y1, y2, y3, y4⟩, ho⟩ := h.at_ hs
  obtain ⟨A, c, rfl⟩ := own_form ho
  obtain ⟨R, hR⟩ : ∃ R, R = Oz.foldR l i := ⟨_, rfl⟩
  rw [← hR]
  unfold Oz.foldR at hR
  rw [at_get hs] at hR
  obtain ⟨n, hn⟩ : ∃ n, n = l.length := ⟨_, rfl⟩
  have HI : Hid (i < l.length) := Lib.hid hil
  rw [← hn] at hil x0
  have HH := Lib.hid h
  have q0 : (i : Int) < (n : Int) := by omega
  have q1 : (0 : Int) ≤ (i : Int) := by omega
  have hgl := h.ed.lt
  have hgsl := h.gs_lt
  obtain ⟨num, hnum⟩ : ∃ num, num = s.num := ⟨_, rfl⟩
  obtain ⟨text, htext⟩ : ∃ text, text = s.text := ⟨_, rfl⟩
  obtain ⟨ty, hty⟩ : ∃ ty, ty = s.ty := ⟨_, rfl⟩
  obtain ⟨k, hk⟩ : ∃ k, k = s.args.length := ⟨_, rfl⟩
  rw [← hnum] at y2
  rw [← htext] at y3
  rw [← hty] at y4
  rw [← hk] at y1
  obtain ⟨q, c', hvq, _, hbq, hql, hc⟩ := own_at ho (by omega)
  injection hvq with hA hkk hcc
  clear hkk
  subst hA hcc
  have a0 : w.cell? ⟨q, 0, none⟩ = some (.int .i64 j0) := hc 0 _ (by rw [List.getElem?_map, hj0]; rfl)
  have ea0 : Oz.arg s 0 = (j0 : Int) := by unfold Oz.arg; rw [List.getD_eq_getElem?_getD, hj0]; rfl
  have p0 : (0 : Int) < (k : Int) := by omega
  have pp0 : 0 < k := by omega
  have HN0 := Lib.hid (fun w h => isString_step g gs cap j0 l V t0 w h ht0)
  dsimp only at hR
  rw [hop, if_neg (by decide), if_neg (by decide), if_pos rfl, ea0] at hR
  unfold Oz.strR at hR
  rw [at_get ht0] at hR
  rw [hop] at y0
  unfold Oz.oLines at y0
  obtain ⟨v0, hv0, ⟨_, _, _, g3, _⟩, _⟩ := h.at_ ht0
  have hjl := (List.getElem?_eq_some_iff.1 ht0).1
  rw [← hn] at hjl
  have q2 : (j0 : Int) < (n : Int) := by omega
  have q3 : (0 : Int) ≤ (j0 : Int) := by omega
  obtain ⟨T, hT⟩ : ∃ T, T = t0.text := ⟨_, rfl⟩
  rw [← hT] at g3 hR
  have HTT := Lib.hid hT
  have HR := Lib.hid hR
  have HX0 := Lib.hid x0
  have HG3 := Lib.hid g3
  have HY : Hid (w.cell? ⟨gs, i * 5, none⟩ = some (.string ⟨#[108, 105, 110, 101, 115]⟩) ∧ w.cell? ⟨gs, i * 5 + 1, none⟩ = some (.slice (some ⟨q, 0, none⟩) k c) ∧ w.cell? ⟨gs, i * 5 + 2, none⟩ = some (.int .i64 num) ∧ w.cell? ⟨gs, i * 5 + 3, none⟩ = some (.string ⟨text.toArray⟩) ∧ w.cell? ⟨gs, i * 5 + 4, none⟩ = some (.int .i64 ty)) := Lib.hid ⟨y0, y1, y2, y3, y4⟩
  have HA0 := Lib.hid a0
  clear h hs hv ho hn hop hl hj0 ht0 hk hnum htext hty hc ea0 a0 hR hv0 g3 hjl hT
  go_enter Try.func57, Try.ntmps57
  go_upto_region 19 with (fail)
  obtain ⟨w1, hw1⟩ : ∃ w1, w1 = w.alloc (.cells #[.string ⟨#[108, 105, 110, 101, 115]⟩, .slice (some ⟨q, 0, none⟩) k c, .int .i64 num, .string ⟨text.toArray⟩, .int .i64 ty] 25) := ⟨_, rfl⟩
  rw [← hw1]
  have hb1 : Below w.heap.size w w1 := by rw [hw1]; exact below_alloc _ _
  have hblk : Blk w1 w.heap.size 25 #[.string ⟨#[108, 105, 110, 101, 115]⟩, .slice (some ⟨q, 0, none⟩) k c, .int .i64 num, .string ⟨text.toArray⟩, .int .i64 ty] := by rw [hw1]; exact Blk.new _ _ _
  have HB1 := Lib.hid hb1
  have HS1 := Lib.hid hblk
  have s1 := hblk.cell 1
  simp only [List.getElem?_toArray, List.getElem?_cons_zero, List.getElem?_cons_succ] at s1
  have b0 := (hb1.cell (p := ⟨q, 0, none⟩) hql).trans HA0.out
  have HC0 := Lib.hid (HN0.out w1 (HH.out.below hb1).edAt)
  clear hw1 hb1 hblk x0 y0 y1 y2 y3 y4 HN0
  go_wp2_with fail
  refine HC0.out.mono ?_
  rintro e w2 ⟨rfl, hb2⟩
  have HB2 := Lib.hid (HB1.out.trans (hb2.mono HB1.out.size))
  have hS2 := HS1.out.below hb2 HS1.out.lt
  have s2 := hS2.cell 0
  simp only [List.getElem?_toArray, List.getElem?_cons_zero] at s2
  have g3 := (HB2.out.cell (p := ⟨gs, _, none⟩) hgsl).trans HG3.out
  have g0 := (HB2.out.cell (p := ⟨g, 0, none⟩) hgl).trans HX0.out
  clear hb2 hS2 s1 b0 HC0 HB1 HS1
  rw [← HTT.out]
  obtain ⟨z0, hz0⟩ : ∃ z, z = decide (t0.op = nString ∧ T.length ≤ 65536) := ⟨_, rfl⟩
  rw [← hz0] at HR ⊢
  have HZ0 := Lib.hid hz0
  clear hz0
  cases z0 with
  | false =>
    have HRN : Hid (R = none) := Lib.hid (by rw [HR.out]; rfl)
    go_wp2_with fail
    go_ret
    unfold RepEnd
    rw [HRN.out]
    exact ⟨rfl, HB2.out⟩
  | true =>
    have hz := (of_decide_eq_true HZ0.out.symm).2
    have hcl : (T.filter fun b => b = 10).length ≤ T.length := List.length_filter_le _ _
    obtain ⟨m, hm⟩ : ∃ m, m = (T.filter fun b => b = 10).length := ⟨_, rfl⟩
    rw [← hm] at hcl
    have HRN : Hid (R = some (l.set i (Oz.mk nNumber [] (m + 1) [] 1))) := Lib.hid (by rw [HR.out, hm]; rfl)
    have HCN : Hid (∀ w : World, Calls Try.prog 70 #[.string ⟨T.toArray⟩, .string ⟨#[10]⟩] w fun e w' => e = .returned (.int .i64 m) ∧ w' = w) := Lib.hid (fun w => by
      refine (Try.strings_Count_one ⟨T.toArray⟩ 10 w).mono ?_
      rintro e w' ⟨he, hw⟩
      refine ⟨?_, hw⟩
      rw [he, hm]
      congr 2
      unfold Lib.countByte
      rw [List.count_eq_length_filter]
      rfl)
    have hw := IntWalk.i64_in ((m : Int) + 1) (by omega)
    clear hm hz
    go_wp2_with fail
    refine (HCN.out _).mono ?_
    rintro e w9 ⟨rfl, hw9⟩
    rw [hw9]
    clear hw9 w9
    clear g3 s2 g0
    have HW := HB2
    have hcW := fun m => HW.out.cell (p := ⟨gs, m, none⟩) hgsl
    have c0 := (HW.out.cell (p := ⟨g, 0, none⟩) hgl).trans HX0.out
    have d0 := (hcW _).trans HY.out.1
    have d1 := (hcW _).trans HY.out.2.1
    have d2 := (hcW _).trans HY.out.2.2.1
    have d3 := (hcW _).trans HY.out.2.2.2.1
    have d4 := (hcW _).trans HY.out.2.2.2.2
    obtain ⟨f0, f1, f2, f3, f4⟩ : w2.frozen? ⟨gs, i * 5, none⟩ = false ∧ w2.frozen? ⟨gs, i * 5 + 1, none⟩ = false ∧ w2.frozen? ⟨gs, i * 5 + 2, none⟩ = false ∧ w2.frozen? ⟨gs, i * 5 + 3, none⟩ = false ∧ w2.frozen? ⟨gs, i * 5 + 4, none⟩ = false := by
      obtain ⟨cs, e1, _⟩ := (HH.out.below HW.out).blk
      exact ⟨e1.frozen _, e1.frozen _, e1.frozen _, e1.frozen _, e1.frozen _⟩
    have hp := HH.out.putFresh HW.out HI.out (Oz.mk nNumber [] (m + 1) [] 1) (.slice none 0 0) (World.ownsRow_nil _ _ _ _)
    have HP := Lib.hid hp.1
    have HF := Lib.hid hp.2
    clear hp hcW
    go_wp2_with fail
    go_ret
    unfold RepEnd
    rw [HRN.out]
    exact ⟨rfl, ⟨_, HP.out⟩, HF.out⟩
end Go.Proofs.Ytniefnjcimempaa
namespace Go.Proofs.Ytniefnjcimempaa
open Go.RowKit
set_option maxRecDepth 100000 in
set_option maxHeartbeats 8000000 in
theorem fold_cat (base g gs cap i : Nat) (l : List St) (vs : List Value) (V : Value) (s : St) (w : World) (h : EdX w base g gs cap l vs V) (hs : l[i]? = some s) (hop : s.op = Oz.oCat) (hl : s.args.length = 2) (j0 j1 : Nat) (t0 t1 : St) (hj0 : s.args[0]? = some (j0 : Int)) (hj1 : s.args[1]? = some (j1 : Int)) (ht0 : l[j0]? = some t0) (ht1 : l[j1]? = some t1) :
    Calls Try.prog 57 #[.pointer (some ⟨g, 0, none⟩), .int .i64 i] w (RepEnd base g gs cap l vs V (Oz.foldR l i) w) := by
  have hil := (List.getElem?_eq_some_iff.1 hs).1
  have hbase := h.base_le
  have x0 := h.ed.cell 0
  simp only [List.getElem?_toArray, List.getElem?_cons_zero] at x0
  obtain ⟨v, hv, ⟨y0, y1, y2, y3, y4⟩, ho⟩ := h.at_ hs
  obtain ⟨A, c, rfl⟩ := own_form ho
  obtain ⟨R, hR⟩ : ∃ R, R = Oz.foldR l i := ⟨_, rfl⟩
  rw [← hR]
  unfold Oz.foldR at hR
  rw [at_get hs] at hR
  obtain ⟨n, hn⟩ : ∃ n, n = l.length := ⟨_, rfl⟩
  have HI : Hid (i < l.length) := Lib.hid hil
  rw [← hn] at hil x0
  have HH := Lib.hid h
  have q0 : (i : Int) < (n : Int) := by omega
  have q1 : (0 : Int) ≤ (i : Int) := by omega
  have hgl := h.ed.lt
  have hgsl := h.gs_lt
  obtain ⟨num, hnum⟩ : ∃ num, num = s.num := ⟨_, rfl⟩
  obtain ⟨text, htext⟩ : ∃ text, text = s.text := ⟨_, rfl⟩
  obtain ⟨ty, hty⟩ : ∃ ty, ty = s.ty := ⟨_, rfl⟩
  obtain ⟨k, hk⟩ : ∃ k, k = s.args.length := ⟨_, rfl⟩
  rw [← hnum] at y2
  rw [← htext] at y3
  rw [← hty] at y4
  rw [← hk] at y1
  obtain ⟨q, c', hvq, _, hbq, hql, hc⟩ := own_at ho (by omega)
  injection hvq with hA hkk hcc
  clear hkk
  subst hA hcc
  have a0 : w.cell? ⟨q, 0, none⟩ = some (.int .i64 j0) := hc 0 _ (by rw [List.getElem?_map, hj0]; rfl)
  have ea0 : Oz.arg s 0 = (j0 : Int) := by unfold Oz.arg; rw [List.getD_eq_getElem?_getD, hj0]; rfl
  have p0 : (0 : Int) < (k : Int) := by omega
  have pp0 : 0 < k := by omega
  have a1 : w.cell? ⟨q, 1, none⟩ = some (.int .i64 j1) := hc 1 _ (by rw [List.getElem?_map, hj1]; rfl)
  have ea1 : Oz.arg s 1 = (j1 : Int) := by unfold Oz.arg; rw [List.getD_eq_getElem?_getD, hj1]; rfl
  have p1 : (1 : Int) < (k : Int) := by omega
  have pp1 : 1 < k := by omega
  have HN0 := Lib.hid (fun w h => isString_step g gs cap j0 l V t0 w h ht0)
  have HN1 := Lib.hid (fun w h => isString_step g gs cap j1 l V t1 w h ht1)
  dsimp only at hR
  rw [hop, if_neg (by decide), if_neg (by decide), if_neg (by decide), if_pos rfl, ea0, ea1] at hR
  unfold Oz.strR at hR
  rw [at_get ht0, at_get ht1] at hR
  rw [hop] at y0
  unfold Oz.oCat at y0
  obtain ⟨v0, hv0, ⟨_, _, _, g3, _⟩, _⟩ := h.at_ ht0
  obtain ⟨v1, hv1, ⟨_, _, _, g4, _⟩, _⟩ := h.at_ ht1
  have hjl := (List.getElem?_eq_some_iff.1 ht0).1
  have hjl1 := (List.getElem?_eq_some_iff.1 ht1).1
  rw [← hn] at hjl hjl1
  have q2 : (j0 : Int) < (n : Int) := by omega
  have q3 : (0 : Int) ≤ (j0 : Int) := by omega
  have q4 : (j1 : Int) < (n : Int) := by omega
  have q5 : (0 : Int) ≤ (j1 : Int) := by omega
  have q6 : j0 < n := by omega
  have q7 : j1 < n := by omega
  have q8 : i < n := by omega
  obtain ⟨T, hT⟩ : ∃ T, T = t0.text := ⟨_, rfl⟩
  obtain ⟨U, hU⟩ : ∃ U, U = t1.text := ⟨_, rfl⟩
  rw [← hT] at g3 hR
  rw [← hU] at g4 hR
  have HTT := Lib.hid hT
  have HUU := Lib.hid hU
  have HR := Lib.hid hR
  have HX0 := Lib.hid x0
  have HG3 := Lib.hid g3
  have HG4 := Lib.hid g4
  have HY : Hid (w.cell? ⟨gs, i * 5, none⟩ = some (.string ⟨#[43, 43]⟩) ∧ w.cell? ⟨gs, i * 5 + 1, none⟩ = some (.slice (some ⟨q, 0, none⟩) k c) ∧ w.cell? ⟨gs, i * 5 + 2, none⟩ = some (.int .i64 num) ∧ w.cell? ⟨gs, i * 5 + 3, none⟩ = some (.string ⟨text.toArray⟩) ∧ w.cell? ⟨gs, i * 5 + 4, none⟩ = some (.int .i64 ty)) := Lib.hid ⟨y0, y1, y2, y3, y4⟩
  have HA0 := Lib.hid a0
  have HA1 := Lib.hid a1
  clear h hs hv ho hn hop hl hj0 ht0 hj1 ht1 hk hnum htext hty hc ea0 a0 ea1 a1 hR hv0 hv1 g3 g4 hjl hjl1 hT hU
  go_enter Try.func57, Try.ntmps57
  go_upto_region 28 with (fail)
  obtain ⟨w1, hw1⟩ : ∃ w1, w1 = w.alloc (.cells #[.string ⟨#[43, 43]⟩, .slice (some ⟨q, 0, none⟩) k c, .int .i64 num, .string ⟨text.toArray⟩, .int .i64 ty] 25) := ⟨_, rfl⟩
  rw [← hw1]
  have hb1 : Below w.heap.size w w1 := by rw [hw1]; exact below_alloc _ _
  have hblk : Blk w1 w.heap.size 25 #[.string ⟨#[43, 43]⟩, .slice (some ⟨q, 0, none⟩) k c, .int .i64 num, .string ⟨text.toArray⟩, .int .i64 ty] := by rw [hw1]; exact Blk.new _ _ _
  have HB1 := Lib.hid hb1
  have HS1 := Lib.hid hblk
  have s1 := hblk.cell 1
  simp only [List.getElem?_toArray, List.getElem?_cons_zero, List.getElem?_cons_succ] at s1
  have b0 := (hb1.cell (p := ⟨q, 0, none⟩) hql).trans HA0.out
  have b1 := (hb1.cell (p := ⟨q, 1, none⟩) hql).trans HA1.out
  clear hw1 hb1 hblk x0 y0 y1 y2 y3 y4
  go_wp2_with fail
  go_quiet (fail)
  go_upto_region 29 with (fail)
  obtain ⟨w2, hw2⟩ : ∃ w2, w2 = w1.drewN nq := ⟨_, rfl⟩
  rw [← hw2]
  have HB2 : Hid (Below w.heap.size w w2) := Lib.hid (by rw [hw2]; exact below_drewN HB1.out _)
  clear hw2 s1 b0 b1 HB1 HS1
  have g3 := (HB2.out.cell (p := ⟨gs, _, none⟩) hgsl).trans HG3.out
  have g4 := (HB2.out.cell (p := ⟨gs, _, none⟩) hgsl).trans HG4.out
  have g0 := (HB2.out.cell (p := ⟨g, 0, none⟩) hgl).trans HX0.out
  obtain ⟨z0, hz0⟩ : ∃ z, z = decide (t0.op = nString ∧ T.length ≤ 65536) := ⟨_, rfl⟩
  obtain ⟨z1, hz1⟩ : ∃ z, z = decide (t1.op = nString ∧ U.length ≤ 65536) := ⟨_, rfl⟩
  rw [← hz0, ← hz1] at HR
  have HS0 : Hid (∀ d os, Calls Try.prog 77 #[.pointer (some ⟨g, 0, none⟩), .int .i64 j0] (Go.Sort.grow (redrawn w2 d) os) fun e w'' => e = .returned (.bool z0) ∧ ∃ p : Regrown, w'' = Go.Sort.grow (redrawn w2 p.d) p.os) := Lib.hid (fun d os => Calls.regrown_of (by
    have h := HN0.out _ ((HH.out.below HB2.out).edAt.below (below_regrown w2 d os))
    rw [← HTT.out, ← hz0] at h
    exact h))
  have HS1 : Hid (∀ d os, Calls Try.prog 77 #[.pointer (some ⟨g, 0, none⟩), .int .i64 j1] (Go.Sort.grow (redrawn w2 d) os) fun e w'' => e = .returned (.bool z1) ∧ ∃ p : Regrown, w'' = Go.Sort.grow (redrawn w2 p.d) p.os) := Lib.hid (fun d os => Calls.regrown_of (by
    have h := HN1.out _ ((HH.out.below HB2.out).edAt.below (below_regrown w2 d os))
    rw [← HUU.out, ← hz1] at h
    exact h))
  have HZ0 := Lib.hid hz0
  have HZ1 := Lib.hid hz1
  clear HN0 HN1 hz0 hz1
  cases z0 with
  | false =>
    have HRN : Hid (R = none) := Lib.hid (by rw [HR.out]; rfl)
    have k0 := cell_regrown g0
    have k1 := cell_regrown g3
    have k2 := cell_regrown g4
    go_wp2_with fail
    refine wp_region_quiet_below (by kernel_rfl) (by kernel_rfl) ?_
    repeat (go_big_quiet_step (first | (go_at_call_of 77 (Value.int .i64 (j0 : Int)); exact HS0.out _ _) | (go_at_call_of 77 (Value.int .i64 (j1 : Int)); exact HS1.out _ _)))
    refine wpQuiet_nil ?_
    intro _ hw'
    obtain ⟨⟨dq, osq⟩, hw''⟩ := hw'
    subst hw''
    have hq := below_regrown w2 dq osq
    have HB3 := Lib.hid (HB2.out.trans (hq.mono HB2.out.size))
    simp only
    generalize Go.Sort.grow (redrawn w2 dq) osq = w3 at *
    clear hq k0 k1 k2 g0 g3 g4
    go_wp2_with fail
    go_ret
    unfold RepEnd
    rw [HRN.out]
    exact ⟨rfl, HB3.out⟩
  | true =>
  cases z1 with
  | false =>
    have HRN : Hid (R = none) := Lib.hid (by rw [HR.out]; rfl)
    have k0 := cell_regrown g0
    have k1 := cell_regrown g3
    have k2 := cell_regrown g4
    go_wp2_with fail
    refine wp_region_quiet_below (by kernel_rfl) (by kernel_rfl) ?_
    repeat (go_big_quiet_step (first | (go_at_call_of 77 (Value.int .i64 (j0 : Int)); exact HS0.out _ _) | (go_at_call_of 77 (Value.int .i64 (j1 : Int)); exact HS1.out _ _)))
    refine wpQuiet_nil ?_
    intro _ hw'
    obtain ⟨⟨dq, osq⟩, hw''⟩ := hw'
    subst hw''
    have hq := below_regrown w2 dq osq
    have HB3 := Lib.hid (HB2.out.trans (hq.mono HB2.out.size))
    simp only
    generalize Go.Sort.grow (redrawn w2 dq) osq = w3 at *
    clear hq k0 k1 k2 g0 g3 g4
    go_wp2_with fail
    go_ret
    unfold RepEnd
    rw [HRN.out]
    exact ⟨rfl, HB3.out⟩
  | true =>
  have hzT := (of_decide_eq_true HZ0.out.symm).2
  have hzU := (of_decide_eq_true HZ1.out.symm).2
  have hw := IntWalk.i64_in ((T.length : Int) + (U.length : Int)) (by omega)
  by_cases hlen : T.length + U.length ≤ 65536
  · obtain ⟨TU, hTU⟩ : ∃ TU, TU = T ++ U := ⟨_, rfl⟩
    have HRN : Hid (R = some (l.set i (Oz.mk nString [] 0 TU 3))) := Lib.hid (by rw [HR.out, if_pos (by simpa using hlen), hTU])
    have hcat : ∀ W : World, (Op.stringOp .add ⟨T.toArray⟩ ⟨U.toArray⟩).run Try.prog W = .ok (.string ⟨TU.toArray⟩) W := fun W => by
      rw [run_string_add_sum W _ _ (by simp [ByteArray.size]; omega), ByteArray.mk_append_mk, hTU]
    clear hTU
    have hd : (T.length : Int) + (U.length : Int) ≤ 65536 := by omega
    have k0 := cell_regrown g0
    have k1 := cell_regrown g3
    have k2 := cell_regrown g4
    go_wp2_with fail
    refine wp_region_quiet_below (by kernel_rfl) (by kernel_rfl) ?_
    repeat (go_big_quiet_step (first | (go_at_call_of 77 (Value.int .i64 (j0 : Int)); exact HS0.out _ _) | (go_at_call_of 77 (Value.int .i64 (j1 : Int)); exact HS1.out _ _)))
    refine wpQuiet_nil ?_
    intro _ hw'
    obtain ⟨⟨dq, osq⟩, hw''⟩ := hw'
    subst hw''
    have hq := below_regrown w2 dq osq
    have HB3 := Lib.hid (HB2.out.trans (hq.mono HB2.out.size))
    simp only
    generalize Go.Sort.grow (redrawn w2 dq) osq = w3 at *
    clear hq k0 k1 k2 g0 g3 g4
    have m0 := (HB3.out.cell (p := ⟨gs, _, none⟩) hgsl).trans HG3.out
    have m1 := (HB3.out.cell (p := ⟨gs, _, none⟩) hgsl).trans HG4.out
    have HW := HB3
    have hcW := fun m => HW.out.cell (p := ⟨gs, m, none⟩) hgsl
    have c0 := (HW.out.cell (p := ⟨g, 0, none⟩) hgl).trans HX0.out
    have d0 := (hcW _).trans HY.out.1
    have d1 := (hcW _).trans HY.out.2.1
    have d2 := (hcW _).trans HY.out.2.2.1
    have d3 := (hcW _).trans HY.out.2.2.2.1
    have d4 := (hcW _).trans HY.out.2.2.2.2
    obtain ⟨f0, f1, f2, f3, f4⟩ : w3.frozen? ⟨gs, i * 5, none⟩ = false ∧ w3.frozen? ⟨gs, i * 5 + 1, none⟩ = false ∧ w3.frozen? ⟨gs, i * 5 + 2, none⟩ = false ∧ w3.frozen? ⟨gs, i * 5 + 3, none⟩ = false ∧ w3.frozen? ⟨gs, i * 5 + 4, none⟩ = false := by
      obtain ⟨cs, e1, _⟩ := (HH.out.below HW.out).blk
      exact ⟨e1.frozen _, e1.frozen _, e1.frozen _, e1.frozen _, e1.frozen _⟩
    have hp := HH.out.putFresh HW.out HI.out (Oz.mk nString [] 0 TU 3) (.slice none 0 0) (World.ownsRow_nil _ _ _ _)
    have HP := Lib.hid hp.1
    have HF := Lib.hid hp.2
    clear hp hcW
    go_wp2_with fail
    go_still_tail 24, (by kernel_rfl)
    change wpList _ _ _ _ _ w3.drew
    obtain ⟨w4, hw4⟩ : ∃ w4, w4 = w3.drew := ⟨_, rfl⟩
    rw [← hw4]
    have HB4 : Hid (Below w.heap.size w w4) := Lib.hid (by rw [hw4]; exact HB3.out.drew)
    clear hw4 c0 d0 d1 d2 d3 d4 f0 f1 f2 f3 f4 HP HF m0 m1
    have HW := HB4
    have hcW := fun m => HW.out.cell (p := ⟨gs, m, none⟩) hgsl
    have c0 := (HW.out.cell (p := ⟨g, 0, none⟩) hgl).trans HX0.out
    have d0 := (hcW _).trans HY.out.1
    have d1 := (hcW _).trans HY.out.2.1
    have d2 := (hcW _).trans HY.out.2.2.1
    have d3 := (hcW _).trans HY.out.2.2.2.1
    have d4 := (hcW _).trans HY.out.2.2.2.2
    obtain ⟨f0, f1, f2, f3, f4⟩ : w4.frozen? ⟨gs, i * 5, none⟩ = false ∧ w4.frozen? ⟨gs, i * 5 + 1, none⟩ = false ∧ w4.frozen? ⟨gs, i * 5 + 2, none⟩ = false ∧ w4.frozen? ⟨gs, i * 5 + 3, none⟩ = false ∧ w4.frozen? ⟨gs, i * 5 + 4, none⟩ = false := by
      obtain ⟨cs, e1, _⟩ := (HH.out.below HW.out).blk
      exact ⟨e1.frozen _, e1.frozen _, e1.frozen _, e1.frozen _, e1.frozen _⟩
    have hp := HH.out.putFresh HW.out HI.out (Oz.mk nString [] 0 TU 3) (.slice none 0 0) (World.ownsRow_nil _ _ _ _)
    have HP := Lib.hid hp.1
    have HF := Lib.hid hp.2
    clear hp hcW
    go_wp2_with fail
    go_ret
    unfold RepEnd
    rw [HRN.out]
    exact ⟨rfl, ⟨_, HP.out⟩, HF.out⟩
  · have HRN : Hid (R = none) := Lib.hid (by rw [HR.out, if_neg (by simpa using hlen)])
    have hd : ¬ ((T.length : Int) + (U.length : Int) ≤ 65536) := by omega
    have k0 := cell_regrown g0
    have k1 := cell_regrown g3
    have k2 := cell_regrown g4
    go_wp2_with fail
    refine wp_region_quiet_below (by kernel_rfl) (by kernel_rfl) ?_
    repeat (go_big_quiet_step (first | (go_at_call_of 77 (Value.int .i64 (j0 : Int)); exact HS0.out _ _) | (go_at_call_of 77 (Value.int .i64 (j1 : Int)); exact HS1.out _ _)))
    refine wpQuiet_nil ?_
    intro _ hw'
    obtain ⟨⟨dq, osq⟩, hw''⟩ := hw'
    subst hw''
    have hq := below_regrown w2 dq osq
    have HB3 := Lib.hid (HB2.out.trans (hq.mono HB2.out.size))
    simp only
    generalize Go.Sort.grow (redrawn w2 dq) osq = w3 at *
    clear hq k0 k1 k2 g0 g3 g4
    go_wp2_with fail
    go_ret
    unfold RepEnd
    rw [HRN.out]
    exact ⟨rfl, HB3.out⟩
end Go.Proofs.Ytniefnjcimempaa
namespace Go.Proofs.Ytniefnjcimempaa
open Go.RowKit
set_option maxRecDepth 100000 in
set_option maxHeartbeats 4000000 in
theorem fold_no (base g gs cap i : Nat) (l : List St) (vs : List Value) (V : Value) (s : St) (w : World) (h : EdX w base g gs cap l vs V) (hs : l[i]? = some s) (h0 : s.op ≠ Oz.oMin) (h1 : s.op ≠ Oz.oMax) (h2 : s.op ≠ Oz.oAdd) (h3 : s.op ≠ Oz.oSub) (h4 : s.op ≠ Oz.oMul) (h5 : s.op ≠ Oz.oLen) (h6 : s.op ≠ Oz.oLines) (h7 : s.op ≠ Oz.oCat) :
    Calls Try.prog 57 #[.pointer (some ⟨g, 0, none⟩), .int .i64 i] w (RepEnd base g gs cap l vs V (Oz.foldR l i) w) := by
  have hil := (List.getElem?_eq_some_iff.1 hs).1
  have x0 := h.ed.cell 0
  simp only [List.getElem?_toArray, List.getElem?_cons_zero] at x0
  obtain ⟨v, hv, ⟨y0, y1, y2, y3, y4⟩, ho⟩ := h.at_ hs
  obtain ⟨A, c, rfl⟩ := own_form ho
  obtain ⟨R, hR⟩ : ∃ R, R = Oz.foldR l i := ⟨_, rfl⟩
  rw [← hR]
  unfold Oz.foldR at hR
  rw [at_get hs] at hR
  dsimp only at hR
  have HRN : Hid (R = none) := Lib.hid (by rw [hR, if_neg (by simp only [not_or]; exact ⟨h0, h1, h2, h3, h4⟩), if_neg h5, if_neg h6, if_neg h7])
  obtain ⟨n, hn⟩ : ∃ n, n = l.length := ⟨_, rfl⟩
  rw [← hn] at hil x0
  have q0 : (i : Int) < (n : Int) := by omega
  have q1 : (0 : Int) ≤ (i : Int) := by omega
  have e0 : (s.op == [109, 105, 110]) = false := beq_eq_false_iff_ne.2 h0
  have e1 : (s.op == [109, 97, 120]) = false := beq_eq_false_iff_ne.2 h1
  have e2 : (s.op == [43]) = false := beq_eq_false_iff_ne.2 h2
  have e3 : (s.op == [45]) = false := beq_eq_false_iff_ne.2 h3
  have e4 : (s.op == [42]) = false := beq_eq_false_iff_ne.2 h4
  have e5 : (s.op == [108, 101, 110]) = false := beq_eq_false_iff_ne.2 h5
  have e6 : (s.op == [108, 105, 110, 101, 115]) = false := beq_eq_false_iff_ne.2 h6
  have e7 : (s.op == [43, 43]) = false := beq_eq_false_iff_ne.2 h7
  clear h hs hv ho hn hR h0 h1 h2 h3 h4 h5 h6 h7
  go_enter Try.func57, Try.ntmps57
  go_wp2_with fail
  go_ret
  unfold RepEnd
  rw [HRN.out]
  exact ⟨rfl, below_alloc _ _⟩
theorem fold_any (base g gs cap i : Nat) (l : List St) (vs : List Value) (V : Value) (s : St) (w : World) (h : EdX w base g gs cap l vs V) (hs : l[i]? = some s) (hc : checkR l = 0) :
    Calls Try.prog 57 #[.pointer (some ⟨g, 0, none⟩), .int .i64 i] w (RepEnd base g gs cap l vs V (Oz.foldR l i) w) := by
  by_cases h0 : s.op = Oz.oMin
  · have hal := ok_arity hc hs 2 (by rw [h0]; kernel_rfl)
    obtain ⟨j0, t0, hj0, _, ht0, _, _⟩ := ok_at hc hs (k := 0) (by omega)
    obtain ⟨j1, t1, hj1, _, ht1, _, _⟩ := ok_at hc hs (k := 1) (by omega)
    obtain ⟨o0, f0⟩ := ok_step hc ht0
    obtain ⟨o1, f1⟩ := ok_step hc ht1
    exact fold_min base g gs cap i l vs V s w h hs h0 hal j0 j1 t0 t1 hj0 hj1 ht0 ht1 f0.num f1.num
  by_cases h1 : s.op = Oz.oMax
  · have hal := ok_arity hc hs 2 (by rw [h1]; kernel_rfl)
    obtain ⟨j0, t0, hj0, _, ht0, _, _⟩ := ok_at hc hs (k := 0) (by omega)
    obtain ⟨j1, t1, hj1, _, ht1, _, _⟩ := ok_at hc hs (k := 1) (by omega)
    obtain ⟨o0, f0⟩ := ok_step hc ht0
    obtain ⟨o1, f1⟩ := ok_step hc ht1
    exact fold_max base g gs cap i l vs V s w h hs h1 hal j0 j1 t0 t1 hj0 hj1 ht0 ht1 f0.num f1.num
  by_cases h2 : s.op = Oz.oAdd
  · have hal := ok_arity hc hs 2 (by rw [h2]; kernel_rfl)
    obtain ⟨j0, t0, hj0, _, ht0, _, _⟩ := ok_at hc hs (k := 0) (by omega)
    obtain ⟨j1, t1, hj1, _, ht1, _, _⟩ := ok_at hc hs (k := 1) (by omega)
    obtain ⟨o0, f0⟩ := ok_step hc ht0
    obtain ⟨o1, f1⟩ := ok_step hc ht1
    exact fold_add base g gs cap i l vs V s w h hs h2 hal j0 j1 t0 t1 hj0 hj1 ht0 ht1 f0.num f1.num
  by_cases h3 : s.op = Oz.oSub
  · have hal := ok_arity hc hs 2 (by rw [h3]; kernel_rfl)
    obtain ⟨j0, t0, hj0, _, ht0, _, _⟩ := ok_at hc hs (k := 0) (by omega)
    obtain ⟨j1, t1, hj1, _, ht1, _, _⟩ := ok_at hc hs (k := 1) (by omega)
    obtain ⟨o0, f0⟩ := ok_step hc ht0
    obtain ⟨o1, f1⟩ := ok_step hc ht1
    exact fold_sub base g gs cap i l vs V s w h hs h3 hal j0 j1 t0 t1 hj0 hj1 ht0 ht1 f0.num f1.num
  by_cases h4 : s.op = Oz.oMul
  · have hal := ok_arity hc hs 2 (by rw [h4]; kernel_rfl)
    obtain ⟨j0, t0, hj0, _, ht0, _, _⟩ := ok_at hc hs (k := 0) (by omega)
    obtain ⟨j1, t1, hj1, _, ht1, _, _⟩ := ok_at hc hs (k := 1) (by omega)
    obtain ⟨o0, f0⟩ := ok_step hc ht0
    obtain ⟨o1, f1⟩ := ok_step hc ht1
    exact fold_mul base g gs cap i l vs V s w h hs h4 hal j0 j1 t0 t1 hj0 hj1 ht0 ht1 f0.num f1.num
  by_cases h5 : s.op = Oz.oLen
  · have hal := ok_arity hc hs 1 (by rw [h5]; kernel_rfl)
    obtain ⟨j0, t0, hj0, _, ht0, _, _⟩ := ok_at hc hs (k := 0) (by omega)
    exact fold_len base g gs cap i l vs V s w h hs h5 hal j0 t0 hj0 ht0
  by_cases h6 : s.op = Oz.oLines
  · have hal := ok_arity hc hs 1 (by rw [h6]; kernel_rfl)
    obtain ⟨j0, t0, hj0, _, ht0, _, _⟩ := ok_at hc hs (k := 0) (by omega)
    exact fold_lines base g gs cap i l vs V s w h hs h6 hal j0 t0 hj0 ht0
  by_cases h7 : s.op = Oz.oCat
  · have hal := ok_arity hc hs 2 (by rw [h7]; kernel_rfl)
    obtain ⟨j0, t0, hj0, _, ht0, _, _⟩ := ok_at hc hs (k := 0) (by omega)
    obtain ⟨j1, t1, hj1, _, ht1, _, _⟩ := ok_at hc hs (k := 1) (by omega)
    exact fold_cat base g gs cap i l vs V s w h hs h7 hal j0 j1 t0 t1 hj0 hj1 ht0 ht1
  exact fold_no base g gs cap i l vs V s w h hs h0 h1 h2 h3 h4 h5 h6 h7
end Go.Proofs.Ytniefnjcimempaa
