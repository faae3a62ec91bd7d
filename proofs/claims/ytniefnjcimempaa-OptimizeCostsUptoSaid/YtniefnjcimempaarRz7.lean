/- The walk of optimize's rule neutral at any step (printed by gen_ozk.py). The walk of optimize's rule neutral at any step, its end (printed by gen_ozk.py). -/
import Derived.Test.YtniefnjcimempaarRz2
import Derived.BigQuiet
import Derived.StillTailTactics
namespace Go.Proofs.Ytniefnjcimempaa
open Go.RowKit
set_option maxRecDepth 100000 in
set_option maxHeartbeats 8000000 in
theorem neutral_add (base g gs cap i : Nat) (l : List St) (vs : List Value) (V : Value) (s : St) (w : World) (h : EdX w base g gs cap l vs V) (hs : l[i]? = some s) (hb : ∀ s ∈ l, s.args.length ≤ 3 ∧ ∀ a ∈ s.args, 0 ≤ a ∧ a ≤ 100000) (hop : s.op = Oz.oAdd) (hl : s.args.length = 2) (j0 j1 : Nat) (t0 t1 : St) (hj0 : s.args[0]? = some (j0 : Int)) (ht0 : l[j0]? = some t0) (hi0 : j0 < i) (hj1 : s.args[1]? = some (j1 : Int)) (ht1 : l[j1]? = some t1) (hi1 : j1 < i):
    Calls Try.prog 58 #[.pointer (some ⟨g, 0, none⟩), .int .i64 i] w (RepEnd base g gs cap l vs V (Oz.neutralR l i) w) := by
  have hil := (List.getElem?_eq_some_iff.1 hs).1
  have hbase := h.base_le
  have x0 := h.ed.cell 0
  simp only [List.getElem?_toArray, List.getElem?_cons_zero] at x0
  obtain ⟨v, hv, ⟨y0, y1, y2, y3, y4⟩, ho⟩ := h.at_ hs
  obtain ⟨A, c, rfl⟩ := own_form ho
  obtain ⟨R, hR⟩ : ∃ R, R = Oz.neutralR l i := ⟨_, rfl⟩
  rw [← hR]
  unfold Oz.neutralR at hR
  rw [at_get hs] at hR
  dsimp only at hR
  obtain ⟨n, hn⟩ : ∃ n, n = l.length := ⟨_, rfl⟩
  have HI : Hid (i < l.length) := Lib.hid hil
  rw [← hn] at hil x0
  have HH := Lib.hid h
  have HBB := Lib.hid hb
  have q0 : (i : Int) < (n : Int) := by omega
  have q1 : (0 : Int) ≤ (i : Int) := by omega
  have hgl := h.ed.lt
  have hgsl := h.gs_lt
  obtain ⟨num, hnum⟩ : ∃ num, num = s.num := ⟨_, rfl⟩
  obtain ⟨text, htext⟩ : ∃ text, text = s.text := ⟨_, rfl⟩
  obtain ⟨ty, hty⟩ : ∃ ty, ty = s.ty := ⟨_, rfl⟩
  obtain ⟨k, hk⟩ : ∃ k, k = s.args.length := ⟨_, rfl⟩
  rw [← hnum] at y2
  rw [← htext] at y3
  rw [← hty] at y4
  rw [← hk] at y1
  obtain ⟨q, c', hvq, _, hbq, hql, hc⟩ := own_at ho (by omega)
  injection hvq with hA hkk hcc
  clear hkk
  subst hA hcc
  have a0 : w.cell? ⟨q, 0, none⟩ = some (.int .i64 j0) := hc 0 _ (by rw [List.getElem?_map, hj0]; rfl)
  have ea0 : Oz.arg s 0 = (j0 : Int) := by unfold Oz.arg; rw [List.getD_eq_getElem?_getD, hj0]; rfl
  have p0 : (0 : Int) < (k : Int) := by omega
  have pp0 : 0 < k := by omega
  have a1 : w.cell? ⟨q, 1, none⟩ = some (.int .i64 j1) := hc 1 _ (by rw [List.getElem?_map, hj1]; rfl)
  have ea1 : Oz.arg s 1 = (j1 : Int) := by unfold Oz.arg; rw [List.getD_eq_getElem?_getD, hj1]; rfl
  have p1 : (1 : Int) < (k : Int) := by omega
  have pp1 : 1 < k := by omega
  rw [ea0, ea1] at hR
  rw [hop, if_pos (by decide)] at hR
  obtain ⟨z1, hz1⟩ : ∃ z, z = decide (t1.op = nNumber ∧ t1.num = 0) := ⟨_, rfl⟩
  have ez1 : Oz.isR l (j1 : Int) 0 = z1 := by unfold Oz.isR; rw [at_get ht1, hz1]
  have HC1 : Hid (∀ w : World, EdAt w g gs cap l V → Calls Try.prog 78 #[.pointer (some ⟨g, 0, none⟩), .int .i64 j1, .int .i64 0] w fun e w' => e = .returned (.bool z1) ∧ Below w.heap.size w w') := Lib.hid (fun w h => by rw [hz1]; exact is_step g gs cap j1 l V t1 w h ht1 0)
  rw [ez1] at hR
  clear hz1 ez1
  obtain ⟨z0, hz0⟩ : ∃ z, z = decide (t0.op = nNumber ∧ t0.num = 0) := ⟨_, rfl⟩
  have ez0 : Oz.isR l (j0 : Int) 0 = z0 := by unfold Oz.isR; rw [at_get ht0, hz0]
  have HC0 : Hid (∀ w : World, EdAt w g gs cap l V → Calls Try.prog 78 #[.pointer (some ⟨g, 0, none⟩), .int .i64 j0, .int .i64 0] w fun e w' => e = .returned (.bool z0) ∧ Below w.heap.size w w') := Lib.hid (fun w h => by rw [hz0]; exact is_step g gs cap j0 l V t0 w h ht0 0)
  rw [ez0] at hR
  clear hz0 ez0
  obtain ⟨r0, hr0⟩ : ∃ r, r = Oz.replaceR l i j0 := ⟨_, rfl⟩
  have HP0 : Hid (∀ w : World, EdX w base g gs cap l vs V → Calls Try.prog 74 #[.pointer (some ⟨g, 0, none⟩), .int .i64 i, .int .i64 j0] w (RepEnd base g gs cap l vs V r0 w)) := Lib.hid (fun w h => by rw [hr0]; exact replace_any base g gs cap i j0 l vs V w h hi0 HI.out HBB.out)
  rw [Int.toNat_natCast, ← hr0] at hR
  clear hr0
  obtain ⟨r1, hr1⟩ : ∃ r, r = Oz.replaceR l i j1 := ⟨_, rfl⟩
  have HP1 : Hid (∀ w : World, EdX w base g gs cap l vs V → Calls Try.prog 74 #[.pointer (some ⟨g, 0, none⟩), .int .i64 i, .int .i64 j1] w (RepEnd base g gs cap l vs V r1 w)) := Lib.hid (fun w h => by rw [hr1]; exact replace_any base g gs cap i j1 l vs V w h hi1 HI.out HBB.out)
  rw [Int.toNat_natCast, ← hr1] at hR
  clear hr1
  have HX0 := Lib.hid x0
  have HA0 := Lib.hid a0
  have HA1 := Lib.hid a1
  have HR := Lib.hid hR
  rw [hop] at y0
  unfold Oz.oAdd at y0
  clear h hs hb hv ho hn hop hl hk hnum htext hty hc hR hj0 ht0 hi0 ea0 a0 hj1 ht1 hi1 ea1 a1
  go_enter Try.func58, Try.ntmps58
  go_upto_region 4 with (fail)
  obtain ⟨w1, hw1⟩ : ∃ w1, w1 = w.alloc (.cells #[.string ⟨#[43]⟩, .slice (some ⟨q, 0, none⟩) k c, .int .i64 num, .string ⟨text.toArray⟩, .int .i64 ty] 25) := ⟨_, rfl⟩
  rw [← hw1]
  have HB1 : Hid (Below w.heap.size w w1) := Lib.hid (by rw [hw1]; exact below_alloc _ _)
  have HS1 : Hid (Blk w1 w.heap.size 25 #[.string ⟨#[43]⟩, .slice (some ⟨q, 0, none⟩) k c, .int .i64 num, .string ⟨text.toArray⟩, .int .i64 ty]) := Lib.hid (by rw [hw1]; exact Blk.new _ _ _)
  clear hw1 x0 y0 y1 y2 y3 y4
  have s1 := HS1.out.cell 1
  simp only [List.getElem?_toArray, List.getElem?_cons_zero, List.getElem?_cons_succ] at s1
  have b1_0 := (HB1.out.cell (p := ⟨q, 0, none⟩) hql).trans HA0.out
  have b1_1 := (HB1.out.cell (p := ⟨q, 1, none⟩) hql).trans HA1.out
  go_wp2_with fail
  refine (HC1.out w1 (HH.out.below HB1.out).edAt).mono ?_
  rintro e w2 ⟨rfl, hb2⟩
  have HB2 := Lib.hid (HB1.out.trans (hb2.mono HB1.out.size))
  have HS2 := Lib.hid (HS1.out.below hb2 HS1.out.lt)
  clear s1 b1_0 b1_1
  clear hb2
  cases z1 with
  | false =>
    have s2 := HS2.out.cell 1
    simp only [List.getElem?_toArray, List.getElem?_cons_zero, List.getElem?_cons_succ] at s2
    have b2_0 := (HB2.out.cell (p := ⟨q, 0, none⟩) hql).trans HA0.out
    have b2_1 := (HB2.out.cell (p := ⟨q, 1, none⟩) hql).trans HA1.out
    go_wp2_with fail
    refine (HC0.out w2 (HH.out.below HB2.out).edAt).mono ?_
    rintro e w3 ⟨rfl, hb3⟩
    have HB3 := Lib.hid (HB2.out.trans (hb3.mono HB2.out.size))
    have HS3 := Lib.hid (HS2.out.below hb3 HS2.out.lt)
    clear s2 b2_0 b2_1
    clear hb3
    cases z0 with
    | false =>
      have HRN : Hid (R = none) := Lib.hid (by rw [HR.out]; rfl)
      go_wp2_with fail
      go_ret
      unfold RepEnd
      rw [HRN.out]
      exact ⟨rfl, HB3.out⟩
    | true =>
      have s3 := HS3.out.cell 1
      simp only [List.getElem?_toArray, List.getElem?_cons_zero, List.getElem?_cons_succ] at s3
      have b3_0 := (HB3.out.cell (p := ⟨q, 0, none⟩) hql).trans HA0.out
      have b3_1 := (HB3.out.cell (p := ⟨q, 1, none⟩) hql).trans HA1.out
      go_wp2_with fail
      refine (HP1.out w3 (HH.out.below HB3.out)).mono ?_
      intro e w4 h3
      clear s3 b3_0 b3_1
      cases r1 with
      | none =>
        have h3 : e = .returned (.bool false) ∧ Below w3.heap.size w3 w4 := h3
        obtain ⟨rfl, hb4⟩ := h3
        have HB4 := Lib.hid (HB3.out.trans (hb4.mono HB3.out.size))
        have HS4 := Lib.hid (HS3.out.below hb4 HS3.out.lt)
        clear hb4
        have HRN : Hid (R = none) := Lib.hid (by rw [HR.out]; rfl)
        go_wp2_with fail
        go_ret
        unfold RepEnd
        rw [HRN.out]
        exact ⟨rfl, HB4.out⟩
      | some l9 =>
        have h3 : e = .returned (.bool true) ∧ (∃ vs9, EdX w4 base g gs cap l9 vs9 V) ∧ FrX base w3 w4 := h3
        obtain ⟨rfl, ⟨vs9, he9⟩, hf9⟩ := h3
        have HE9 := Lib.hid he9
        have HF9 := Lib.hid (((FrX.refl base w).below HB3.out hbase).trans hf9)
        clear he9 hf9
        have HRN : Hid (R = some l9) := Lib.hid (by rw [HR.out]; rfl)
        go_wp2_with fail
        go_ret
        unfold RepEnd
        rw [HRN.out]
        exact ⟨rfl, ⟨_, HE9.out⟩, HF9.out⟩
  | true =>
    have s2 := HS2.out.cell 1
    simp only [List.getElem?_toArray, List.getElem?_cons_zero, List.getElem?_cons_succ] at s2
    have b2_0 := (HB2.out.cell (p := ⟨q, 0, none⟩) hql).trans HA0.out
    have b2_1 := (HB2.out.cell (p := ⟨q, 1, none⟩) hql).trans HA1.out
    go_wp2_with fail
    refine (HP0.out w2 (HH.out.below HB2.out)).mono ?_
    intro e w3 h3
    clear s2 b2_0 b2_1
    cases r0 with
    | none =>
      have h3 : e = .returned (.bool false) ∧ Below w2.heap.size w2 w3 := h3
      obtain ⟨rfl, hb3⟩ := h3
      have HB3 := Lib.hid (HB2.out.trans (hb3.mono HB2.out.size))
      have HS3 := Lib.hid (HS2.out.below hb3 HS2.out.lt)
      clear hb3
      have s3 := HS3.out.cell 1
      simp only [List.getElem?_toArray, List.getElem?_cons_zero, List.getElem?_cons_succ] at s3
      have b3_0 := (HB3.out.cell (p := ⟨q, 0, none⟩) hql).trans HA0.out
      have b3_1 := (HB3.out.cell (p := ⟨q, 1, none⟩) hql).trans HA1.out
      go_wp2_with fail
      refine (HC0.out w3 (HH.out.below HB3.out).edAt).mono ?_
      rintro e w4 ⟨rfl, hb4⟩
      have HB4 := Lib.hid (HB3.out.trans (hb4.mono HB3.out.size))
      have HS4 := Lib.hid (HS3.out.below hb4 HS3.out.lt)
      clear s3 b3_0 b3_1
      clear hb4
      cases z0 with
      | false =>
        have HRN : Hid (R = none) := Lib.hid (by rw [HR.out]; rfl)
        go_wp2_with fail
        go_ret
        unfold RepEnd
        rw [HRN.out]
        exact ⟨rfl, HB4.out⟩
      | true =>
        have s4 := HS4.out.cell 1
        simp only [List.getElem?_toArray, List.getElem?_cons_zero, List.getElem?_cons_succ] at s4
        have b4_0 := (HB4.out.cell (p := ⟨q, 0, none⟩) hql).trans HA0.out
        have b4_1 := (HB4.out.cell (p := ⟨q, 1, none⟩) hql).trans HA1.out
        go_wp2_with fail
        refine (HP1.out w4 (HH.out.below HB4.out)).mono ?_
        intro e w5 h3
        clear s4 b4_0 b4_1
        cases r1 with
        | none =>
          have h3 : e = .returned (.bool false) ∧ Below w4.heap.size w4 w5 := h3
          obtain ⟨rfl, hb5⟩ := h3
          have HB5 := Lib.hid (HB4.out.trans (hb5.mono HB4.out.size))
          have HS5 := Lib.hid (HS4.out.below hb5 HS4.out.lt)
          clear hb5
          have HRN : Hid (R = none) := Lib.hid (by rw [HR.out]; rfl)
          go_wp2_with fail
          go_ret
          unfold RepEnd
          rw [HRN.out]
          exact ⟨rfl, HB5.out⟩
        | some l9 =>
          have h3 : e = .returned (.bool true) ∧ (∃ vs9, EdX w5 base g gs cap l9 vs9 V) ∧ FrX base w4 w5 := h3
          obtain ⟨rfl, ⟨vs9, he9⟩, hf9⟩ := h3
          have HE9 := Lib.hid he9
          have HF9 := Lib.hid (((FrX.refl base w).below HB4.out hbase).trans hf9)
          clear he9 hf9
          have HRN : Hid (R = some l9) := Lib.hid (by rw [HR.out]; rfl)
          go_wp2_with fail
          go_ret
          unfold RepEnd
          rw [HRN.out]
          exact ⟨rfl, ⟨_, HE9.out⟩, HF9.out⟩
    | some l9 =>
      have h3 : e = .returned (.bool true) ∧ (∃ vs9, EdX w3 base g gs cap l9 vs9 V) ∧ FrX base w2 w3 := h3
      obtain ⟨rfl, ⟨vs9, he9⟩, hf9⟩ := h3
      have HE9 := Lib.hid he9
      have HF9 := Lib.hid (((FrX.refl base w).below HB2.out hbase).trans hf9)
      clear he9 hf9
      have HRN : Hid (R = some l9) := Lib.hid (by rw [HR.out]; rfl)
      go_wp2_with fail
      go_ret
      unfold RepEnd
      rw [HRN.out]
      exact ⟨rfl, ⟨_, HE9.out⟩, HF9.out⟩
set_option maxRecDepth 100000 in
set_option maxHeartbeats 8000000 in
theorem neutral_mul (base g gs cap i : Nat) (l : List St) (vs : List Value) (V : Value) (s : St) (w : World) (h : EdX w base g gs cap l vs V) (hs : l[i]? = some s) (hb : ∀ s ∈ l, s.args.length ≤ 3 ∧ ∀ a ∈ s.args, 0 ≤ a ∧ a ≤ 100000) (hop : s.op = Oz.oMul) (hl : s.args.length = 2) (j0 j1 : Nat) (t0 t1 : St) (hj0 : s.args[0]? = some (j0 : Int)) (ht0 : l[j0]? = some t0) (hi0 : j0 < i) (hj1 : s.args[1]? = some (j1 : Int)) (ht1 : l[j1]? = some t1) (hi1 : j1 < i):
    Calls Try.prog 58 #[.pointer (some ⟨g, 0, none⟩), .int .i64 i] w (RepEnd base g gs cap l vs V (Oz.neutralR l i) w) := by
  have hil := (List.getElem?_eq_some_iff.1 hs).1
  have hbase := h.base_le
  have x0 := h.ed.cell 0
  simp only [List.getElem?_toArray, List.getElem?_cons_zero] at x0
  obtain ⟨v, hv, ⟨y0, y1, y2, y3, y4⟩, ho⟩ := h.at_ hs
  obtain ⟨A, c, rfl⟩ := own_form ho
  obtain ⟨R, hR⟩ : ∃ R, R = Oz.neutralR l i := ⟨_, rfl⟩
  rw [← hR]
  unfold Oz.neutralR at hR
  rw [at_get hs] at hR
  dsimp only at hR
  obtain ⟨n, hn⟩ : ∃ n, n = l.length := ⟨_, rfl⟩
  have HI : Hid (i < l.length) := Lib.hid hil
  rw [← hn] at hil x0
  have HH := Lib.hid h
  have HBB := Lib.hid hb
  have q0 : (i : Int) < (n : Int) := by omega
  have q1 : (0 : Int) ≤ (i : Int) := by omega
  have hgl := h.ed.lt
  have hgsl := h.gs_lt
  obtain ⟨num, hnum⟩ : ∃ num, num = s.num := ⟨_, rfl⟩
  obtain ⟨text, htext⟩ : ∃ text, text = s.text := ⟨_, rfl⟩
  obtain ⟨ty, hty⟩ : ∃ ty, ty = s.ty := ⟨_, rfl⟩
  obtain ⟨k, hk⟩ : ∃ k, k = s.args.length := ⟨_, rfl⟩
  rw [← hnum] at y2
  rw [← htext] at y3
  rw [← hty] at y4
  rw [← hk] at y1
  obtain ⟨q, c', hvq, _, hbq, hql, hc⟩ := own_at ho (by omega)
  injection hvq with hA hkk hcc
  clear hkk
  subst hA hcc
  have a0 : w.cell? ⟨q, 0, none⟩ = some (.int .i64 j0) := hc 0 _ (by rw [List.getElem?_map, hj0]; rfl)
  have ea0 : Oz.arg s 0 = (j0 : Int) := by unfold Oz.arg; rw [List.getD_eq_getElem?_getD, hj0]; rfl
  have p0 : (0 : Int) < (k : Int) := by omega
  have pp0 : 0 < k := by omega
  have a1 : w.cell? ⟨q, 1, none⟩ = some (.int .i64 j1) := hc 1 _ (by rw [List.getElem?_map, hj1]; rfl)
  have ea1 : Oz.arg s 1 = (j1 : Int) := by unfold Oz.arg; rw [List.getD_eq_getElem?_getD, hj1]; rfl
  have p1 : (1 : Int) < (k : Int) := by omega
  have pp1 : 1 < k := by omega
  rw [ea0, ea1] at hR
  rw [hop, if_neg (by decide), if_neg (by decide), if_pos (by decide)] at hR
  obtain ⟨z1, hz1⟩ : ∃ z, z = decide (t1.op = nNumber ∧ t1.num = 1) := ⟨_, rfl⟩
  have ez1 : Oz.isR l (j1 : Int) 1 = z1 := by unfold Oz.isR; rw [at_get ht1, hz1]
  have HC1 : Hid (∀ w : World, EdAt w g gs cap l V → Calls Try.prog 78 #[.pointer (some ⟨g, 0, none⟩), .int .i64 j1, .int .i64 1] w fun e w' => e = .returned (.bool z1) ∧ Below w.heap.size w w') := Lib.hid (fun w h => by rw [hz1]; exact is_step g gs cap j1 l V t1 w h ht1 1)
  rw [ez1] at hR
  clear hz1 ez1
  obtain ⟨z0, hz0⟩ : ∃ z, z = decide (t0.op = nNumber ∧ t0.num = 1) := ⟨_, rfl⟩
  have ez0 : Oz.isR l (j0 : Int) 1 = z0 := by unfold Oz.isR; rw [at_get ht0, hz0]
  have HC0 : Hid (∀ w : World, EdAt w g gs cap l V → Calls Try.prog 78 #[.pointer (some ⟨g, 0, none⟩), .int .i64 j0, .int .i64 1] w fun e w' => e = .returned (.bool z0) ∧ Below w.heap.size w w') := Lib.hid (fun w h => by rw [hz0]; exact is_step g gs cap j0 l V t0 w h ht0 1)
  rw [ez0] at hR
  clear hz0 ez0
  obtain ⟨r0, hr0⟩ : ∃ r, r = Oz.replaceR l i j0 := ⟨_, rfl⟩
  have HP0 : Hid (∀ w : World, EdX w base g gs cap l vs V → Calls Try.prog 74 #[.pointer (some ⟨g, 0, none⟩), .int .i64 i, .int .i64 j0] w (RepEnd base g gs cap l vs V r0 w)) := Lib.hid (fun w h => by rw [hr0]; exact replace_any base g gs cap i j0 l vs V w h hi0 HI.out HBB.out)
  rw [Int.toNat_natCast, ← hr0] at hR
  clear hr0
  obtain ⟨r1, hr1⟩ : ∃ r, r = Oz.replaceR l i j1 := ⟨_, rfl⟩
  have HP1 : Hid (∀ w : World, EdX w base g gs cap l vs V → Calls Try.prog 74 #[.pointer (some ⟨g, 0, none⟩), .int .i64 i, .int .i64 j1] w (RepEnd base g gs cap l vs V r1 w)) := Lib.hid (fun w h => by rw [hr1]; exact replace_any base g gs cap i j1 l vs V w h hi1 HI.out HBB.out)
  rw [Int.toNat_natCast, ← hr1] at hR
  clear hr1
  have HX0 := Lib.hid x0
  have HA0 := Lib.hid a0
  have HA1 := Lib.hid a1
  have HR := Lib.hid hR
  rw [hop] at y0
  unfold Oz.oMul at y0
  clear h hs hb hv ho hn hop hl hk hnum htext hty hc hR hj0 ht0 hi0 ea0 a0 hj1 ht1 hi1 ea1 a1
  go_enter Try.func58, Try.ntmps58
  go_upto_region 8 with (fail)
  obtain ⟨w1, hw1⟩ : ∃ w1, w1 = w.alloc (.cells #[.string ⟨#[42]⟩, .slice (some ⟨q, 0, none⟩) k c, .int .i64 num, .string ⟨text.toArray⟩, .int .i64 ty] 25) := ⟨_, rfl⟩
  rw [← hw1]
  have HB1 : Hid (Below w.heap.size w w1) := Lib.hid (by rw [hw1]; exact below_alloc _ _)
  have HS1 : Hid (Blk w1 w.heap.size 25 #[.string ⟨#[42]⟩, .slice (some ⟨q, 0, none⟩) k c, .int .i64 num, .string ⟨text.toArray⟩, .int .i64 ty]) := Lib.hid (by rw [hw1]; exact Blk.new _ _ _)
  clear hw1 x0 y0 y1 y2 y3 y4
  have s1 := HS1.out.cell 1
  simp only [List.getElem?_toArray, List.getElem?_cons_zero, List.getElem?_cons_succ] at s1
  have b1_0 := (HB1.out.cell (p := ⟨q, 0, none⟩) hql).trans HA0.out
  have b1_1 := (HB1.out.cell (p := ⟨q, 1, none⟩) hql).trans HA1.out
  go_wp2_with fail
  refine (HC1.out w1 (HH.out.below HB1.out).edAt).mono ?_
  rintro e w2 ⟨rfl, hb2⟩
  have HB2 := Lib.hid (HB1.out.trans (hb2.mono HB1.out.size))
  have HS2 := Lib.hid (HS1.out.below hb2 HS1.out.lt)
  clear s1 b1_0 b1_1
  clear hb2
  cases z1 with
  | false =>
    have s2 := HS2.out.cell 1
    simp only [List.getElem?_toArray, List.getElem?_cons_zero, List.getElem?_cons_succ] at s2
    have b2_0 := (HB2.out.cell (p := ⟨q, 0, none⟩) hql).trans HA0.out
    have b2_1 := (HB2.out.cell (p := ⟨q, 1, none⟩) hql).trans HA1.out
    go_wp2_with fail
    refine (HC0.out w2 (HH.out.below HB2.out).edAt).mono ?_
    rintro e w3 ⟨rfl, hb3⟩
    have HB3 := Lib.hid (HB2.out.trans (hb3.mono HB2.out.size))
    have HS3 := Lib.hid (HS2.out.below hb3 HS2.out.lt)
    clear s2 b2_0 b2_1
    clear hb3
    cases z0 with
    | false =>
      have HRN : Hid (R = none) := Lib.hid (by rw [HR.out]; rfl)
      go_wp2_with fail
      go_ret
      unfold RepEnd
      rw [HRN.out]
      exact ⟨rfl, HB3.out⟩
    | true =>
      have s3 := HS3.out.cell 1
      simp only [List.getElem?_toArray, List.getElem?_cons_zero, List.getElem?_cons_succ] at s3
      have b3_0 := (HB3.out.cell (p := ⟨q, 0, none⟩) hql).trans HA0.out
      have b3_1 := (HB3.out.cell (p := ⟨q, 1, none⟩) hql).trans HA1.out
      go_wp2_with fail
      refine (HP1.out w3 (HH.out.below HB3.out)).mono ?_
      intro e w4 h3
      clear s3 b3_0 b3_1
      cases r1 with
      | none =>
        have h3 : e = .returned (.bool false) ∧ Below w3.heap.size w3 w4 := h3
        obtain ⟨rfl, hb4⟩ := h3
        have HB4 := Lib.hid (HB3.out.trans (hb4.mono HB3.out.size))
        have HS4 := Lib.hid (HS3.out.below hb4 HS3.out.lt)
        clear hb4
        have HRN : Hid (R = none) := Lib.hid (by rw [HR.out]; rfl)
        go_wp2_with fail
        go_ret
        unfold RepEnd
        rw [HRN.out]
        exact ⟨rfl, HB4.out⟩
      | some l9 =>
        have h3 : e = .returned (.bool true) ∧ (∃ vs9, EdX w4 base g gs cap l9 vs9 V) ∧ FrX base w3 w4 := h3
        obtain ⟨rfl, ⟨vs9, he9⟩, hf9⟩ := h3
        have HE9 := Lib.hid he9
        have HF9 := Lib.hid (((FrX.refl base w).below HB3.out hbase).trans hf9)
        clear he9 hf9
        have HRN : Hid (R = some l9) := Lib.hid (by rw [HR.out]; rfl)
        go_wp2_with fail
        go_ret
        unfold RepEnd
        rw [HRN.out]
        exact ⟨rfl, ⟨_, HE9.out⟩, HF9.out⟩
  | true =>
    have s2 := HS2.out.cell 1
    simp only [List.getElem?_toArray, List.getElem?_cons_zero, List.getElem?_cons_succ] at s2
    have b2_0 := (HB2.out.cell (p := ⟨q, 0, none⟩) hql).trans HA0.out
    have b2_1 := (HB2.out.cell (p := ⟨q, 1, none⟩) hql).trans HA1.out
    go_wp2_with fail
    refine (HP0.out w2 (HH.out.below HB2.out)).mono ?_
    intro e w3 h3
    clear s2 b2_0 b2_1
    cases r0 with
    | none =>
      have h3 : e = .returned (.bool false) ∧ Below w2.heap.size w2 w3 := h3
      obtain ⟨rfl, hb3⟩ := h3
      have HB3 := Lib.hid (HB2.out.trans (hb3.mono HB2.out.size))
      have HS3 := Lib.hid (HS2.out.below hb3 HS2.out.lt)
      clear hb3
      have s3 := HS3.out.cell 1
      simp only [List.getElem?_toArray, List.getElem?_cons_zero, List.getElem?_cons_succ] at s3
      have b3_0 := (HB3.out.cell (p := ⟨q, 0, none⟩) hql).trans HA0.out
      have b3_1 := (HB3.out.cell (p := ⟨q, 1, none⟩) hql).trans HA1.out
      go_wp2_with fail
      refine (HC0.out w3 (HH.out.below HB3.out).edAt).mono ?_
      rintro e w4 ⟨rfl, hb4⟩
      have HB4 := Lib.hid (HB3.out.trans (hb4.mono HB3.out.size))
      have HS4 := Lib.hid (HS3.out.below hb4 HS3.out.lt)
      clear s3 b3_0 b3_1
      clear hb4
      cases z0 with
      | false =>
        have HRN : Hid (R = none) := Lib.hid (by rw [HR.out]; rfl)
        go_wp2_with fail
        go_ret
        unfold RepEnd
        rw [HRN.out]
        exact ⟨rfl, HB4.out⟩
      | true =>
        have s4 := HS4.out.cell 1
        simp only [List.getElem?_toArray, List.getElem?_cons_zero, List.getElem?_cons_succ] at s4
        have b4_0 := (HB4.out.cell (p := ⟨q, 0, none⟩) hql).trans HA0.out
        have b4_1 := (HB4.out.cell (p := ⟨q, 1, none⟩) hql).trans HA1.out
        go_wp2_with fail
        refine (HP1.out w4 (HH.out.below HB4.out)).mono ?_
        intro e w5 h3
        clear s4 b4_0 b4_1
        cases r1 with
        | none =>
          have h3 : e = .returned (.bool false) ∧ Below w4.heap.size w4 w5 := h3
          obtain ⟨rfl, hb5⟩ := h3
          have HB5 := Lib.hid (HB4.out.trans (hb5.mono HB4.out.size))
          have HS5 := Lib.hid (HS4.out.below hb5 HS4.out.lt)
          clear hb5
          have HRN : Hid (R = none) := Lib.hid (by rw [HR.out]; rfl)
          go_wp2_with fail
          go_ret
          unfold RepEnd
          rw [HRN.out]
          exact ⟨rfl, HB5.out⟩
        | some l9 =>
          have h3 : e = .returned (.bool true) ∧ (∃ vs9, EdX w5 base g gs cap l9 vs9 V) ∧ FrX base w4 w5 := h3
          obtain ⟨rfl, ⟨vs9, he9⟩, hf9⟩ := h3
          have HE9 := Lib.hid he9
          have HF9 := Lib.hid (((FrX.refl base w).below HB4.out hbase).trans hf9)
          clear he9 hf9
          have HRN : Hid (R = some l9) := Lib.hid (by rw [HR.out]; rfl)
          go_wp2_with fail
          go_ret
          unfold RepEnd
          rw [HRN.out]
          exact ⟨rfl, ⟨_, HE9.out⟩, HF9.out⟩
    | some l9 =>
      have h3 : e = .returned (.bool true) ∧ (∃ vs9, EdX w3 base g gs cap l9 vs9 V) ∧ FrX base w2 w3 := h3
      obtain ⟨rfl, ⟨vs9, he9⟩, hf9⟩ := h3
      have HE9 := Lib.hid he9
      have HF9 := Lib.hid (((FrX.refl base w).below HB2.out hbase).trans hf9)
      clear he9 hf9
      have HRN : Hid (R = some l9) := Lib.hid (by rw [HR.out]; rfl)
      go_wp2_with fail
      go_ret
      unfold RepEnd
      rw [HRN.out]
      exact ⟨rfl, ⟨_, HE9.out⟩, HF9.out⟩
set_option maxRecDepth 100000 in
set_option maxHeartbeats 8000000 in
theorem neutral_cat (base g gs cap i : Nat) (l : List St) (vs : List Value) (V : Value) (s : St) (w : World) (h : EdX w base g gs cap l vs V) (hs : l[i]? = some s) (hb : ∀ s ∈ l, s.args.length ≤ 3 ∧ ∀ a ∈ s.args, 0 ≤ a ∧ a ≤ 100000) (hop : s.op = Oz.oCat) (hl : s.args.length = 2) (j0 j1 : Nat) (t0 t1 : St) (hj0 : s.args[0]? = some (j0 : Int)) (ht0 : l[j0]? = some t0) (hi0 : j0 < i) (hj1 : s.args[1]? = some (j1 : Int)) (ht1 : l[j1]? = some t1) (hi1 : j1 < i):
    Calls Try.prog 58 #[.pointer (some ⟨g, 0, none⟩), .int .i64 i] w (RepEnd base g gs cap l vs V (Oz.neutralR l i) w) := by
  have hil := (List.getElem?_eq_some_iff.1 hs).1
  have hbase := h.base_le
  have x0 := h.ed.cell 0
  simp only [List.getElem?_toArray, List.getElem?_cons_zero] at x0
  obtain ⟨v, hv, ⟨y0, y1, y2, y3, y4⟩, ho⟩ := h.at_ hs
  obtain ⟨A, c, rfl⟩ := own_form ho
  obtain ⟨R, hR⟩ : ∃ R, R = Oz.neutralR l i := ⟨_, rfl⟩
  rw [← hR]
  unfold Oz.neutralR at hR
  rw [at_get hs] at hR
  dsimp only at hR
  obtain ⟨n, hn⟩ : ∃ n, n = l.length := ⟨_, rfl⟩
  have HI : Hid (i < l.length) := Lib.hid hil
  rw [← hn] at hil x0
  have HH := Lib.hid h
  have HBB := Lib.hid hb
  have q0 : (i : Int) < (n : Int) := by omega
  have q1 : (0 : Int) ≤ (i : Int) := by omega
  have hgl := h.ed.lt
  have hgsl := h.gs_lt
  obtain ⟨num, hnum⟩ : ∃ num, num = s.num := ⟨_, rfl⟩
  obtain ⟨text, htext⟩ : ∃ text, text = s.text := ⟨_, rfl⟩
  obtain ⟨ty, hty⟩ : ∃ ty, ty = s.ty := ⟨_, rfl⟩
  obtain ⟨k, hk⟩ : ∃ k, k = s.args.length := ⟨_, rfl⟩
  rw [← hnum] at y2
  rw [← htext] at y3
  rw [← hty] at y4
  rw [← hk] at y1
  obtain ⟨q, c', hvq, _, hbq, hql, hc⟩ := own_at ho (by omega)
  injection hvq with hA hkk hcc
  clear hkk
  subst hA hcc
  have a0 : w.cell? ⟨q, 0, none⟩ = some (.int .i64 j0) := hc 0 _ (by rw [List.getElem?_map, hj0]; rfl)
  have ea0 : Oz.arg s 0 = (j0 : Int) := by unfold Oz.arg; rw [List.getD_eq_getElem?_getD, hj0]; rfl
  have p0 : (0 : Int) < (k : Int) := by omega
  have pp0 : 0 < k := by omega
  have a1 : w.cell? ⟨q, 1, none⟩ = some (.int .i64 j1) := hc 1 _ (by rw [List.getElem?_map, hj1]; rfl)
  have ea1 : Oz.arg s 1 = (j1 : Int) := by unfold Oz.arg; rw [List.getD_eq_getElem?_getD, hj1]; rfl
  have p1 : (1 : Int) < (k : Int) := by omega
  have pp1 : 1 < k := by omega
  rw [ea0, ea1] at hR
  rw [hop, if_neg (by decide), if_neg (by decide), if_neg (by decide), if_neg (by decide), if_pos (by decide)] at hR
  obtain ⟨z1, hz1⟩ : ∃ z, z = decide (t1.op = nString ∧ t1.text = []) := ⟨_, rfl⟩
  have ez1 : Oz.emptyR l (j1 : Int) = z1 := by unfold Oz.emptyR; rw [at_get ht1, hz1]
  have HC1 : Hid (∀ w : World, EdAt w g gs cap l V → Calls Try.prog 79 #[.pointer (some ⟨g, 0, none⟩), .int .i64 j1] w fun e w' => e = .returned (.bool z1) ∧ Below w.heap.size w w') := Lib.hid (fun w h => by rw [hz1]; exact isEmpty_step g gs cap j1 l V t1 w h ht1)
  rw [ez1] at hR
  clear hz1 ez1
  obtain ⟨z0, hz0⟩ : ∃ z, z = decide (t0.op = nString ∧ t0.text = []) := ⟨_, rfl⟩
  have ez0 : Oz.emptyR l (j0 : Int) = z0 := by unfold Oz.emptyR; rw [at_get ht0, hz0]
  have HC0 : Hid (∀ w : World, EdAt w g gs cap l V → Calls Try.prog 79 #[.pointer (some ⟨g, 0, none⟩), .int .i64 j0] w fun e w' => e = .returned (.bool z0) ∧ Below w.heap.size w w') := Lib.hid (fun w h => by rw [hz0]; exact isEmpty_step g gs cap j0 l V t0 w h ht0)
  rw [ez0] at hR
  clear hz0 ez0
  obtain ⟨r0, hr0⟩ : ∃ r, r = Oz.replaceR l i j0 := ⟨_, rfl⟩
  have HP0 : Hid (∀ w : World, EdX w base g gs cap l vs V → Calls Try.prog 74 #[.pointer (some ⟨g, 0, none⟩), .int .i64 i, .int .i64 j0] w (RepEnd base g gs cap l vs V r0 w)) := Lib.hid (fun w h => by rw [hr0]; exact replace_any base g gs cap i j0 l vs V w h hi0 HI.out HBB.out)
  rw [Int.toNat_natCast, ← hr0] at hR
  clear hr0
  obtain ⟨r1, hr1⟩ : ∃ r, r = Oz.replaceR l i j1 := ⟨_, rfl⟩
  have HP1 : Hid (∀ w : World, EdX w base g gs cap l vs V → Calls Try.prog 74 #[.pointer (some ⟨g, 0, none⟩), .int .i64 i, .int .i64 j1] w (RepEnd base g gs cap l vs V r1 w)) := Lib.hid (fun w h => by rw [hr1]; exact replace_any base g gs cap i j1 l vs V w h hi1 HI.out HBB.out)
  rw [Int.toNat_natCast, ← hr1] at hR
  clear hr1
  have HX0 := Lib.hid x0
  have HA0 := Lib.hid a0
  have HA1 := Lib.hid a1
  have HR := Lib.hid hR
  rw [hop] at y0
  unfold Oz.oCat at y0
  clear h hs hb hv ho hn hop hl hk hnum htext hty hc hR hj0 ht0 hi0 ea0 a0 hj1 ht1 hi1 ea1 a1
  go_enter Try.func58, Try.ntmps58
  go_upto_region 17 with (fail)
  obtain ⟨w1, hw1⟩ : ∃ w1, w1 = w.alloc (.cells #[.string ⟨#[43, 43]⟩, .slice (some ⟨q, 0, none⟩) k c, .int .i64 num, .string ⟨text.toArray⟩, .int .i64 ty] 25) := ⟨_, rfl⟩
  rw [← hw1]
  have HB1 : Hid (Below w.heap.size w w1) := Lib.hid (by rw [hw1]; exact below_alloc _ _)
  have HS1 : Hid (Blk w1 w.heap.size 25 #[.string ⟨#[43, 43]⟩, .slice (some ⟨q, 0, none⟩) k c, .int .i64 num, .string ⟨text.toArray⟩, .int .i64 ty]) := Lib.hid (by rw [hw1]; exact Blk.new _ _ _)
  clear hw1 x0 y0 y1 y2 y3 y4
  have s1 := HS1.out.cell 1
  simp only [List.getElem?_toArray, List.getElem?_cons_zero, List.getElem?_cons_succ] at s1
  have b1_0 := (HB1.out.cell (p := ⟨q, 0, none⟩) hql).trans HA0.out
  have b1_1 := (HB1.out.cell (p := ⟨q, 1, none⟩) hql).trans HA1.out
  go_wp2_with fail
  refine (HC1.out w1 (HH.out.below HB1.out).edAt).mono ?_
  rintro e w2 ⟨rfl, hb2⟩
  have HB2 := Lib.hid (HB1.out.trans (hb2.mono HB1.out.size))
  have HS2 := Lib.hid (HS1.out.below hb2 HS1.out.lt)
  clear s1 b1_0 b1_1
  clear hb2
  cases z1 with
  | false =>
    have s2 := HS2.out.cell 1
    simp only [List.getElem?_toArray, List.getElem?_cons_zero, List.getElem?_cons_succ] at s2
    have b2_0 := (HB2.out.cell (p := ⟨q, 0, none⟩) hql).trans HA0.out
    have b2_1 := (HB2.out.cell (p := ⟨q, 1, none⟩) hql).trans HA1.out
    go_wp2_with fail
    refine (HC0.out w2 (HH.out.below HB2.out).edAt).mono ?_
    rintro e w3 ⟨rfl, hb3⟩
    have HB3 := Lib.hid (HB2.out.trans (hb3.mono HB2.out.size))
    have HS3 := Lib.hid (HS2.out.below hb3 HS2.out.lt)
    clear s2 b2_0 b2_1
    clear hb3
    cases z0 with
    | false =>
      have HRN : Hid (R = none) := Lib.hid (by rw [HR.out]; rfl)
      go_wp2_with fail
      go_ret
      unfold RepEnd
      rw [HRN.out]
      exact ⟨rfl, HB3.out⟩
    | true =>
      have s3 := HS3.out.cell 1
      simp only [List.getElem?_toArray, List.getElem?_cons_zero, List.getElem?_cons_succ] at s3
      have b3_0 := (HB3.out.cell (p := ⟨q, 0, none⟩) hql).trans HA0.out
      have b3_1 := (HB3.out.cell (p := ⟨q, 1, none⟩) hql).trans HA1.out
      go_wp2_with fail
      refine (HP1.out w3 (HH.out.below HB3.out)).mono ?_
      intro e w4 h3
      clear s3 b3_0 b3_1
      cases r1 with
      | none =>
        have h3 : e = .returned (.bool false) ∧ Below w3.heap.size w3 w4 := h3
        obtain ⟨rfl, hb4⟩ := h3
        have HB4 := Lib.hid (HB3.out.trans (hb4.mono HB3.out.size))
        have HS4 := Lib.hid (HS3.out.below hb4 HS3.out.lt)
        clear hb4
        have HRN : Hid (R = none) := Lib.hid (by rw [HR.out]; rfl)
        go_wp2_with fail
        go_ret
        unfold RepEnd
        rw [HRN.out]
        exact ⟨rfl, HB4.out⟩
      | some l9 =>
        have h3 : e = .returned (.bool true) ∧ (∃ vs9, EdX w4 base g gs cap l9 vs9 V) ∧ FrX base w3 w4 := h3
        obtain ⟨rfl, ⟨vs9, he9⟩, hf9⟩ := h3
        have HE9 := Lib.hid he9
        have HF9 := Lib.hid (((FrX.refl base w).below HB3.out hbase).trans hf9)
        clear he9 hf9
        have HRN : Hid (R = some l9) := Lib.hid (by rw [HR.out]; rfl)
        go_wp2_with fail
        go_ret
        unfold RepEnd
        rw [HRN.out]
        exact ⟨rfl, ⟨_, HE9.out⟩, HF9.out⟩
  | true =>
    have s2 := HS2.out.cell 1
    simp only [List.getElem?_toArray, List.getElem?_cons_zero, List.getElem?_cons_succ] at s2
    have b2_0 := (HB2.out.cell (p := ⟨q, 0, none⟩) hql).trans HA0.out
    have b2_1 := (HB2.out.cell (p := ⟨q, 1, none⟩) hql).trans HA1.out
    go_wp2_with fail
    refine (HP0.out w2 (HH.out.below HB2.out)).mono ?_
    intro e w3 h3
    clear s2 b2_0 b2_1
    cases r0 with
    | none =>
      have h3 : e = .returned (.bool false) ∧ Below w2.heap.size w2 w3 := h3
      obtain ⟨rfl, hb3⟩ := h3
      have HB3 := Lib.hid (HB2.out.trans (hb3.mono HB2.out.size))
      have HS3 := Lib.hid (HS2.out.below hb3 HS2.out.lt)
      clear hb3
      have s3 := HS3.out.cell 1
      simp only [List.getElem?_toArray, List.getElem?_cons_zero, List.getElem?_cons_succ] at s3
      have b3_0 := (HB3.out.cell (p := ⟨q, 0, none⟩) hql).trans HA0.out
      have b3_1 := (HB3.out.cell (p := ⟨q, 1, none⟩) hql).trans HA1.out
      go_wp2_with fail
      refine (HC0.out w3 (HH.out.below HB3.out).edAt).mono ?_
      rintro e w4 ⟨rfl, hb4⟩
      have HB4 := Lib.hid (HB3.out.trans (hb4.mono HB3.out.size))
      have HS4 := Lib.hid (HS3.out.below hb4 HS3.out.lt)
      clear s3 b3_0 b3_1
      clear hb4
      cases z0 with
      | false =>
        have HRN : Hid (R = none) := Lib.hid (by rw [HR.out]; rfl)
        go_wp2_with fail
        go_ret
        unfold RepEnd
        rw [HRN.out]
        exact ⟨rfl, HB4.out⟩
      | true =>
        have s4 := HS4.out.cell 1
        simp only [List.getElem?_toArray, List.getElem?_cons_zero, List.getElem?_cons_succ] at s4
        have b4_0 := (HB4.out.cell (p := ⟨q, 0, none⟩) hql).trans HA0.out
        have b4_1 := (HB4.out.cell (p := ⟨q, 1, none⟩) hql).trans HA1.out
        go_wp2_with fail
        refine (HP1.out w4 (HH.out.below HB4.out)).mono ?_
        intro e w5 h3
        clear s4 b4_0 b4_1
        cases r1 with
        | none =>
          have h3 : e = .returned (.bool false) ∧ Below w4.heap.size w4 w5 := h3
          obtain ⟨rfl, hb5⟩ := h3
          have HB5 := Lib.hid (HB4.out.trans (hb5.mono HB4.out.size))
          have HS5 := Lib.hid (HS4.out.below hb5 HS4.out.lt)
          clear hb5
          have HRN : Hid (R = none) := Lib.hid (by rw [HR.out]; rfl)
          go_wp2_with fail
          go_ret
          unfold RepEnd
          rw [HRN.out]
          exact ⟨rfl, HB5.out⟩
        | some l9 =>
          have h3 : e = .returned (.bool true) ∧ (∃ vs9, EdX w5 base g gs cap l9 vs9 V) ∧ FrX base w4 w5 := h3
          obtain ⟨rfl, ⟨vs9, he9⟩, hf9⟩ := h3
          have HE9 := Lib.hid he9
          have HF9 := Lib.hid (((FrX.refl base w).below HB4.out hbase).trans hf9)
          clear he9 hf9
          have HRN : Hid (R = some l9) := Lib.hid (by rw [HR.out]; rfl)
          go_wp2_with fail
          go_ret
          unfold RepEnd
          rw [HRN.out]
          exact ⟨rfl, ⟨_, HE9.out⟩, HF9.out⟩
    | some l9 =>
      have h3 : e = .returned (.bool true) ∧ (∃ vs9, EdX w3 base g gs cap l9 vs9 V) ∧ FrX base w2 w3 := h3
      obtain ⟨rfl, ⟨vs9, he9⟩, hf9⟩ := h3
      have HE9 := Lib.hid he9
      have HF9 := Lib.hid (((FrX.refl base w).below HB2.out hbase).trans hf9)
      clear he9 hf9
      have HRN : Hid (R = some l9) := Lib.hid (by rw [HR.out]; rfl)
      go_wp2_with fail
      go_ret
      unfold RepEnd
      rw [HRN.out]
      exact ⟨rfl, ⟨_, HE9.out⟩, HF9.out⟩
set_option maxRecDepth 100000 in
set_option maxHeartbeats 8000000 in
theorem neutral_sub (base g gs cap i : Nat) (l : List St) (vs : List Value) (V : Value) (s : St) (w : World) (h : EdX w base g gs cap l vs V) (hs : l[i]? = some s) (hb : ∀ s ∈ l, s.args.length ≤ 3 ∧ ∀ a ∈ s.args, 0 ≤ a ∧ a ≤ 100000) (hop : s.op = Oz.oSub) (hl : s.args.length = 2) (j0 j1 : Nat) (t0 t1 : St) (hj0 : s.args[0]? = some (j0 : Int)) (_ht0 : l[j0]? = some t0) (hi0 : j0 < i) (hj1 : s.args[1]? = some (j1 : Int)) (ht1 : l[j1]? = some t1) (_hi1 : j1 < i):
    Calls Try.prog 58 #[.pointer (some ⟨g, 0, none⟩), .int .i64 i] w (RepEnd base g gs cap l vs V (Oz.neutralR l i) w) := by
  have hil := (List.getElem?_eq_some_iff.1 hs).1
  have hbase := h.base_le
  have x0 := h.ed.cell 0
  simp only [List.getElem?_toArray, List.getElem?_cons_zero] at x0
  obtain ⟨v, hv, ⟨y0, y1, y2, y3, y4⟩, ho⟩ := h.at_ hs
  obtain ⟨A, c, rfl⟩ := own_form ho
  obtain ⟨R, hR⟩ : ∃ R, R = Oz.neutralR l i := ⟨_, rfl⟩
  rw [← hR]
  unfold Oz.neutralR at hR
  rw [at_get hs] at hR
  dsimp only at hR
  obtain ⟨n, hn⟩ : ∃ n, n = l.length := ⟨_, rfl⟩
  have HI : Hid (i < l.length) := Lib.hid hil
  rw [← hn] at hil x0
  have HH := Lib.hid h
  have HBB := Lib.hid hb
  have q0 : (i : Int) < (n : Int) := by omega
  have q1 : (0 : Int) ≤ (i : Int) := by omega
  have hgl := h.ed.lt
  have hgsl := h.gs_lt
  obtain ⟨num, hnum⟩ : ∃ num, num = s.num := ⟨_, rfl⟩
  obtain ⟨text, htext⟩ : ∃ text, text = s.text := ⟨_, rfl⟩
  obtain ⟨ty, hty⟩ : ∃ ty, ty = s.ty := ⟨_, rfl⟩
  obtain ⟨k, hk⟩ : ∃ k, k = s.args.length := ⟨_, rfl⟩
  rw [← hnum] at y2
  rw [← htext] at y3
  rw [← hty] at y4
  rw [← hk] at y1
  obtain ⟨q, c', hvq, _, hbq, hql, hc⟩ := own_at ho (by omega)
  injection hvq with hA hkk hcc
  clear hkk
  subst hA hcc
  have a0 : w.cell? ⟨q, 0, none⟩ = some (.int .i64 j0) := hc 0 _ (by rw [List.getElem?_map, hj0]; rfl)
  have ea0 : Oz.arg s 0 = (j0 : Int) := by unfold Oz.arg; rw [List.getD_eq_getElem?_getD, hj0]; rfl
  have p0 : (0 : Int) < (k : Int) := by omega
  have pp0 : 0 < k := by omega
  have a1 : w.cell? ⟨q, 1, none⟩ = some (.int .i64 j1) := hc 1 _ (by rw [List.getElem?_map, hj1]; rfl)
  have ea1 : Oz.arg s 1 = (j1 : Int) := by unfold Oz.arg; rw [List.getD_eq_getElem?_getD, hj1]; rfl
  have p1 : (1 : Int) < (k : Int) := by omega
  have pp1 : 1 < k := by omega
  rw [ea0, ea1] at hR
  rw [hop, if_neg (by decide), if_pos (by decide)] at hR
  obtain ⟨z1, hz1⟩ : ∃ z, z = decide (t1.op = nNumber ∧ t1.num = 0) := ⟨_, rfl⟩
  have ez1 : Oz.isR l (j1 : Int) 0 = z1 := by unfold Oz.isR; rw [at_get ht1, hz1]
  have HC1 : Hid (∀ w : World, EdAt w g gs cap l V → Calls Try.prog 78 #[.pointer (some ⟨g, 0, none⟩), .int .i64 j1, .int .i64 0] w fun e w' => e = .returned (.bool z1) ∧ Below w.heap.size w w') := Lib.hid (fun w h => by rw [hz1]; exact is_step g gs cap j1 l V t1 w h ht1 0)
  rw [ez1] at hR
  clear hz1 ez1
  obtain ⟨r0, hr0⟩ : ∃ r, r = Oz.replaceR l i j0 := ⟨_, rfl⟩
  have HP0 : Hid (∀ w : World, EdX w base g gs cap l vs V → Calls Try.prog 74 #[.pointer (some ⟨g, 0, none⟩), .int .i64 i, .int .i64 j0] w (RepEnd base g gs cap l vs V r0 w)) := Lib.hid (fun w h => by rw [hr0]; exact replace_any base g gs cap i j0 l vs V w h hi0 HI.out HBB.out)
  rw [Int.toNat_natCast, ← hr0] at hR
  clear hr0
  have HX0 := Lib.hid x0
  have HA0 := Lib.hid a0
  have HA1 := Lib.hid a1
  have HR := Lib.hid hR
  rw [hop] at y0
  unfold Oz.oSub at y0
  clear h hs hb hv ho hn hop hl hk hnum htext hty hc hR hj0 _ht0 hi0 ea0 a0 hj1 ht1 _hi1 ea1 a1
  go_enter Try.func58, Try.ntmps58
  go_upto_region 6 with (fail)
  obtain ⟨w1, hw1⟩ : ∃ w1, w1 = w.alloc (.cells #[.string ⟨#[45]⟩, .slice (some ⟨q, 0, none⟩) k c, .int .i64 num, .string ⟨text.toArray⟩, .int .i64 ty] 25) := ⟨_, rfl⟩
  rw [← hw1]
  have HB1 : Hid (Below w.heap.size w w1) := Lib.hid (by rw [hw1]; exact below_alloc _ _)
  have HS1 : Hid (Blk w1 w.heap.size 25 #[.string ⟨#[45]⟩, .slice (some ⟨q, 0, none⟩) k c, .int .i64 num, .string ⟨text.toArray⟩, .int .i64 ty]) := Lib.hid (by rw [hw1]; exact Blk.new _ _ _)
  clear hw1 x0 y0 y1 y2 y3 y4
  have s1 := HS1.out.cell 1
  simp only [List.getElem?_toArray, List.getElem?_cons_zero, List.getElem?_cons_succ] at s1
  have b1_0 := (HB1.out.cell (p := ⟨q, 0, none⟩) hql).trans HA0.out
  have b1_1 := (HB1.out.cell (p := ⟨q, 1, none⟩) hql).trans HA1.out
  go_wp2_with fail
  refine (HC1.out w1 (HH.out.below HB1.out).edAt).mono ?_
  rintro e w2 ⟨rfl, hb2⟩
  have HB2 := Lib.hid (HB1.out.trans (hb2.mono HB1.out.size))
  have HS2 := Lib.hid (HS1.out.below hb2 HS1.out.lt)
  clear s1 b1_0 b1_1
  clear hb2
  cases z1 with
  | false =>
    have HRN : Hid (R = none) := Lib.hid (by rw [HR.out]; rfl)
    go_wp2_with fail
    go_ret
    unfold RepEnd
    rw [HRN.out]
    exact ⟨rfl, HB2.out⟩
  | true =>
    have s2 := HS2.out.cell 1
    simp only [List.getElem?_toArray, List.getElem?_cons_zero, List.getElem?_cons_succ] at s2
    have b2_0 := (HB2.out.cell (p := ⟨q, 0, none⟩) hql).trans HA0.out
    have b2_1 := (HB2.out.cell (p := ⟨q, 1, none⟩) hql).trans HA1.out
    go_wp2_with fail
    refine (HP0.out w2 (HH.out.below HB2.out)).mono ?_
    intro e w3 h3
    clear s2 b2_0 b2_1
    cases r0 with
    | none =>
      have h3 : e = .returned (.bool false) ∧ Below w2.heap.size w2 w3 := h3
      obtain ⟨rfl, hb3⟩ := h3
      have HB3 := Lib.hid (HB2.out.trans (hb3.mono HB2.out.size))
      have HS3 := Lib.hid (HS2.out.below hb3 HS2.out.lt)
      clear hb3
      have HRN : Hid (R = none) := Lib.hid (by rw [HR.out]; rfl)
      go_wp2_with fail
      go_ret
      unfold RepEnd
      rw [HRN.out]
      exact ⟨rfl, HB3.out⟩
    | some l9 =>
      have h3 : e = .returned (.bool true) ∧ (∃ vs9, EdX w3 base g gs cap l9 vs9 V) ∧ FrX base w2 w3 := h3
      obtain ⟨rfl, ⟨vs9, he9⟩, hf9⟩ := h3
      have HE9 := Lib.hid he9
      have HF9 := Lib.hid (((FrX.refl base w).below HB2.out hbase).trans hf9)
      clear he9 hf9
      have HRN : Hid (R = some l9) := Lib.hid (by rw [HR.out]; rfl)
      go_wp2_with fail
      go_ret
      unfold RepEnd
      rw [HRN.out]
      exact ⟨rfl, ⟨_, HE9.out⟩, HF9.out⟩
set_option maxRecDepth 100000 in
set_option maxHeartbeats 8000000 in
theorem neutral_rep (base g gs cap i : Nat) (l : List St) (vs : List Value) (V : Value) (s : St) (w : World) (h : EdX w base g gs cap l vs V) (hs : l[i]? = some s) (hb : ∀ s ∈ l, s.args.length ≤ 3 ∧ ∀ a ∈ s.args, 0 ≤ a ∧ a ≤ 100000) (hop : s.op = Oz.oRep) (hl : s.args.length = 2) (j0 j1 : Nat) (t0 t1 : St) (hj0 : s.args[0]? = some (j0 : Int)) (_ht0 : l[j0]? = some t0) (hi0 : j0 < i) (hj1 : s.args[1]? = some (j1 : Int)) (ht1 : l[j1]? = some t1) (_hi1 : j1 < i):
    Calls Try.prog 58 #[.pointer (some ⟨g, 0, none⟩), .int .i64 i] w (RepEnd base g gs cap l vs V (Oz.neutralR l i) w) := by
  have hil := (List.getElem?_eq_some_iff.1 hs).1
  have hbase := h.base_le
  have x0 := h.ed.cell 0
  simp only [List.getElem?_toArray, List.getElem?_cons_zero] at x0
  obtain ⟨v, hv, ⟨y0, y1, y2, y3, y4⟩, ho⟩ := h.at_ hs
  obtain ⟨A, c, rfl⟩ := own_form ho
  obtain ⟨R, hR⟩ : ∃ R, R = Oz.neutralR l i := ⟨_, rfl⟩
  rw [← hR]
  unfold Oz.neutralR at hR
  rw [at_get hs] at hR
  dsimp only at hR
  obtain ⟨n, hn⟩ : ∃ n, n = l.length := ⟨_, rfl⟩
  have HI : Hid (i < l.length) := Lib.hid hil
  rw [← hn] at hil x0
  have HH := Lib.hid h
  have HBB := Lib.hid hb
  have q0 : (i : Int) < (n : Int) := by omega
  have q1 : (0 : Int) ≤ (i : Int) := by omega
  have hgl := h.ed.lt
  have hgsl := h.gs_lt
  obtain ⟨num, hnum⟩ : ∃ num, num = s.num := ⟨_, rfl⟩
  obtain ⟨text, htext⟩ : ∃ text, text = s.text := ⟨_, rfl⟩
  obtain ⟨ty, hty⟩ : ∃ ty, ty = s.ty := ⟨_, rfl⟩
  obtain ⟨k, hk⟩ : ∃ k, k = s.args.length := ⟨_, rfl⟩
  rw [← hnum] at y2
  rw [← htext] at y3
  rw [← hty] at y4
  rw [← hk] at y1
  obtain ⟨q, c', hvq, _, hbq, hql, hc⟩ := own_at ho (by omega)
  injection hvq with hA hkk hcc
  clear hkk
  subst hA hcc
  have a0 : w.cell? ⟨q, 0, none⟩ = some (.int .i64 j0) := hc 0 _ (by rw [List.getElem?_map, hj0]; rfl)
  have ea0 : Oz.arg s 0 = (j0 : Int) := by unfold Oz.arg; rw [List.getD_eq_getElem?_getD, hj0]; rfl
  have p0 : (0 : Int) < (k : Int) := by omega
  have pp0 : 0 < k := by omega
  have a1 : w.cell? ⟨q, 1, none⟩ = some (.int .i64 j1) := hc 1 _ (by rw [List.getElem?_map, hj1]; rfl)
  have ea1 : Oz.arg s 1 = (j1 : Int) := by unfold Oz.arg; rw [List.getD_eq_getElem?_getD, hj1]; rfl
  have p1 : (1 : Int) < (k : Int) := by omega
  have pp1 : 1 < k := by omega
  rw [ea0, ea1] at hR
  rw [hop, if_neg (by decide), if_neg (by decide), if_neg (by decide), if_neg (by decide), if_neg (by decide), if_pos (by decide)] at hR
  obtain ⟨z1, hz1⟩ : ∃ z, z = decide (t1.op = nNumber ∧ t1.num = 1) := ⟨_, rfl⟩
  have ez1 : Oz.isR l (j1 : Int) 1 = z1 := by unfold Oz.isR; rw [at_get ht1, hz1]
  have HC1 : Hid (∀ w : World, EdAt w g gs cap l V → Calls Try.prog 78 #[.pointer (some ⟨g, 0, none⟩), .int .i64 j1, .int .i64 1] w fun e w' => e = .returned (.bool z1) ∧ Below w.heap.size w w') := Lib.hid (fun w h => by rw [hz1]; exact is_step g gs cap j1 l V t1 w h ht1 1)
  rw [ez1] at hR
  clear hz1 ez1
  obtain ⟨r0, hr0⟩ : ∃ r, r = Oz.replaceR l i j0 := ⟨_, rfl⟩
  have HP0 : Hid (∀ w : World, EdX w base g gs cap l vs V → Calls Try.prog 74 #[.pointer (some ⟨g, 0, none⟩), .int .i64 i, .int .i64 j0] w (RepEnd base g gs cap l vs V r0 w)) := Lib.hid (fun w h => by rw [hr0]; exact replace_any base g gs cap i j0 l vs V w h hi0 HI.out HBB.out)
  rw [Int.toNat_natCast, ← hr0] at hR
  clear hr0
  have HX0 := Lib.hid x0
  have HA0 := Lib.hid a0
  have HA1 := Lib.hid a1
  have HR := Lib.hid hR
  rw [hop] at y0
  unfold Oz.oRep at y0
  clear h hs hb hv ho hn hop hl hk hnum htext hty hc hR hj0 _ht0 hi0 ea0 a0 hj1 ht1 _hi1 ea1 a1
  go_enter Try.func58, Try.ntmps58
  go_upto_region 19 with (fail)
  obtain ⟨w1, hw1⟩ : ∃ w1, w1 = w.alloc (.cells #[.string ⟨#[114, 101, 112]⟩, .slice (some ⟨q, 0, none⟩) k c, .int .i64 num, .string ⟨text.toArray⟩, .int .i64 ty] 25) := ⟨_, rfl⟩
  rw [← hw1]
  have HB1 : Hid (Below w.heap.size w w1) := Lib.hid (by rw [hw1]; exact below_alloc _ _)
  have HS1 : Hid (Blk w1 w.heap.size 25 #[.string ⟨#[114, 101, 112]⟩, .slice (some ⟨q, 0, none⟩) k c, .int .i64 num, .string ⟨text.toArray⟩, .int .i64 ty]) := Lib.hid (by rw [hw1]; exact Blk.new _ _ _)
  clear hw1 x0 y0 y1 y2 y3 y4
  have s1 := HS1.out.cell 1
  simp only [List.getElem?_toArray, List.getElem?_cons_zero, List.getElem?_cons_succ] at s1
  have b1_0 := (HB1.out.cell (p := ⟨q, 0, none⟩) hql).trans HA0.out
  have b1_1 := (HB1.out.cell (p := ⟨q, 1, none⟩) hql).trans HA1.out
  go_wp2_with fail
  refine (HC1.out w1 (HH.out.below HB1.out).edAt).mono ?_
  rintro e w2 ⟨rfl, hb2⟩
  have HB2 := Lib.hid (HB1.out.trans (hb2.mono HB1.out.size))
  have HS2 := Lib.hid (HS1.out.below hb2 HS1.out.lt)
  clear s1 b1_0 b1_1
  clear hb2
  cases z1 with
  | false =>
    have HRN : Hid (R = none) := Lib.hid (by rw [HR.out]; rfl)
    go_wp2_with fail
    go_ret
    unfold RepEnd
    rw [HRN.out]
    exact ⟨rfl, HB2.out⟩
  | true =>
    have s2 := HS2.out.cell 1
    simp only [List.getElem?_toArray, List.getElem?_cons_zero, List.getElem?_cons_succ] at s2
    have b2_0 := (HB2.out.cell (p := ⟨q, 0, none⟩) hql).trans HA0.out
    have b2_1 := (HB2.out.cell (p := ⟨q, 1, none⟩) hql).trans HA1.out
    go_wp2_with fail
    refine (HP0.out w2 (HH.out.below HB2.out)).mono ?_
    intro e w3 h3
    clear s2 b2_0 b2_1
    cases r0 with
    | none =>
      have h3 : e = .returned (.bool false) ∧ Below w2.heap.size w2 w3 := h3
      obtain ⟨rfl, hb3⟩ := h3
      have HB3 := Lib.hid (HB2.out.trans (hb3.mono HB2.out.size))
      have HS3 := Lib.hid (HS2.out.below hb3 HS2.out.lt)
      clear hb3
      have HRN : Hid (R = none) := Lib.hid (by rw [HR.out]; rfl)
      go_wp2_with fail
      go_ret
      unfold RepEnd
      rw [HRN.out]
      exact ⟨rfl, HB3.out⟩
    | some l9 =>
      have h3 : e = .returned (.bool true) ∧ (∃ vs9, EdX w3 base g gs cap l9 vs9 V) ∧ FrX base w2 w3 := h3
      obtain ⟨rfl, ⟨vs9, he9⟩, hf9⟩ := h3
      have HE9 := Lib.hid he9
      have HF9 := Lib.hid (((FrX.refl base w).below HB2.out hbase).trans hf9)
      clear he9 hf9
      have HRN : Hid (R = some l9) := Lib.hid (by rw [HR.out]; rfl)
      go_wp2_with fail
      go_ret
      unfold RepEnd
      rw [HRN.out]
      exact ⟨rfl, ⟨_, HE9.out⟩, HF9.out⟩
set_option maxRecDepth 100000 in
set_option maxHeartbeats 8000000 in
theorem neutral_min (base g gs cap i : Nat) (l : List St) (vs : List Value) (V : Value) (s : St) (w : World) (h : EdX w base g gs cap l vs V) (hs : l[i]? = some s) (hb : ∀ s ∈ l, s.args.length ≤ 3 ∧ ∀ a ∈ s.args, 0 ≤ a ∧ a ≤ 100000) (hop : s.op = Oz.oMin) (hl : s.args.length = 2) (j0 j1 : Nat) (t0 t1 : St) (hj0 : s.args[0]? = some (j0 : Int)) (_ht0 : l[j0]? = some t0) (hi0 : j0 < i) (hj1 : s.args[1]? = some (j1 : Int)) (ht1 : l[j1]? = some t1) (hi1 : j1 < i):
    Calls Try.prog 58 #[.pointer (some ⟨g, 0, none⟩), .int .i64 i] w (RepEnd base g gs cap l vs V (Oz.neutralR l i) w) := by
  have hil := (List.getElem?_eq_some_iff.1 hs).1
  have hbase := h.base_le
  have x0 := h.ed.cell 0
  simp only [List.getElem?_toArray, List.getElem?_cons_zero] at x0
  obtain ⟨v, hv, ⟨y0, y1, y2, y3, y4⟩, ho⟩ := h.at_ hs
  obtain ⟨A, c, rfl⟩ := own_form ho
  obtain ⟨R, hR⟩ : ∃ R, R = Oz.neutralR l i := ⟨_, rfl⟩
  rw [← hR]
  unfold Oz.neutralR at hR
  rw [at_get hs] at hR
  dsimp only at hR
  obtain ⟨n, hn⟩ : ∃ n, n = l.length := ⟨_, rfl⟩
  have HI : Hid (i < l.length) := Lib.hid hil
  rw [← hn] at hil x0
  have HH := Lib.hid h
  have HBB := Lib.hid hb
  have q0 : (i : Int) < (n : Int) := by omega
  have q1 : (0 : Int) ≤ (i : Int) := by omega
  have hgl := h.ed.lt
  have hgsl := h.gs_lt
  obtain ⟨num, hnum⟩ : ∃ num, num = s.num := ⟨_, rfl⟩
  obtain ⟨text, htext⟩ : ∃ text, text = s.text := ⟨_, rfl⟩
  obtain ⟨ty, hty⟩ : ∃ ty, ty = s.ty := ⟨_, rfl⟩
  obtain ⟨k, hk⟩ : ∃ k, k = s.args.length := ⟨_, rfl⟩
  rw [← hnum] at y2
  rw [← htext] at y3
  rw [← hty] at y4
  rw [← hk] at y1
  obtain ⟨q, c', hvq, _, hbq, hql, hc⟩ := own_at ho (by omega)
  injection hvq with hA hkk hcc
  clear hkk
  subst hA hcc
  have a0 : w.cell? ⟨q, 0, none⟩ = some (.int .i64 j0) := hc 0 _ (by rw [List.getElem?_map, hj0]; rfl)
  have ea0 : Oz.arg s 0 = (j0 : Int) := by unfold Oz.arg; rw [List.getD_eq_getElem?_getD, hj0]; rfl
  have p0 : (0 : Int) < (k : Int) := by omega
  have pp0 : 0 < k := by omega
  have a1 : w.cell? ⟨q, 1, none⟩ = some (.int .i64 j1) := hc 1 _ (by rw [List.getElem?_map, hj1]; rfl)
  have ea1 : Oz.arg s 1 = (j1 : Int) := by unfold Oz.arg; rw [List.getD_eq_getElem?_getD, hj1]; rfl
  have p1 : (1 : Int) < (k : Int) := by omega
  have pp1 : 1 < k := by omega
  rw [ea0, ea1] at hR
  rw [hop, if_neg (by decide), if_neg (by decide), if_neg (by decide), if_pos (by decide)] at hR
  obtain ⟨r0, hr0⟩ : ∃ r, r = Oz.replaceR l i j0 := ⟨_, rfl⟩
  have HP0 : Hid (∀ w : World, EdX w base g gs cap l vs V → Calls Try.prog 74 #[.pointer (some ⟨g, 0, none⟩), .int .i64 i, .int .i64 j0] w (RepEnd base g gs cap l vs V r0 w)) := Lib.hid (fun w h => by rw [hr0]; exact replace_any base g gs cap i j0 l vs V w h hi0 HI.out HBB.out)
  rw [Int.toNat_natCast, ← hr0] at hR
  clear hr0
  by_cases hjj : j0 = j1
  · subst hjj
    rw [if_pos rfl] at hR
    have HX0 := Lib.hid x0
    have HA0 := Lib.hid a0
    have HA1 := Lib.hid a1
    have HR := Lib.hid hR
    rw [hop] at y0
    unfold Oz.oMin at y0
    clear h hs hb hv ho hn hop hl hk hnum htext hty hc hR hj0 _ht0 hi0 ea0 a0 hj1 ht1 hi1 ea1 a1
    go_enter Try.func58, Try.ntmps58
    go_upto_region 15 with (fail)
    obtain ⟨w1, hw1⟩ : ∃ w1, w1 = w.alloc (.cells #[.string ⟨#[109, 105, 110]⟩, .slice (some ⟨q, 0, none⟩) k c, .int .i64 num, .string ⟨text.toArray⟩, .int .i64 ty] 25) := ⟨_, rfl⟩
    rw [← hw1]
    have HB1 : Hid (Below w.heap.size w w1) := Lib.hid (by rw [hw1]; exact below_alloc _ _)
    have HS1 : Hid (Blk w1 w.heap.size 25 #[.string ⟨#[109, 105, 110]⟩, .slice (some ⟨q, 0, none⟩) k c, .int .i64 num, .string ⟨text.toArray⟩, .int .i64 ty]) := Lib.hid (by rw [hw1]; exact Blk.new _ _ _)
    clear hw1 x0 y0 y1 y2 y3 y4
    have s1 := HS1.out.cell 1
    simp only [List.getElem?_toArray, List.getElem?_cons_zero, List.getElem?_cons_succ] at s1
    have b1_0 := (HB1.out.cell (p := ⟨q, 0, none⟩) hql).trans HA0.out
    have b1_1 := (HB1.out.cell (p := ⟨q, 1, none⟩) hql).trans HA1.out
    have e1 : ((j0 : Int) == (j0 : Int)) = true := by simp
    go_wp2_with fail
    go_still_tail 16, (by kernel_rfl)
    change wpList _ _ _ _ _ w1.drew
    obtain ⟨w2, hw2⟩ : ∃ w2, w2 = w1.drew := ⟨_, rfl⟩
    rw [← hw2]
    have HB2 : Hid (Below w.heap.size w w2) := Lib.hid (by rw [hw2]; exact HB1.out.drew)
    clear hw2
    clear s1 b1_0 b1_1
    go_wp2_with fail
    refine (HP0.out w2 (HH.out.below HB2.out)).mono ?_
    intro e w3 h3
    cases r0 with
    | none =>
      have h3 : e = .returned (.bool false) ∧ Below w2.heap.size w2 w3 := h3
      obtain ⟨rfl, hb3⟩ := h3
      have HB3 := Lib.hid (HB2.out.trans (hb3.mono HB2.out.size))
      clear hb3
      have HRN : Hid (R = none) := Lib.hid HR.out
      go_wp2_with fail
      go_ret
      unfold RepEnd
      rw [HRN.out]
      exact ⟨rfl, HB3.out⟩
    | some l9 =>
      have h3 : e = .returned (.bool true) ∧ (∃ vs9, EdX w3 base g gs cap l9 vs9 V) ∧ FrX base w2 w3 := h3
      obtain ⟨rfl, ⟨vs9, he9⟩, hf9⟩ := h3
      have HE9 := Lib.hid he9
      have HF9 := Lib.hid (((FrX.refl base w).below HB2.out hbase).trans hf9)
      clear he9 hf9
      have HRN : Hid (R = some l9) := Lib.hid HR.out
      go_wp2_with fail
      go_ret
      unfold RepEnd
      rw [HRN.out]
      exact ⟨rfl, ⟨_, HE9.out⟩, HF9.out⟩
  · have e1 : ((j0 : Int) == (j1 : Int)) = false := beq_eq_false_iff_ne.2 (by omega)
    rw [if_neg (by omega)] at hR
    have HX0 := Lib.hid x0
    have HA0 := Lib.hid a0
    have HA1 := Lib.hid a1
    have HR := Lib.hid hR
    rw [hop] at y0
    unfold Oz.oMin at y0
    clear hjj
    clear h hs hb hv ho hn hop hl hk hnum htext hty hc hR hj0 _ht0 hi0 ea0 a0 hj1 ht1 hi1 ea1 a1
    go_enter Try.func58, Try.ntmps58
    go_upto_region 15 with (fail)
    obtain ⟨w1, hw1⟩ : ∃ w1, w1 = w.alloc (.cells #[.string ⟨#[109, 105, 110]⟩, .slice (some ⟨q, 0, none⟩) k c, .int .i64 num, .string ⟨text.toArray⟩, .int .i64 ty] 25) := ⟨_, rfl⟩
    rw [← hw1]
    have HB1 : Hid (Below w.heap.size w w1) := Lib.hid (by rw [hw1]; exact below_alloc _ _)
    have HS1 : Hid (Blk w1 w.heap.size 25 #[.string ⟨#[109, 105, 110]⟩, .slice (some ⟨q, 0, none⟩) k c, .int .i64 num, .string ⟨text.toArray⟩, .int .i64 ty]) := Lib.hid (by rw [hw1]; exact Blk.new _ _ _)
    clear hw1 x0 y0 y1 y2 y3 y4
    have s1 := HS1.out.cell 1
    simp only [List.getElem?_toArray, List.getElem?_cons_zero, List.getElem?_cons_succ] at s1
    have b1_0 := (HB1.out.cell (p := ⟨q, 0, none⟩) hql).trans HA0.out
    have b1_1 := (HB1.out.cell (p := ⟨q, 1, none⟩) hql).trans HA1.out
    go_wp2_with fail
    go_quiet (fail)
    have HRN := HR
    go_wp2_with fail
    go_ret
    unfold RepEnd
    rw [HRN.out]
    exact ⟨rfl, below_drewN HB1.out _⟩
set_option maxRecDepth 100000 in
set_option maxHeartbeats 8000000 in
theorem neutral_max (base g gs cap i : Nat) (l : List St) (vs : List Value) (V : Value) (s : St) (w : World) (h : EdX w base g gs cap l vs V) (hs : l[i]? = some s) (hb : ∀ s ∈ l, s.args.length ≤ 3 ∧ ∀ a ∈ s.args, 0 ≤ a ∧ a ≤ 100000) (hop : s.op = Oz.oMax) (hl : s.args.length = 2) (j0 j1 : Nat) (t0 t1 : St) (hj0 : s.args[0]? = some (j0 : Int)) (_ht0 : l[j0]? = some t0) (hi0 : j0 < i) (hj1 : s.args[1]? = some (j1 : Int)) (ht1 : l[j1]? = some t1) (hi1 : j1 < i):
    Calls Try.prog 58 #[.pointer (some ⟨g, 0, none⟩), .int .i64 i] w (RepEnd base g gs cap l vs V (Oz.neutralR l i) w) := by
  have hil := (List.getElem?_eq_some_iff.1 hs).1
  have hbase := h.base_le
  have x0 := h.ed.cell 0
  simp only [List.getElem?_toArray, List.getElem?_cons_zero] at x0
  obtain ⟨v, hv, ⟨y0, y1, y2, y3, y4⟩, ho⟩ := h.at_ hs
  obtain ⟨A, c, rfl⟩ := own_form ho
  obtain ⟨R, hR⟩ : ∃ R, R = Oz.neutralR l i := ⟨_, rfl⟩
  rw [← hR]
  unfold Oz.neutralR at hR
  rw [at_get hs] at hR
  dsimp only at hR
  obtain ⟨n, hn⟩ : ∃ n, n = l.length := ⟨_, rfl⟩
  have HI : Hid (i < l.length) := Lib.hid hil
  rw [← hn] at hil x0
  have HH := Lib.hid h
  have HBB := Lib.hid hb
  have q0 : (i : Int) < (n : Int) := by omega
  have q1 : (0 : Int) ≤ (i : Int) := by omega
  have hgl := h.ed.lt
  have hgsl := h.gs_lt
  obtain ⟨num, hnum⟩ : ∃ num, num = s.num := ⟨_, rfl⟩
  obtain ⟨text, htext⟩ : ∃ text, text = s.text := ⟨_, rfl⟩
  obtain ⟨ty, hty⟩ : ∃ ty, ty = s.ty := ⟨_, rfl⟩
  obtain ⟨k, hk⟩ : ∃ k, k = s.args.length := ⟨_, rfl⟩
  rw [← hnum] at y2
  rw [← htext] at y3
  rw [← hty] at y4
  rw [← hk] at y1
  obtain ⟨q, c', hvq, _, hbq, hql, hc⟩ := own_at ho (by omega)
  injection hvq with hA hkk hcc
  clear hkk
  subst hA hcc
  have a0 : w.cell? ⟨q, 0, none⟩ = some (.int .i64 j0) := hc 0 _ (by rw [List.getElem?_map, hj0]; rfl)
  have ea0 : Oz.arg s 0 = (j0 : Int) := by unfold Oz.arg; rw [List.getD_eq_getElem?_getD, hj0]; rfl
  have p0 : (0 : Int) < (k : Int) := by omega
  have pp0 : 0 < k := by omega
  have a1 : w.cell? ⟨q, 1, none⟩ = some (.int .i64 j1) := hc 1 _ (by rw [List.getElem?_map, hj1]; rfl)
  have ea1 : Oz.arg s 1 = (j1 : Int) := by unfold Oz.arg; rw [List.getD_eq_getElem?_getD, hj1]; rfl
  have p1 : (1 : Int) < (k : Int) := by omega
  have pp1 : 1 < k := by omega
  rw [ea0, ea1] at hR
  rw [hop, if_neg (by decide), if_neg (by decide), if_neg (by decide), if_pos (by decide)] at hR
  obtain ⟨r0, hr0⟩ : ∃ r, r = Oz.replaceR l i j0 := ⟨_, rfl⟩
  have HP0 : Hid (∀ w : World, EdX w base g gs cap l vs V → Calls Try.prog 74 #[.pointer (some ⟨g, 0, none⟩), .int .i64 i, .int .i64 j0] w (RepEnd base g gs cap l vs V r0 w)) := Lib.hid (fun w h => by rw [hr0]; exact replace_any base g gs cap i j0 l vs V w h hi0 HI.out HBB.out)
  rw [Int.toNat_natCast, ← hr0] at hR
  clear hr0
  by_cases hjj : j0 = j1
  · subst hjj
    rw [if_pos rfl] at hR
    have HX0 := Lib.hid x0
    have HA0 := Lib.hid a0
    have HA1 := Lib.hid a1
    have HR := Lib.hid hR
    rw [hop] at y0
    unfold Oz.oMax at y0
    clear h hs hb hv ho hn hop hl hk hnum htext hty hc hR hj0 _ht0 hi0 ea0 a0 hj1 ht1 hi1 ea1 a1
    go_enter Try.func58, Try.ntmps58
    go_upto_region 15 with (fail)
    obtain ⟨w1, hw1⟩ : ∃ w1, w1 = w.alloc (.cells #[.string ⟨#[109, 97, 120]⟩, .slice (some ⟨q, 0, none⟩) k c, .int .i64 num, .string ⟨text.toArray⟩, .int .i64 ty] 25) := ⟨_, rfl⟩
    rw [← hw1]
    have HB1 : Hid (Below w.heap.size w w1) := Lib.hid (by rw [hw1]; exact below_alloc _ _)
    have HS1 : Hid (Blk w1 w.heap.size 25 #[.string ⟨#[109, 97, 120]⟩, .slice (some ⟨q, 0, none⟩) k c, .int .i64 num, .string ⟨text.toArray⟩, .int .i64 ty]) := Lib.hid (by rw [hw1]; exact Blk.new _ _ _)
    clear hw1 x0 y0 y1 y2 y3 y4
    have s1 := HS1.out.cell 1
    simp only [List.getElem?_toArray, List.getElem?_cons_zero, List.getElem?_cons_succ] at s1
    have b1_0 := (HB1.out.cell (p := ⟨q, 0, none⟩) hql).trans HA0.out
    have b1_1 := (HB1.out.cell (p := ⟨q, 1, none⟩) hql).trans HA1.out
    have e1 : ((j0 : Int) == (j0 : Int)) = true := by simp
    go_wp2_with fail
    go_still_tail 16, (by kernel_rfl)
    change wpList _ _ _ _ _ w1.drew
    obtain ⟨w2, hw2⟩ : ∃ w2, w2 = w1.drew := ⟨_, rfl⟩
    rw [← hw2]
    have HB2 : Hid (Below w.heap.size w w2) := Lib.hid (by rw [hw2]; exact HB1.out.drew)
    clear hw2
    clear s1 b1_0 b1_1
    go_wp2_with fail
    refine (HP0.out w2 (HH.out.below HB2.out)).mono ?_
    intro e w3 h3
    cases r0 with
    | none =>
      have h3 : e = .returned (.bool false) ∧ Below w2.heap.size w2 w3 := h3
      obtain ⟨rfl, hb3⟩ := h3
      have HB3 := Lib.hid (HB2.out.trans (hb3.mono HB2.out.size))
      clear hb3
      have HRN : Hid (R = none) := Lib.hid HR.out
      go_wp2_with fail
      go_ret
      unfold RepEnd
      rw [HRN.out]
      exact ⟨rfl, HB3.out⟩
    | some l9 =>
      have h3 : e = .returned (.bool true) ∧ (∃ vs9, EdX w3 base g gs cap l9 vs9 V) ∧ FrX base w2 w3 := h3
      obtain ⟨rfl, ⟨vs9, he9⟩, hf9⟩ := h3
      have HE9 := Lib.hid he9
      have HF9 := Lib.hid (((FrX.refl base w).below HB2.out hbase).trans hf9)
      clear he9 hf9
      have HRN : Hid (R = some l9) := Lib.hid HR.out
      go_wp2_with fail
      go_ret
      unfold RepEnd
      rw [HRN.out]
      exact ⟨rfl, ⟨_, HE9.out⟩, HF9.out⟩
  · have e1 : ((j0 : Int) == (j1 : Int)) = false := beq_eq_false_iff_ne.2 (by omega)
    rw [if_neg (by omega)] at hR
    have HX0 := Lib.hid x0
    have HA0 := Lib.hid a0
    have HA1 := Lib.hid a1
    have HR := Lib.hid hR
    rw [hop] at y0
    unfold Oz.oMax at y0
    clear hjj
    clear h hs hb hv ho hn hop hl hk hnum htext hty hc hR hj0 _ht0 hi0 ea0 a0 hj1 ht1 hi1 ea1 a1
    go_enter Try.func58, Try.ntmps58
    go_upto_region 15 with (fail)
    obtain ⟨w1, hw1⟩ : ∃ w1, w1 = w.alloc (.cells #[.string ⟨#[109, 97, 120]⟩, .slice (some ⟨q, 0, none⟩) k c, .int .i64 num, .string ⟨text.toArray⟩, .int .i64 ty] 25) := ⟨_, rfl⟩
    rw [← hw1]
    have HB1 : Hid (Below w.heap.size w w1) := Lib.hid (by rw [hw1]; exact below_alloc _ _)
    have HS1 : Hid (Blk w1 w.heap.size 25 #[.string ⟨#[109, 97, 120]⟩, .slice (some ⟨q, 0, none⟩) k c, .int .i64 num, .string ⟨text.toArray⟩, .int .i64 ty]) := Lib.hid (by rw [hw1]; exact Blk.new _ _ _)
    clear hw1 x0 y0 y1 y2 y3 y4
    have s1 := HS1.out.cell 1
    simp only [List.getElem?_toArray, List.getElem?_cons_zero, List.getElem?_cons_succ] at s1
    have b1_0 := (HB1.out.cell (p := ⟨q, 0, none⟩) hql).trans HA0.out
    have b1_1 := (HB1.out.cell (p := ⟨q, 1, none⟩) hql).trans HA1.out
    go_wp2_with fail
    go_quiet (fail)
    have HRN := HR
    go_wp2_with fail
    go_ret
    unfold RepEnd
    rw [HRN.out]
    exact ⟨rfl, below_drewN HB1.out _⟩
set_option maxRecDepth 100000 in
set_option maxHeartbeats 8000000 in
theorem neutral_and (base g gs cap i : Nat) (l : List St) (vs : List Value) (V : Value) (s : St) (w : World) (h : EdX w base g gs cap l vs V) (hs : l[i]? = some s) (hb : ∀ s ∈ l, s.args.length ≤ 3 ∧ ∀ a ∈ s.args, 0 ≤ a ∧ a ≤ 100000) (hop : s.op = Oz.oAnd) (hl : s.args.length = 2) (j0 j1 : Nat) (t0 t1 : St) (hj0 : s.args[0]? = some (j0 : Int)) (_ht0 : l[j0]? = some t0) (hi0 : j0 < i) (hj1 : s.args[1]? = some (j1 : Int)) (ht1 : l[j1]? = some t1) (hi1 : j1 < i):
    Calls Try.prog 58 #[.pointer (some ⟨g, 0, none⟩), .int .i64 i] w (RepEnd base g gs cap l vs V (Oz.neutralR l i) w) := by
  have hil := (List.getElem?_eq_some_iff.1 hs).1
  have hbase := h.base_le
  have x0 := h.ed.cell 0
  simp only [List.getElem?_toArray, List.getElem?_cons_zero] at x0
  obtain ⟨v, hv, ⟨y0, y1, y2, y3, y4⟩, ho⟩ := h.at_ hs
  obtain ⟨A, c, rfl⟩ := own_form ho
  obtain ⟨R, hR⟩ : ∃ R, R = Oz.neutralR l i := ⟨_, rfl⟩
  rw [← hR]
  unfold Oz.neutralR at hR
  rw [at_get hs] at hR
  dsimp only at hR
  obtain ⟨n, hn⟩ : ∃ n, n = l.length := ⟨_, rfl⟩
  have HI : Hid (i < l.length) := Lib.hid hil
  rw [← hn] at hil x0
  have HH := Lib.hid h
  have HBB := Lib.hid hb
  have q0 : (i : Int) < (n : Int) := by omega
  have q1 : (0 : Int) ≤ (i : Int) := by omega
  have hgl := h.ed.lt
  have hgsl := h.gs_lt
  obtain ⟨num, hnum⟩ : ∃ num, num = s.num := ⟨_, rfl⟩
  obtain ⟨text, htext⟩ : ∃ text, text = s.text := ⟨_, rfl⟩
  obtain ⟨ty, hty⟩ : ∃ ty, ty = s.ty := ⟨_, rfl⟩
  obtain ⟨k, hk⟩ : ∃ k, k = s.args.length := ⟨_, rfl⟩
  rw [← hnum] at y2
  rw [← htext] at y3
  rw [← hty] at y4
  rw [← hk] at y1
  obtain ⟨q, c', hvq, _, hbq, hql, hc⟩ := own_at ho (by omega)
  injection hvq with hA hkk hcc
  clear hkk
  subst hA hcc
  have a0 : w.cell? ⟨q, 0, none⟩ = some (.int .i64 j0) := hc 0 _ (by rw [List.getElem?_map, hj0]; rfl)
  have ea0 : Oz.arg s 0 = (j0 : Int) := by unfold Oz.arg; rw [List.getD_eq_getElem?_getD, hj0]; rfl
  have p0 : (0 : Int) < (k : Int) := by omega
  have pp0 : 0 < k := by omega
  have a1 : w.cell? ⟨q, 1, none⟩ = some (.int .i64 j1) := hc 1 _ (by rw [List.getElem?_map, hj1]; rfl)
  have ea1 : Oz.arg s 1 = (j1 : Int) := by unfold Oz.arg; rw [List.getD_eq_getElem?_getD, hj1]; rfl
  have p1 : (1 : Int) < (k : Int) := by omega
  have pp1 : 1 < k := by omega
  rw [ea0, ea1] at hR
  rw [hop, if_neg (by decide), if_neg (by decide), if_neg (by decide), if_pos (by decide)] at hR
  obtain ⟨r0, hr0⟩ : ∃ r, r = Oz.replaceR l i j0 := ⟨_, rfl⟩
  have HP0 : Hid (∀ w : World, EdX w base g gs cap l vs V → Calls Try.prog 74 #[.pointer (some ⟨g, 0, none⟩), .int .i64 i, .int .i64 j0] w (RepEnd base g gs cap l vs V r0 w)) := Lib.hid (fun w h => by rw [hr0]; exact replace_any base g gs cap i j0 l vs V w h hi0 HI.out HBB.out)
  rw [Int.toNat_natCast, ← hr0] at hR
  clear hr0
  by_cases hjj : j0 = j1
  · subst hjj
    rw [if_pos rfl] at hR
    have HX0 := Lib.hid x0
    have HA0 := Lib.hid a0
    have HA1 := Lib.hid a1
    have HR := Lib.hid hR
    rw [hop] at y0
    unfold Oz.oAnd at y0
    clear h hs hb hv ho hn hop hl hk hnum htext hty hc hR hj0 _ht0 hi0 ea0 a0 hj1 ht1 hi1 ea1 a1
    go_enter Try.func58, Try.ntmps58
    go_upto_region 15 with (fail)
    obtain ⟨w1, hw1⟩ : ∃ w1, w1 = w.alloc (.cells #[.string ⟨#[97, 110, 100]⟩, .slice (some ⟨q, 0, none⟩) k c, .int .i64 num, .string ⟨text.toArray⟩, .int .i64 ty] 25) := ⟨_, rfl⟩
    rw [← hw1]
    have HB1 : Hid (Below w.heap.size w w1) := Lib.hid (by rw [hw1]; exact below_alloc _ _)
    have HS1 : Hid (Blk w1 w.heap.size 25 #[.string ⟨#[97, 110, 100]⟩, .slice (some ⟨q, 0, none⟩) k c, .int .i64 num, .string ⟨text.toArray⟩, .int .i64 ty]) := Lib.hid (by rw [hw1]; exact Blk.new _ _ _)
    clear hw1 x0 y0 y1 y2 y3 y4
    have s1 := HS1.out.cell 1
    simp only [List.getElem?_toArray, List.getElem?_cons_zero, List.getElem?_cons_succ] at s1
    have b1_0 := (HB1.out.cell (p := ⟨q, 0, none⟩) hql).trans HA0.out
    have b1_1 := (HB1.out.cell (p := ⟨q, 1, none⟩) hql).trans HA1.out
    have e1 : ((j0 : Int) == (j0 : Int)) = true := by simp
    go_wp2_with fail
    go_still_tail 16, (by kernel_rfl)
    change wpList _ _ _ _ _ w1.drew
    obtain ⟨w2, hw2⟩ : ∃ w2, w2 = w1.drew := ⟨_, rfl⟩
    rw [← hw2]
    have HB2 : Hid (Below w.heap.size w w2) := Lib.hid (by rw [hw2]; exact HB1.out.drew)
    clear hw2
    clear s1 b1_0 b1_1
    go_wp2_with fail
    refine (HP0.out w2 (HH.out.below HB2.out)).mono ?_
    intro e w3 h3
    cases r0 with
    | none =>
      have h3 : e = .returned (.bool false) ∧ Below w2.heap.size w2 w3 := h3
      obtain ⟨rfl, hb3⟩ := h3
      have HB3 := Lib.hid (HB2.out.trans (hb3.mono HB2.out.size))
      clear hb3
      have HRN : Hid (R = none) := Lib.hid HR.out
      go_wp2_with fail
      go_ret
      unfold RepEnd
      rw [HRN.out]
      exact ⟨rfl, HB3.out⟩
    | some l9 =>
      have h3 : e = .returned (.bool true) ∧ (∃ vs9, EdX w3 base g gs cap l9 vs9 V) ∧ FrX base w2 w3 := h3
      obtain ⟨rfl, ⟨vs9, he9⟩, hf9⟩ := h3
      have HE9 := Lib.hid he9
      have HF9 := Lib.hid (((FrX.refl base w).below HB2.out hbase).trans hf9)
      clear he9 hf9
      have HRN : Hid (R = some l9) := Lib.hid HR.out
      go_wp2_with fail
      go_ret
      unfold RepEnd
      rw [HRN.out]
      exact ⟨rfl, ⟨_, HE9.out⟩, HF9.out⟩
  · have e1 : ((j0 : Int) == (j1 : Int)) = false := beq_eq_false_iff_ne.2 (by omega)
    rw [if_neg (by omega)] at hR
    have HX0 := Lib.hid x0
    have HA0 := Lib.hid a0
    have HA1 := Lib.hid a1
    have HR := Lib.hid hR
    rw [hop] at y0
    unfold Oz.oAnd at y0
    clear hjj
    clear h hs hb hv ho hn hop hl hk hnum htext hty hc hR hj0 _ht0 hi0 ea0 a0 hj1 ht1 hi1 ea1 a1
    go_enter Try.func58, Try.ntmps58
    go_upto_region 15 with (fail)
    obtain ⟨w1, hw1⟩ : ∃ w1, w1 = w.alloc (.cells #[.string ⟨#[97, 110, 100]⟩, .slice (some ⟨q, 0, none⟩) k c, .int .i64 num, .string ⟨text.toArray⟩, .int .i64 ty] 25) := ⟨_, rfl⟩
    rw [← hw1]
    have HB1 : Hid (Below w.heap.size w w1) := Lib.hid (by rw [hw1]; exact below_alloc _ _)
    have HS1 : Hid (Blk w1 w.heap.size 25 #[.string ⟨#[97, 110, 100]⟩, .slice (some ⟨q, 0, none⟩) k c, .int .i64 num, .string ⟨text.toArray⟩, .int .i64 ty]) := Lib.hid (by rw [hw1]; exact Blk.new _ _ _)
    clear hw1 x0 y0 y1 y2 y3 y4
    have s1 := HS1.out.cell 1
    simp only [List.getElem?_toArray, List.getElem?_cons_zero, List.getElem?_cons_succ] at s1
    have b1_0 := (HB1.out.cell (p := ⟨q, 0, none⟩) hql).trans HA0.out
    have b1_1 := (HB1.out.cell (p := ⟨q, 1, none⟩) hql).trans HA1.out
    go_wp2_with fail
    go_quiet (fail)
    have HRN := HR
    go_wp2_with fail
    go_ret
    unfold RepEnd
    rw [HRN.out]
    exact ⟨rfl, below_drewN HB1.out _⟩
set_option maxRecDepth 100000 in
set_option maxHeartbeats 8000000 in
theorem neutral_or (base g gs cap i : Nat) (l : List St) (vs : List Value) (V : Value) (s : St) (w : World) (h : EdX w base g gs cap l vs V) (hs : l[i]? = some s) (hb : ∀ s ∈ l, s.args.length ≤ 3 ∧ ∀ a ∈ s.args, 0 ≤ a ∧ a ≤ 100000) (hop : s.op = Oz.oOr) (hl : s.args.length = 2) (j0 j1 : Nat) (t0 t1 : St) (hj0 : s.args[0]? = some (j0 : Int)) (_ht0 : l[j0]? = some t0) (hi0 : j0 < i) (hj1 : s.args[1]? = some (j1 : Int)) (ht1 : l[j1]? = some t1) (hi1 : j1 < i):
    Calls Try.prog 58 #[.pointer (some ⟨g, 0, none⟩), .int .i64 i] w (RepEnd base g gs cap l vs V (Oz.neutralR l i) w) := by
  have hil := (List.getElem?_eq_some_iff.1 hs).1
  have hbase := h.base_le
  have x0 := h.ed.cell 0
  simp only [List.getElem?_toArray, List.getElem?_cons_zero] at x0
  obtain ⟨v, hv, ⟨y0, y1, y2, y3, y4⟩, ho⟩ := h.at_ hs
  obtain ⟨A, c, rfl⟩ := own_form ho
  obtain ⟨R, hR⟩ : ∃ R, R = Oz.neutralR l i := ⟨_, rfl⟩
  rw [← hR]
  unfold Oz.neutralR at hR
  rw [at_get hs] at hR
  dsimp only at hR
  obtain ⟨n, hn⟩ : ∃ n, n = l.length := ⟨_, rfl⟩
  have HI : Hid (i < l.length) := Lib.hid hil
  rw [← hn] at hil x0
  have HH := Lib.hid h
  have HBB := Lib.hid hb
  have q0 : (i : Int) < (n : Int) := by omega
  have q1 : (0 : Int) ≤ (i : Int) := by omega
  have hgl := h.ed.lt
  have hgsl := h.gs_lt
  obtain ⟨num, hnum⟩ : ∃ num, num = s.num := ⟨_, rfl⟩
  obtain ⟨text, htext⟩ : ∃ text, text = s.text := ⟨_, rfl⟩
  obtain ⟨ty, hty⟩ : ∃ ty, ty = s.ty := ⟨_, rfl⟩
  obtain ⟨k, hk⟩ : ∃ k, k = s.args.length := ⟨_, rfl⟩
  rw [← hnum] at y2
  rw [← htext] at y3
  rw [← hty] at y4
  rw [← hk] at y1
  obtain ⟨q, c', hvq, _, hbq, hql, hc⟩ := own_at ho (by omega)
  injection hvq with hA hkk hcc
  clear hkk
  subst hA hcc
  have a0 : w.cell? ⟨q, 0, none⟩ = some (.int .i64 j0) := hc 0 _ (by rw [List.getElem?_map, hj0]; rfl)
  have ea0 : Oz.arg s 0 = (j0 : Int) := by unfold Oz.arg; rw [List.getD_eq_getElem?_getD, hj0]; rfl
  have p0 : (0 : Int) < (k : Int) := by omega
  have pp0 : 0 < k := by omega
  have a1 : w.cell? ⟨q, 1, none⟩ = some (.int .i64 j1) := hc 1 _ (by rw [List.getElem?_map, hj1]; rfl)
  have ea1 : Oz.arg s 1 = (j1 : Int) := by unfold Oz.arg; rw [List.getD_eq_getElem?_getD, hj1]; rfl
  have p1 : (1 : Int) < (k : Int) := by omega
  have pp1 : 1 < k := by omega
  rw [ea0, ea1] at hR
  rw [hop, if_neg (by decide), if_neg (by decide), if_neg (by decide), if_pos (by decide)] at hR
  obtain ⟨r0, hr0⟩ : ∃ r, r = Oz.replaceR l i j0 := ⟨_, rfl⟩
  have HP0 : Hid (∀ w : World, EdX w base g gs cap l vs V → Calls Try.prog 74 #[.pointer (some ⟨g, 0, none⟩), .int .i64 i, .int .i64 j0] w (RepEnd base g gs cap l vs V r0 w)) := Lib.hid (fun w h => by rw [hr0]; exact replace_any base g gs cap i j0 l vs V w h hi0 HI.out HBB.out)
  rw [Int.toNat_natCast, ← hr0] at hR
  clear hr0
  by_cases hjj : j0 = j1
  · subst hjj
    rw [if_pos rfl] at hR
    have HX0 := Lib.hid x0
    have HA0 := Lib.hid a0
    have HA1 := Lib.hid a1
    have HR := Lib.hid hR
    rw [hop] at y0
    unfold Oz.oOr at y0
    clear h hs hb hv ho hn hop hl hk hnum htext hty hc hR hj0 _ht0 hi0 ea0 a0 hj1 ht1 hi1 ea1 a1
    go_enter Try.func58, Try.ntmps58
    go_upto_region 15 with (fail)
    obtain ⟨w1, hw1⟩ : ∃ w1, w1 = w.alloc (.cells #[.string ⟨#[111, 114]⟩, .slice (some ⟨q, 0, none⟩) k c, .int .i64 num, .string ⟨text.toArray⟩, .int .i64 ty] 25) := ⟨_, rfl⟩
    rw [← hw1]
    have HB1 : Hid (Below w.heap.size w w1) := Lib.hid (by rw [hw1]; exact below_alloc _ _)
    have HS1 : Hid (Blk w1 w.heap.size 25 #[.string ⟨#[111, 114]⟩, .slice (some ⟨q, 0, none⟩) k c, .int .i64 num, .string ⟨text.toArray⟩, .int .i64 ty]) := Lib.hid (by rw [hw1]; exact Blk.new _ _ _)
    clear hw1 x0 y0 y1 y2 y3 y4
    have s1 := HS1.out.cell 1
    simp only [List.getElem?_toArray, List.getElem?_cons_zero, List.getElem?_cons_succ] at s1
    have b1_0 := (HB1.out.cell (p := ⟨q, 0, none⟩) hql).trans HA0.out
    have b1_1 := (HB1.out.cell (p := ⟨q, 1, none⟩) hql).trans HA1.out
    have e1 : ((j0 : Int) == (j0 : Int)) = true := by simp
    go_wp2_with fail
    go_still_tail 16, (by kernel_rfl)
    change wpList _ _ _ _ _ w1.drew
    obtain ⟨w2, hw2⟩ : ∃ w2, w2 = w1.drew := ⟨_, rfl⟩
    rw [← hw2]
    have HB2 : Hid (Below w.heap.size w w2) := Lib.hid (by rw [hw2]; exact HB1.out.drew)
    clear hw2
    clear s1 b1_0 b1_1
    go_wp2_with fail
    refine (HP0.out w2 (HH.out.below HB2.out)).mono ?_
    intro e w3 h3
    cases r0 with
    | none =>
      have h3 : e = .returned (.bool false) ∧ Below w2.heap.size w2 w3 := h3
      obtain ⟨rfl, hb3⟩ := h3
      have HB3 := Lib.hid (HB2.out.trans (hb3.mono HB2.out.size))
      clear hb3
      have HRN : Hid (R = none) := Lib.hid HR.out
      go_wp2_with fail
      go_ret
      unfold RepEnd
      rw [HRN.out]
      exact ⟨rfl, HB3.out⟩
    | some l9 =>
      have h3 : e = .returned (.bool true) ∧ (∃ vs9, EdX w3 base g gs cap l9 vs9 V) ∧ FrX base w2 w3 := h3
      obtain ⟨rfl, ⟨vs9, he9⟩, hf9⟩ := h3
      have HE9 := Lib.hid he9
      have HF9 := Lib.hid (((FrX.refl base w).below HB2.out hbase).trans hf9)
      clear he9 hf9
      have HRN : Hid (R = some l9) := Lib.hid HR.out
      go_wp2_with fail
      go_ret
      unfold RepEnd
      rw [HRN.out]
      exact ⟨rfl, ⟨_, HE9.out⟩, HF9.out⟩
  · have e1 : ((j0 : Int) == (j1 : Int)) = false := beq_eq_false_iff_ne.2 (by omega)
    rw [if_neg (by omega)] at hR
    have HX0 := Lib.hid x0
    have HA0 := Lib.hid a0
    have HA1 := Lib.hid a1
    have HR := Lib.hid hR
    rw [hop] at y0
    unfold Oz.oOr at y0
    clear hjj
    clear h hs hb hv ho hn hop hl hk hnum htext hty hc hR hj0 _ht0 hi0 ea0 a0 hj1 ht1 hi1 ea1 a1
    go_enter Try.func58, Try.ntmps58
    go_upto_region 15 with (fail)
    obtain ⟨w1, hw1⟩ : ∃ w1, w1 = w.alloc (.cells #[.string ⟨#[111, 114]⟩, .slice (some ⟨q, 0, none⟩) k c, .int .i64 num, .string ⟨text.toArray⟩, .int .i64 ty] 25) := ⟨_, rfl⟩
    rw [← hw1]
    have HB1 : Hid (Below w.heap.size w w1) := Lib.hid (by rw [hw1]; exact below_alloc _ _)
    have HS1 : Hid (Blk w1 w.heap.size 25 #[.string ⟨#[111, 114]⟩, .slice (some ⟨q, 0, none⟩) k c, .int .i64 num, .string ⟨text.toArray⟩, .int .i64 ty]) := Lib.hid (by rw [hw1]; exact Blk.new _ _ _)
    clear hw1 x0 y0 y1 y2 y3 y4
    have s1 := HS1.out.cell 1
    simp only [List.getElem?_toArray, List.getElem?_cons_zero, List.getElem?_cons_succ] at s1
    have b1_0 := (HB1.out.cell (p := ⟨q, 0, none⟩) hql).trans HA0.out
    have b1_1 := (HB1.out.cell (p := ⟨q, 1, none⟩) hql).trans HA1.out
    go_wp2_with fail
    go_quiet (fail)
    have HRN := HR
    go_wp2_with fail
    go_ret
    unfold RepEnd
    rw [HRN.out]
    exact ⟨rfl, below_drewN HB1.out _⟩
set_option maxRecDepth 100000 in
set_option maxHeartbeats 8000000 in
theorem neutral_union (base g gs cap i : Nat) (l : List St) (vs : List Value) (V : Value) (s : St) (w : World) (h : EdX w base g gs cap l vs V) (hs : l[i]? = some s) (hb : ∀ s ∈ l, s.args.length ≤ 3 ∧ ∀ a ∈ s.args, 0 ≤ a ∧ a ≤ 100000) (hop : s.op = Oz.oUnion) (hl : s.args.length = 2) (j0 j1 : Nat) (t0 t1 : St) (hj0 : s.args[0]? = some (j0 : Int)) (_ht0 : l[j0]? = some t0) (hi0 : j0 < i) (hj1 : s.args[1]? = some (j1 : Int)) (ht1 : l[j1]? = some t1) (hi1 : j1 < i):
    Calls Try.prog 58 #[.pointer (some ⟨g, 0, none⟩), .int .i64 i] w (RepEnd base g gs cap l vs V (Oz.neutralR l i) w) := by
  have hil := (List.getElem?_eq_some_iff.1 hs).1
  have hbase := h.base_le
  have x0 := h.ed.cell 0
  simp only [List.getElem?_toArray, List.getElem?_cons_zero] at x0
  obtain ⟨v, hv, ⟨y0, y1, y2, y3, y4⟩, ho⟩ := h.at_ hs
  obtain ⟨A, c, rfl⟩ := own_form ho
  obtain ⟨R, hR⟩ : ∃ R, R = Oz.neutralR l i := ⟨_, rfl⟩
  rw [← hR]
  unfold Oz.neutralR at hR
  rw [at_get hs] at hR
  dsimp only at hR
  obtain ⟨n, hn⟩ : ∃ n, n = l.length := ⟨_, rfl⟩
  have HI : Hid (i < l.length) := Lib.hid hil
  rw [← hn] at hil x0
  have HH := Lib.hid h
  have HBB := Lib.hid hb
  have q0 : (i : Int) < (n : Int) := by omega
  have q1 : (0 : Int) ≤ (i : Int) := by omega
  have hgl := h.ed.lt
  have hgsl := h.gs_lt
  obtain ⟨num, hnum⟩ : ∃ num, num = s.num := ⟨_, rfl⟩
  obtain ⟨text, htext⟩ : ∃ text, text = s.text := ⟨_, rfl⟩
  obtain ⟨ty, hty⟩ : ∃ ty, ty = s.ty := ⟨_, rfl⟩
  obtain ⟨k, hk⟩ : ∃ k, k = s.args.length := ⟨_, rfl⟩
  rw [← hnum] at y2
  rw [← htext] at y3
  rw [← hty] at y4
  rw [← hk] at y1
  obtain ⟨q, c', hvq, _, hbq, hql, hc⟩ := own_at ho (by omega)
  injection hvq with hA hkk hcc
  clear hkk
  subst hA hcc
  have a0 : w.cell? ⟨q, 0, none⟩ = some (.int .i64 j0) := hc 0 _ (by rw [List.getElem?_map, hj0]; rfl)
  have ea0 : Oz.arg s 0 = (j0 : Int) := by unfold Oz.arg; rw [List.getD_eq_getElem?_getD, hj0]; rfl
  have p0 : (0 : Int) < (k : Int) := by omega
  have pp0 : 0 < k := by omega
  have a1 : w.cell? ⟨q, 1, none⟩ = some (.int .i64 j1) := hc 1 _ (by rw [List.getElem?_map, hj1]; rfl)
  have ea1 : Oz.arg s 1 = (j1 : Int) := by unfold Oz.arg; rw [List.getD_eq_getElem?_getD, hj1]; rfl
  have p1 : (1 : Int) < (k : Int) := by omega
  have pp1 : 1 < k := by omega
  rw [ea0, ea1] at hR
  rw [hop, if_neg (by decide), if_neg (by decide), if_neg (by decide), if_pos (by decide)] at hR
  obtain ⟨r0, hr0⟩ : ∃ r, r = Oz.replaceR l i j0 := ⟨_, rfl⟩
  have HP0 : Hid (∀ w : World, EdX w base g gs cap l vs V → Calls Try.prog 74 #[.pointer (some ⟨g, 0, none⟩), .int .i64 i, .int .i64 j0] w (RepEnd base g gs cap l vs V r0 w)) := Lib.hid (fun w h => by rw [hr0]; exact replace_any base g gs cap i j0 l vs V w h hi0 HI.out HBB.out)
  rw [Int.toNat_natCast, ← hr0] at hR
  clear hr0
  by_cases hjj : j0 = j1
  · subst hjj
    rw [if_pos rfl] at hR
    have HX0 := Lib.hid x0
    have HA0 := Lib.hid a0
    have HA1 := Lib.hid a1
    have HR := Lib.hid hR
    rw [hop] at y0
    unfold Oz.oUnion at y0
    clear h hs hb hv ho hn hop hl hk hnum htext hty hc hR hj0 _ht0 hi0 ea0 a0 hj1 ht1 hi1 ea1 a1
    go_enter Try.func58, Try.ntmps58
    go_upto_region 15 with (fail)
    obtain ⟨w1, hw1⟩ : ∃ w1, w1 = w.alloc (.cells #[.string ⟨#[117, 110, 105, 111, 110]⟩, .slice (some ⟨q, 0, none⟩) k c, .int .i64 num, .string ⟨text.toArray⟩, .int .i64 ty] 25) := ⟨_, rfl⟩
    rw [← hw1]
    have HB1 : Hid (Below w.heap.size w w1) := Lib.hid (by rw [hw1]; exact below_alloc _ _)
    have HS1 : Hid (Blk w1 w.heap.size 25 #[.string ⟨#[117, 110, 105, 111, 110]⟩, .slice (some ⟨q, 0, none⟩) k c, .int .i64 num, .string ⟨text.toArray⟩, .int .i64 ty]) := Lib.hid (by rw [hw1]; exact Blk.new _ _ _)
    clear hw1 x0 y0 y1 y2 y3 y4
    have s1 := HS1.out.cell 1
    simp only [List.getElem?_toArray, List.getElem?_cons_zero, List.getElem?_cons_succ] at s1
    have b1_0 := (HB1.out.cell (p := ⟨q, 0, none⟩) hql).trans HA0.out
    have b1_1 := (HB1.out.cell (p := ⟨q, 1, none⟩) hql).trans HA1.out
    have e1 : ((j0 : Int) == (j0 : Int)) = true := by simp
    go_wp2_with fail
    go_still_tail 16, (by kernel_rfl)
    change wpList _ _ _ _ _ w1.drew
    obtain ⟨w2, hw2⟩ : ∃ w2, w2 = w1.drew := ⟨_, rfl⟩
    rw [← hw2]
    have HB2 : Hid (Below w.heap.size w w2) := Lib.hid (by rw [hw2]; exact HB1.out.drew)
    clear hw2
    clear s1 b1_0 b1_1
    go_wp2_with fail
    refine (HP0.out w2 (HH.out.below HB2.out)).mono ?_
    intro e w3 h3
    cases r0 with
    | none =>
      have h3 : e = .returned (.bool false) ∧ Below w2.heap.size w2 w3 := h3
      obtain ⟨rfl, hb3⟩ := h3
      have HB3 := Lib.hid (HB2.out.trans (hb3.mono HB2.out.size))
      clear hb3
      have HRN : Hid (R = none) := Lib.hid HR.out
      go_wp2_with fail
      go_ret
      unfold RepEnd
      rw [HRN.out]
      exact ⟨rfl, HB3.out⟩
    | some l9 =>
      have h3 : e = .returned (.bool true) ∧ (∃ vs9, EdX w3 base g gs cap l9 vs9 V) ∧ FrX base w2 w3 := h3
      obtain ⟨rfl, ⟨vs9, he9⟩, hf9⟩ := h3
      have HE9 := Lib.hid he9
      have HF9 := Lib.hid (((FrX.refl base w).below HB2.out hbase).trans hf9)
      clear he9 hf9
      have HRN : Hid (R = some l9) := Lib.hid HR.out
      go_wp2_with fail
      go_ret
      unfold RepEnd
      rw [HRN.out]
      exact ⟨rfl, ⟨_, HE9.out⟩, HF9.out⟩
  · have e1 : ((j0 : Int) == (j1 : Int)) = false := beq_eq_false_iff_ne.2 (by omega)
    rw [if_neg (by omega)] at hR
    have HX0 := Lib.hid x0
    have HA0 := Lib.hid a0
    have HA1 := Lib.hid a1
    have HR := Lib.hid hR
    rw [hop] at y0
    unfold Oz.oUnion at y0
    clear hjj
    clear h hs hb hv ho hn hop hl hk hnum htext hty hc hR hj0 _ht0 hi0 ea0 a0 hj1 ht1 hi1 ea1 a1
    go_enter Try.func58, Try.ntmps58
    go_upto_region 15 with (fail)
    obtain ⟨w1, hw1⟩ : ∃ w1, w1 = w.alloc (.cells #[.string ⟨#[117, 110, 105, 111, 110]⟩, .slice (some ⟨q, 0, none⟩) k c, .int .i64 num, .string ⟨text.toArray⟩, .int .i64 ty] 25) := ⟨_, rfl⟩
    rw [← hw1]
    have HB1 : Hid (Below w.heap.size w w1) := Lib.hid (by rw [hw1]; exact below_alloc _ _)
    have HS1 : Hid (Blk w1 w.heap.size 25 #[.string ⟨#[117, 110, 105, 111, 110]⟩, .slice (some ⟨q, 0, none⟩) k c, .int .i64 num, .string ⟨text.toArray⟩, .int .i64 ty]) := Lib.hid (by rw [hw1]; exact Blk.new _ _ _)
    clear hw1 x0 y0 y1 y2 y3 y4
    have s1 := HS1.out.cell 1
    simp only [List.getElem?_toArray, List.getElem?_cons_zero, List.getElem?_cons_succ] at s1
    have b1_0 := (HB1.out.cell (p := ⟨q, 0, none⟩) hql).trans HA0.out
    have b1_1 := (HB1.out.cell (p := ⟨q, 1, none⟩) hql).trans HA1.out
    go_wp2_with fail
    go_quiet (fail)
    have HRN := HR
    go_wp2_with fail
    go_ret
    unfold RepEnd
    rw [HRN.out]
    exact ⟨rfl, below_drewN HB1.out _⟩
set_option maxRecDepth 100000 in
set_option maxHeartbeats 8000000 in
theorem neutral_within (base g gs cap i : Nat) (l : List St) (vs : List Value) (V : Value) (s : St) (w : World) (h : EdX w base g gs cap l vs V) (hs : l[i]? = some s) (hb : ∀ s ∈ l, s.args.length ≤ 3 ∧ ∀ a ∈ s.args, 0 ≤ a ∧ a ≤ 100000) (hop : s.op = Oz.oWithin) (hl : s.args.length = 2) (j0 j1 : Nat) (t0 t1 : St) (hj0 : s.args[0]? = some (j0 : Int)) (_ht0 : l[j0]? = some t0) (hi0 : j0 < i) (hj1 : s.args[1]? = some (j1 : Int)) (ht1 : l[j1]? = some t1) (hi1 : j1 < i):
    Calls Try.prog 58 #[.pointer (some ⟨g, 0, none⟩), .int .i64 i] w (RepEnd base g gs cap l vs V (Oz.neutralR l i) w) := by
  have hil := (List.getElem?_eq_some_iff.1 hs).1
  have hbase := h.base_le
  have x0 := h.ed.cell 0
  simp only [List.getElem?_toArray, List.getElem?_cons_zero] at x0
  obtain ⟨v, hv, ⟨y0, y1, y2, y3, y4⟩, ho⟩ := h.at_ hs
  obtain ⟨A, c, rfl⟩ := own_form ho
  obtain ⟨R, hR⟩ : ∃ R, R = Oz.neutralR l i := ⟨_, rfl⟩
  rw [← hR]
  unfold Oz.neutralR at hR
  rw [at_get hs] at hR
  dsimp only at hR
  obtain ⟨n, hn⟩ : ∃ n, n = l.length := ⟨_, rfl⟩
  have HI : Hid (i < l.length) := Lib.hid hil
  rw [← hn] at hil x0
  have HH := Lib.hid h
  have HBB := Lib.hid hb
  have q0 : (i : Int) < (n : Int) := by omega
  have q1 : (0 : Int) ≤ (i : Int) := by omega
  have hgl := h.ed.lt
  have hgsl := h.gs_lt
  obtain ⟨num, hnum⟩ : ∃ num, num = s.num := ⟨_, rfl⟩
  obtain ⟨text, htext⟩ : ∃ text, text = s.text := ⟨_, rfl⟩
  obtain ⟨ty, hty⟩ : ∃ ty, ty = s.ty := ⟨_, rfl⟩
  obtain ⟨k, hk⟩ : ∃ k, k = s.args.length := ⟨_, rfl⟩
  rw [← hnum] at y2
  rw [← htext] at y3
  rw [← hty] at y4
  rw [← hk] at y1
  obtain ⟨q, c', hvq, _, hbq, hql, hc⟩ := own_at ho (by omega)
  injection hvq with hA hkk hcc
  clear hkk
  subst hA hcc
  have a0 : w.cell? ⟨q, 0, none⟩ = some (.int .i64 j0) := hc 0 _ (by rw [List.getElem?_map, hj0]; rfl)
  have ea0 : Oz.arg s 0 = (j0 : Int) := by unfold Oz.arg; rw [List.getD_eq_getElem?_getD, hj0]; rfl
  have p0 : (0 : Int) < (k : Int) := by omega
  have pp0 : 0 < k := by omega
  have a1 : w.cell? ⟨q, 1, none⟩ = some (.int .i64 j1) := hc 1 _ (by rw [List.getElem?_map, hj1]; rfl)
  have ea1 : Oz.arg s 1 = (j1 : Int) := by unfold Oz.arg; rw [List.getD_eq_getElem?_getD, hj1]; rfl
  have p1 : (1 : Int) < (k : Int) := by omega
  have pp1 : 1 < k := by omega
  rw [ea0, ea1] at hR
  rw [hop, if_neg (by decide), if_neg (by decide), if_neg (by decide), if_pos (by decide)] at hR
  obtain ⟨r0, hr0⟩ : ∃ r, r = Oz.replaceR l i j0 := ⟨_, rfl⟩
  have HP0 : Hid (∀ w : World, EdX w base g gs cap l vs V → Calls Try.prog 74 #[.pointer (some ⟨g, 0, none⟩), .int .i64 i, .int .i64 j0] w (RepEnd base g gs cap l vs V r0 w)) := Lib.hid (fun w h => by rw [hr0]; exact replace_any base g gs cap i j0 l vs V w h hi0 HI.out HBB.out)
  rw [Int.toNat_natCast, ← hr0] at hR
  clear hr0
  by_cases hjj : j0 = j1
  · subst hjj
    rw [if_pos rfl] at hR
    have HX0 := Lib.hid x0
    have HA0 := Lib.hid a0
    have HA1 := Lib.hid a1
    have HR := Lib.hid hR
    rw [hop] at y0
    unfold Oz.oWithin at y0
    clear h hs hb hv ho hn hop hl hk hnum htext hty hc hR hj0 _ht0 hi0 ea0 a0 hj1 ht1 hi1 ea1 a1
    go_enter Try.func58, Try.ntmps58
    go_upto_region 15 with (fail)
    obtain ⟨w1, hw1⟩ : ∃ w1, w1 = w.alloc (.cells #[.string ⟨#[119, 105, 116, 104, 105, 110]⟩, .slice (some ⟨q, 0, none⟩) k c, .int .i64 num, .string ⟨text.toArray⟩, .int .i64 ty] 25) := ⟨_, rfl⟩
    rw [← hw1]
    have HB1 : Hid (Below w.heap.size w w1) := Lib.hid (by rw [hw1]; exact below_alloc _ _)
    have HS1 : Hid (Blk w1 w.heap.size 25 #[.string ⟨#[119, 105, 116, 104, 105, 110]⟩, .slice (some ⟨q, 0, none⟩) k c, .int .i64 num, .string ⟨text.toArray⟩, .int .i64 ty]) := Lib.hid (by rw [hw1]; exact Blk.new _ _ _)
    clear hw1 x0 y0 y1 y2 y3 y4
    have s1 := HS1.out.cell 1
    simp only [List.getElem?_toArray, List.getElem?_cons_zero, List.getElem?_cons_succ] at s1
    have b1_0 := (HB1.out.cell (p := ⟨q, 0, none⟩) hql).trans HA0.out
    have b1_1 := (HB1.out.cell (p := ⟨q, 1, none⟩) hql).trans HA1.out
    have e1 : ((j0 : Int) == (j0 : Int)) = true := by simp
    go_wp2_with fail
    go_still_tail 16, (by kernel_rfl)
    change wpList _ _ _ _ _ w1.drew
    obtain ⟨w2, hw2⟩ : ∃ w2, w2 = w1.drew := ⟨_, rfl⟩
    rw [← hw2]
    have HB2 : Hid (Below w.heap.size w w2) := Lib.hid (by rw [hw2]; exact HB1.out.drew)
    clear hw2
    clear s1 b1_0 b1_1
    go_wp2_with fail
    refine (HP0.out w2 (HH.out.below HB2.out)).mono ?_
    intro e w3 h3
    cases r0 with
    | none =>
      have h3 : e = .returned (.bool false) ∧ Below w2.heap.size w2 w3 := h3
      obtain ⟨rfl, hb3⟩ := h3
      have HB3 := Lib.hid (HB2.out.trans (hb3.mono HB2.out.size))
      clear hb3
      have HRN : Hid (R = none) := Lib.hid HR.out
      go_wp2_with fail
      go_ret
      unfold RepEnd
      rw [HRN.out]
      exact ⟨rfl, HB3.out⟩
    | some l9 =>
      have h3 : e = .returned (.bool true) ∧ (∃ vs9, EdX w3 base g gs cap l9 vs9 V) ∧ FrX base w2 w3 := h3
      obtain ⟨rfl, ⟨vs9, he9⟩, hf9⟩ := h3
      have HE9 := Lib.hid he9
      have HF9 := Lib.hid (((FrX.refl base w).below HB2.out hbase).trans hf9)
      clear he9 hf9
      have HRN : Hid (R = some l9) := Lib.hid HR.out
      go_wp2_with fail
      go_ret
      unfold RepEnd
      rw [HRN.out]
      exact ⟨rfl, ⟨_, HE9.out⟩, HF9.out⟩
  · have e1 : ((j0 : Int) == (j1 : Int)) = false := beq_eq_false_iff_ne.2 (by omega)
    rw [if_neg (by omega)] at hR
    have HX0 := Lib.hid x0
    have HA0 := Lib.hid a0
    have HA1 := Lib.hid a1
    have HR := Lib.hid hR
    rw [hop] at y0
    unfold Oz.oWithin at y0
    clear hjj
    clear h hs hb hv ho hn hop hl hk hnum htext hty hc hR hj0 _ht0 hi0 ea0 a0 hj1 ht1 hi1 ea1 a1
    go_enter Try.func58, Try.ntmps58
    go_upto_region 15 with (fail)
    obtain ⟨w1, hw1⟩ : ∃ w1, w1 = w.alloc (.cells #[.string ⟨#[119, 105, 116, 104, 105, 110]⟩, .slice (some ⟨q, 0, none⟩) k c, .int .i64 num, .string ⟨text.toArray⟩, .int .i64 ty] 25) := ⟨_, rfl⟩
    rw [← hw1]
    have HB1 : Hid (Below w.heap.size w w1) := Lib.hid (by rw [hw1]; exact below_alloc _ _)
    have HS1 : Hid (Blk w1 w.heap.size 25 #[.string ⟨#[119, 105, 116, 104, 105, 110]⟩, .slice (some ⟨q, 0, none⟩) k c, .int .i64 num, .string ⟨text.toArray⟩, .int .i64 ty]) := Lib.hid (by rw [hw1]; exact Blk.new _ _ _)
    clear hw1 x0 y0 y1 y2 y3 y4
    have s1 := HS1.out.cell 1
    simp only [List.getElem?_toArray, List.getElem?_cons_zero, List.getElem?_cons_succ] at s1
    have b1_0 := (HB1.out.cell (p := ⟨q, 0, none⟩) hql).trans HA0.out
    have b1_1 := (HB1.out.cell (p := ⟨q, 1, none⟩) hql).trans HA1.out
    go_wp2_with fail
    go_quiet (fail)
    have HRN := HR
    go_wp2_with fail
    go_ret
    unfold RepEnd
    rw [HRN.out]
    exact ⟨rfl, below_drewN HB1.out _⟩
end Go.Proofs.Ytniefnjcimempaa
namespace Go.Proofs.Ytniefnjcimempaa
open Go.RowKit
set_option maxRecDepth 100000 in
set_option maxHeartbeats 8000000 in
theorem neutral_cut_w (base g gs cap i : Nat) (l : List St) (vs : List Value) (V : Value) (s : St) (w : World) (h : EdX w base g gs cap l vs V) (hs : l[i]? = some s) (hb : ∀ s ∈ l, s.args.length ≤ 3 ∧ ∀ a ∈ s.args, 0 ≤ a ∧ a ≤ 100000) (hop : s.op = Oz.oCut) (hl : s.args.length = 3) (j0 j1 j2 : Nat) (t0 t1 t2 : St) (hj0 : s.args[0]? = some (j0 : Int)) (ht0 : l[j0]? = some t0) (hi0 : j0 < i) (hj1 : s.args[1]? = some (j1 : Int)) (ht1 : l[j1]? = some t1) (_hi1 : j1 < i) (hj2 : s.args[2]? = some (j2 : Int)) (ht2 : l[j2]? = some t2) (_hi2 : j2 < i)(m : Nat) (hm : t2.args[0]? = some (m : Int)) (hop2 : t2.op = Oz.oLen) (hmm : m = j0) :
    Calls Try.prog 58 #[.pointer (some ⟨g, 0, none⟩), .int .i64 i] w (RepEnd base g gs cap l vs V (Oz.neutralR l i) w) := by
  have hil := (List.getElem?_eq_some_iff.1 hs).1
  have hbase := h.base_le
  have x0 := h.ed.cell 0
  simp only [List.getElem?_toArray, List.getElem?_cons_zero] at x0
  obtain ⟨v, hv, ⟨y0, y1, y2, y3, y4⟩, ho⟩ := h.at_ hs
  obtain ⟨A, c, rfl⟩ := own_form ho
  obtain ⟨R, hR⟩ : ∃ R, R = Oz.neutralR l i := ⟨_, rfl⟩
  rw [← hR]
  unfold Oz.neutralR at hR
  rw [at_get hs] at hR
  dsimp only at hR
  obtain ⟨n, hn⟩ : ∃ n, n = l.length := ⟨_, rfl⟩
  have HI : Hid (i < l.length) := Lib.hid hil
  rw [← hn] at hil x0
  have HH := Lib.hid h
  have HBB := Lib.hid hb
  have q0 : (i : Int) < (n : Int) := by omega
  have q1 : (0 : Int) ≤ (i : Int) := by omega
  have hgl := h.ed.lt
  have hgsl := h.gs_lt
  obtain ⟨num, hnum⟩ : ∃ num, num = s.num := ⟨_, rfl⟩
  obtain ⟨text, htext⟩ : ∃ text, text = s.text := ⟨_, rfl⟩
  obtain ⟨ty, hty⟩ : ∃ ty, ty = s.ty := ⟨_, rfl⟩
  obtain ⟨k, hk⟩ : ∃ k, k = s.args.length := ⟨_, rfl⟩
  rw [← hnum] at y2
  rw [← htext] at y3
  rw [← hty] at y4
  rw [← hk] at y1
  obtain ⟨q, c', hvq, _, hbq, hql, hc⟩ := own_at ho (by omega)
  injection hvq with hA hkk hcc
  clear hkk
  subst hA hcc
  have a0 : w.cell? ⟨q, 0, none⟩ = some (.int .i64 j0) := hc 0 _ (by rw [List.getElem?_map, hj0]; rfl)
  have ea0 : Oz.arg s 0 = (j0 : Int) := by unfold Oz.arg; rw [List.getD_eq_getElem?_getD, hj0]; rfl
  have p0 : (0 : Int) < (k : Int) := by omega
  have pp0 : 0 < k := by omega
  have a1 : w.cell? ⟨q, 1, none⟩ = some (.int .i64 j1) := hc 1 _ (by rw [List.getElem?_map, hj1]; rfl)
  have ea1 : Oz.arg s 1 = (j1 : Int) := by unfold Oz.arg; rw [List.getD_eq_getElem?_getD, hj1]; rfl
  have p1 : (1 : Int) < (k : Int) := by omega
  have pp1 : 1 < k := by omega
  have a2 : w.cell? ⟨q, 2, none⟩ = some (.int .i64 j2) := hc 2 _ (by rw [List.getElem?_map, hj2]; rfl)
  have ea2 : Oz.arg s 2 = (j2 : Int) := by unfold Oz.arg; rw [List.getD_eq_getElem?_getD, hj2]; rfl
  have p2 : (2 : Int) < (k : Int) := by omega
  have pp2 : 2 < k := by omega
  rw [ea0, ea1, ea2] at hR
  rw [hop, if_neg (by decide), if_neg (by decide), if_neg (by decide), if_neg (by decide), if_neg (by decide), if_neg (by decide), if_pos (by decide)] at hR
  rw [at_get ht2] at hR
  obtain ⟨z1, hz1⟩ : ∃ z, z = decide (t1.op = nNumber ∧ t1.num = 0) := ⟨_, rfl⟩
  have ez1 : Oz.isR l (j1 : Int) 0 = z1 := by unfold Oz.isR; rw [at_get ht1, hz1]
  have HC1 : Hid (∀ w : World, EdAt w g gs cap l V → Calls Try.prog 78 #[.pointer (some ⟨g, 0, none⟩), .int .i64 j1, .int .i64 0] w fun e w' => e = .returned (.bool z1) ∧ Below w.heap.size w w') := Lib.hid (fun w h => by rw [hz1]; exact is_step g gs cap j1 l V t1 w h ht1 0)
  rw [ez1] at hR
  clear hz1 ez1
  obtain ⟨r0, hr0⟩ : ∃ r, r = Oz.replaceR l i j0 := ⟨_, rfl⟩
  have HP0 : Hid (∀ w : World, EdX w base g gs cap l vs V → Calls Try.prog 74 #[.pointer (some ⟨g, 0, none⟩), .int .i64 i, .int .i64 j0] w (RepEnd base g gs cap l vs V r0 w)) := Lib.hid (fun w h => by rw [hr0]; exact replace_any base g gs cap i j0 l vs V w h hi0 HI.out HBB.out)
  rw [Int.toNat_natCast, ← hr0] at hR
  clear hr0
  obtain ⟨v2, hv2, ⟨z0, z1, z2, z3, z4⟩, ho2⟩ := h.at_ ht2
  obtain ⟨A2, c2, rfl⟩ := own_form ho2
  obtain ⟨k2, hk2⟩ : ∃ k2, k2 = t2.args.length := ⟨_, rfl⟩
  rw [← hk2] at z1
  obtain ⟨X, hX⟩ : ∃ X, X = t2.text := ⟨_, rfl⟩
  rw [← hX] at z3
  obtain ⟨num2, hnum2⟩ : ∃ num2, num2 = t2.num := ⟨_, rfl⟩
  rw [← hnum2] at z2
  obtain ⟨ty2, hty2⟩ : ∃ ty2, ty2 = t2.ty := ⟨_, rfl⟩
  rw [← hty2] at z4
  have hjl := (List.getElem?_eq_some_iff.1 ht2).1
  rw [← hn] at hjl
  have q2 : (j2 : Int) < (n : Int) := by omega
  have q3 : (0 : Int) ≤ (j2 : Int) := by omega
  have q4 : j2 < n := by omega
  obtain ⟨r, c3, hvr, _, hbr, hrl, hcr⟩ := own_at ho2 (by have := (List.getElem?_eq_some_iff.1 hm).1; omega)
  injection hvr with hA hkk hcc
  clear hkk
  subst hA hcc
  have b9 : w.cell? ⟨r, 0, none⟩ = some (.int .i64 m) := hcr 0 _ (by rw [List.getElem?_map, hm]; rfl)
  have em : Oz.arg t2 0 = (m : Int) := by unfold Oz.arg; rw [List.getD_eq_getElem?_getD, hm]; rfl
  have hk3 : 0 < k2 := by have := (List.getElem?_eq_some_iff.1 hm).1; omega
  have p9 : (0 : Int) < (k2 : Int) := by omega
  rw [hop2] at z0
  unfold Oz.oLen at z0
  clear hcr
  subst hmm
  have hW : (decide (t2.op = Oz.oLen) && decide (Oz.arg t2 0 = (m : Int))) = true := by rw [decide_eq_true hop2, em, decide_eq_true rfl]; rfl
  have e9 : ((m : Int) == (m : Int)) = true := by simp
  rw [hW] at hR
  have HX0 := Lib.hid x0
  have HA0 := Lib.hid a0
  have HA1 := Lib.hid a1
  have HA2 := Lib.hid a2
  have HR := Lib.hid hR
  rw [hop] at y0
  unfold Oz.oCut at y0
  have HB9 := Lib.hid b9
  clear h hs hb hv ho hn hop hl hk hnum htext hty hc hR hj0 ht0 hi0 ea0 a0 hj1 ht1 _hi1 ea1 a1 hj2 ht2 _hi2 ea2 a2 hv2 ho2 hk2 hX hnum2 hty2 hjl hW hop2 hm em hk3
  go_enter Try.func58, Try.ntmps58
  go_upto_region 21 with (fail)
  obtain ⟨w1, hw1⟩ : ∃ w1, w1 = w.alloc (.cells #[.string ⟨#[99, 117, 116]⟩, .slice (some ⟨q, 0, none⟩) k c, .int .i64 num, .string ⟨text.toArray⟩, .int .i64 ty] 25) := ⟨_, rfl⟩
  rw [← hw1]
  have HB1 : Hid (Below w.heap.size w w1) := Lib.hid (by rw [hw1]; exact below_alloc _ _)
  have HS1 : Hid (Blk w1 w.heap.size 25 #[.string ⟨#[99, 117, 116]⟩, .slice (some ⟨q, 0, none⟩) k c, .int .i64 num, .string ⟨text.toArray⟩, .int .i64 ty]) := Lib.hid (by rw [hw1]; exact Blk.new _ _ _)
  clear hw1 x0 y0 y1 y2 y3 y4
  have g0 := (HB1.out.cell (p := ⟨g, 0, none⟩) hgl).trans HX0.out
  have g1 := (HB1.out.cell (p := ⟨gs, _, none⟩) hgsl).trans z0
  have g2 := (HB1.out.cell (p := ⟨gs, _, none⟩) hgsl).trans z1
  have g3 := (HB1.out.cell (p := ⟨gs, _, none⟩) hgsl).trans z2
  have g4 := (HB1.out.cell (p := ⟨gs, _, none⟩) hgsl).trans z3
  have g5 := (HB1.out.cell (p := ⟨gs, _, none⟩) hgsl).trans z4
  have s1 := HS1.out.cell 1
  simp only [List.getElem?_toArray, List.getElem?_cons_zero, List.getElem?_cons_succ] at s1
  have b1_0 := (HB1.out.cell (p := ⟨q, 0, none⟩) hql).trans HA0.out
  have b1_1 := (HB1.out.cell (p := ⟨q, 1, none⟩) hql).trans HA1.out
  have b1_2 := (HB1.out.cell (p := ⟨q, 2, none⟩) hql).trans HA2.out
  have l1 := HS1.out.lt
  have l2 : g < w1.heap.size := Nat.lt_of_lt_of_le hgl HB1.out.size
  have l3 : gs < w1.heap.size := Nat.lt_of_lt_of_le hgsl HB1.out.size
  have l4 : q < w1.heap.size := Nat.lt_of_lt_of_le hql HB1.out.size
  go_region
  clear l1 l2 l3 l4
  obtain ⟨w2, hw2⟩ : ∃ w2, w2 = (w1.alloc (.cells #[.string ⟨#[108, 101, 110]⟩, .slice (some ⟨r, 0, none⟩) k2 c2, .int .i64 num2, .string ⟨X.toArray⟩, .int .i64 ty2] 25)).drew := ⟨_, rfl⟩
  rw [← hw2]
  have hb2 : Below w1.heap.size w1 w2 := by rw [hw2]; exact (below_alloc _ _).drew
  have HB2 := Lib.hid (HB1.out.trans (hb2.mono HB1.out.size))
  have HS2 := Lib.hid (HS1.out.below hb2 HS1.out.lt)
  have HT2 : Hid (Blk w2 w1.heap.size 25 #[.string ⟨#[108, 101, 110]⟩, .slice (some ⟨r, 0, none⟩) k2 c2, .int .i64 num2, .string ⟨X.toArray⟩, .int .i64 ty2]) := Lib.hid (by rw [hw2]; exact (Blk.new _ _ _).drew)
  clear hw2 hb2 g0 g1 g2 g3 g4 g5 z0 z1 z2 z3 z4
  clear s1 b1_0 b1_1 b1_2
  have u0 := HT2.out.cell 0
  have u1 := HT2.out.cell 1
  simp only [List.getElem?_toArray, List.getElem?_cons_zero, List.getElem?_cons_succ] at u0 u1
  have b9' := (HB2.out.cell (p := ⟨r, 0, none⟩) hrl).trans HB9.out
  have s2 := HS2.out.cell 1
  simp only [List.getElem?_toArray, List.getElem?_cons_zero, List.getElem?_cons_succ] at s2
  have b2_0 := (HB2.out.cell (p := ⟨q, 0, none⟩) hql).trans HA0.out
  have b2_1 := (HB2.out.cell (p := ⟨q, 1, none⟩) hql).trans HA1.out
  have b2_2 := (HB2.out.cell (p := ⟨q, 2, none⟩) hql).trans HA2.out
  go_wp2_with fail
  go_quiet (fail)
  go_upto_region 23 with (fail)
  obtain ⟨w3, hw3⟩ : ∃ w3, w3 = w2.drewN nq := ⟨_, rfl⟩
  rw [← hw3]
  have HB3 : Hid (Below w.heap.size w w3) := Lib.hid (by rw [hw3]; exact below_drewN HB2.out _)
  have HS3 : Hid (Blk w3 w.heap.size 25 #[.string ⟨#[99, 117, 116]⟩, .slice (some ⟨q, 0, none⟩) k c, .int .i64 num, .string ⟨text.toArray⟩, .int .i64 ty]) := Lib.hid (by rw [hw3]; exact HS2.out.drewN _)
  clear hw3 u0 u1
  clear s2 b2_0 b2_1 b2_2
  clear b9'
  have s3 := HS3.out.cell 1
  simp only [List.getElem?_toArray, List.getElem?_cons_zero, List.getElem?_cons_succ] at s3
  have b3_0 := (HB3.out.cell (p := ⟨q, 0, none⟩) hql).trans HA0.out
  have b3_1 := (HB3.out.cell (p := ⟨q, 1, none⟩) hql).trans HA1.out
  have b3_2 := (HB3.out.cell (p := ⟨q, 2, none⟩) hql).trans HA2.out
  go_wp2_with fail
  refine (HC1.out w3 (HH.out.below HB3.out).edAt).mono ?_
  rintro e w4 ⟨rfl, hb4⟩
  have HB4 := Lib.hid (HB3.out.trans (hb4.mono HB3.out.size))
  have HS4 := Lib.hid (HS3.out.below hb4 HS3.out.lt)
  clear s3 b3_0 b3_1 b3_2
  clear hb4
  cases z1 with
  | false =>
    have HRN : Hid (R = none) := Lib.hid (by rw [HR.out]; rfl)
    go_wp2_with fail
    go_ret
    unfold RepEnd
    rw [HRN.out]
    exact ⟨rfl, HB4.out⟩
  | true =>
    have s4 := HS4.out.cell 1
    simp only [List.getElem?_toArray, List.getElem?_cons_zero, List.getElem?_cons_succ] at s4
    have b4_0 := (HB4.out.cell (p := ⟨q, 0, none⟩) hql).trans HA0.out
    have b4_1 := (HB4.out.cell (p := ⟨q, 1, none⟩) hql).trans HA1.out
    have b4_2 := (HB4.out.cell (p := ⟨q, 2, none⟩) hql).trans HA2.out
    go_wp2_with fail
    refine (HP0.out w4 (HH.out.below HB4.out)).mono ?_
    intro e w5 h3
    clear s4 b4_0 b4_1 b4_2
    cases r0 with
    | none =>
      have h3 : e = .returned (.bool false) ∧ Below w4.heap.size w4 w5 := h3
      obtain ⟨rfl, hb5⟩ := h3
      have HB5 := Lib.hid (HB4.out.trans (hb5.mono HB4.out.size))
      have HS5 := Lib.hid (HS4.out.below hb5 HS4.out.lt)
      clear hb5
      have HRN : Hid (R = none) := Lib.hid (by rw [HR.out]; rfl)
      go_wp2_with fail
      go_ret
      unfold RepEnd
      rw [HRN.out]
      exact ⟨rfl, HB5.out⟩
    | some l9 =>
      have h3 : e = .returned (.bool true) ∧ (∃ vs9, EdX w5 base g gs cap l9 vs9 V) ∧ FrX base w4 w5 := h3
      obtain ⟨rfl, ⟨vs9, he9⟩, hf9⟩ := h3
      have HE9 := Lib.hid he9
      have HF9 := Lib.hid (((FrX.refl base w).below HB4.out hbase).trans hf9)
      clear he9 hf9
      have HRN : Hid (R = some l9) := Lib.hid (by rw [HR.out]; rfl)
      go_wp2_with fail
      go_ret
      unfold RepEnd
      rw [HRN.out]
      exact ⟨rfl, ⟨_, HE9.out⟩, HF9.out⟩
set_option maxRecDepth 100000 in
set_option maxHeartbeats 8000000 in
theorem neutral_cut_m (base g gs cap i : Nat) (l : List St) (vs : List Value) (V : Value) (s : St) (w : World) (h : EdX w base g gs cap l vs V) (hs : l[i]? = some s) (hb : ∀ s ∈ l, s.args.length ≤ 3 ∧ ∀ a ∈ s.args, 0 ≤ a ∧ a ≤ 100000) (hop : s.op = Oz.oCut) (hl : s.args.length = 3) (j0 j1 j2 : Nat) (t0 t1 t2 : St) (hj0 : s.args[0]? = some (j0 : Int)) (_ht0 : l[j0]? = some t0) (hi0 : j0 < i) (hj1 : s.args[1]? = some (j1 : Int)) (ht1 : l[j1]? = some t1) (_hi1 : j1 < i) (hj2 : s.args[2]? = some (j2 : Int)) (ht2 : l[j2]? = some t2) (_hi2 : j2 < i)(m : Nat) (hm : t2.args[0]? = some (m : Int)) (hop2 : t2.op = Oz.oLen) (hmm : m ≠ j0) :
    Calls Try.prog 58 #[.pointer (some ⟨g, 0, none⟩), .int .i64 i] w (RepEnd base g gs cap l vs V (Oz.neutralR l i) w) := by
  have hil := (List.getElem?_eq_some_iff.1 hs).1
  have hbase := h.base_le
  have x0 := h.ed.cell 0
  simp only [List.getElem?_toArray, List.getElem?_cons_zero] at x0
  obtain ⟨v, hv, ⟨y0, y1, y2, y3, y4⟩, ho⟩ := h.at_ hs
  obtain ⟨A, c, rfl⟩ := own_form ho
  obtain ⟨R, hR⟩ : ∃ R, R = Oz.neutralR l i := ⟨_, rfl⟩
  rw [← hR]
  unfold Oz.neutralR at hR
  rw [at_get hs] at hR
  dsimp only at hR
  obtain ⟨n, hn⟩ : ∃ n, n = l.length := ⟨_, rfl⟩
  have HI : Hid (i < l.length) := Lib.hid hil
  rw [← hn] at hil x0
  have HH := Lib.hid h
  have HBB := Lib.hid hb
  have q0 : (i : Int) < (n : Int) := by omega
  have q1 : (0 : Int) ≤ (i : Int) := by omega
  have hgl := h.ed.lt
  have hgsl := h.gs_lt
  obtain ⟨num, hnum⟩ : ∃ num, num = s.num := ⟨_, rfl⟩
  obtain ⟨text, htext⟩ : ∃ text, text = s.text := ⟨_, rfl⟩
  obtain ⟨ty, hty⟩ : ∃ ty, ty = s.ty := ⟨_, rfl⟩
  obtain ⟨k, hk⟩ : ∃ k, k = s.args.length := ⟨_, rfl⟩
  rw [← hnum] at y2
  rw [← htext] at y3
  rw [← hty] at y4
  rw [← hk] at y1
  obtain ⟨q, c', hvq, _, hbq, hql, hc⟩ := own_at ho (by omega)
  injection hvq with hA hkk hcc
  clear hkk
  subst hA hcc
  have a0 : w.cell? ⟨q, 0, none⟩ = some (.int .i64 j0) := hc 0 _ (by rw [List.getElem?_map, hj0]; rfl)
  have ea0 : Oz.arg s 0 = (j0 : Int) := by unfold Oz.arg; rw [List.getD_eq_getElem?_getD, hj0]; rfl
  have p0 : (0 : Int) < (k : Int) := by omega
  have pp0 : 0 < k := by omega
  have a1 : w.cell? ⟨q, 1, none⟩ = some (.int .i64 j1) := hc 1 _ (by rw [List.getElem?_map, hj1]; rfl)
  have ea1 : Oz.arg s 1 = (j1 : Int) := by unfold Oz.arg; rw [List.getD_eq_getElem?_getD, hj1]; rfl
  have p1 : (1 : Int) < (k : Int) := by omega
  have pp1 : 1 < k := by omega
  have a2 : w.cell? ⟨q, 2, none⟩ = some (.int .i64 j2) := hc 2 _ (by rw [List.getElem?_map, hj2]; rfl)
  have ea2 : Oz.arg s 2 = (j2 : Int) := by unfold Oz.arg; rw [List.getD_eq_getElem?_getD, hj2]; rfl
  have p2 : (2 : Int) < (k : Int) := by omega
  have pp2 : 2 < k := by omega
  rw [ea0, ea1, ea2] at hR
  rw [hop, if_neg (by decide), if_neg (by decide), if_neg (by decide), if_neg (by decide), if_neg (by decide), if_neg (by decide), if_pos (by decide)] at hR
  rw [at_get ht2] at hR
  obtain ⟨z1, hz1⟩ : ∃ z, z = decide (t1.op = nNumber ∧ t1.num = 0) := ⟨_, rfl⟩
  have ez1 : Oz.isR l (j1 : Int) 0 = z1 := by unfold Oz.isR; rw [at_get ht1, hz1]
  have HC1 : Hid (∀ w : World, EdAt w g gs cap l V → Calls Try.prog 78 #[.pointer (some ⟨g, 0, none⟩), .int .i64 j1, .int .i64 0] w fun e w' => e = .returned (.bool z1) ∧ Below w.heap.size w w') := Lib.hid (fun w h => by rw [hz1]; exact is_step g gs cap j1 l V t1 w h ht1 0)
  rw [ez1] at hR
  clear hz1 ez1
  obtain ⟨r0, hr0⟩ : ∃ r, r = Oz.replaceR l i j0 := ⟨_, rfl⟩
  have HP0 : Hid (∀ w : World, EdX w base g gs cap l vs V → Calls Try.prog 74 #[.pointer (some ⟨g, 0, none⟩), .int .i64 i, .int .i64 j0] w (RepEnd base g gs cap l vs V r0 w)) := Lib.hid (fun w h => by rw [hr0]; exact replace_any base g gs cap i j0 l vs V w h hi0 HI.out HBB.out)
  rw [Int.toNat_natCast, ← hr0] at hR
  clear hr0
  obtain ⟨v2, hv2, ⟨z0, z1, z2, z3, z4⟩, ho2⟩ := h.at_ ht2
  obtain ⟨A2, c2, rfl⟩ := own_form ho2
  obtain ⟨k2, hk2⟩ : ∃ k2, k2 = t2.args.length := ⟨_, rfl⟩
  rw [← hk2] at z1
  obtain ⟨X, hX⟩ : ∃ X, X = t2.text := ⟨_, rfl⟩
  rw [← hX] at z3
  obtain ⟨num2, hnum2⟩ : ∃ num2, num2 = t2.num := ⟨_, rfl⟩
  rw [← hnum2] at z2
  obtain ⟨ty2, hty2⟩ : ∃ ty2, ty2 = t2.ty := ⟨_, rfl⟩
  rw [← hty2] at z4
  have hjl := (List.getElem?_eq_some_iff.1 ht2).1
  rw [← hn] at hjl
  have q2 : (j2 : Int) < (n : Int) := by omega
  have q3 : (0 : Int) ≤ (j2 : Int) := by omega
  have q4 : j2 < n := by omega
  obtain ⟨r, c3, hvr, _, hbr, hrl, hcr⟩ := own_at ho2 (by have := (List.getElem?_eq_some_iff.1 hm).1; omega)
  injection hvr with hA hkk hcc
  clear hkk
  subst hA hcc
  have b9 : w.cell? ⟨r, 0, none⟩ = some (.int .i64 m) := hcr 0 _ (by rw [List.getElem?_map, hm]; rfl)
  have em : Oz.arg t2 0 = (m : Int) := by unfold Oz.arg; rw [List.getD_eq_getElem?_getD, hm]; rfl
  have hk3 : 0 < k2 := by have := (List.getElem?_eq_some_iff.1 hm).1; omega
  have p9 : (0 : Int) < (k2 : Int) := by omega
  rw [hop2] at z0
  unfold Oz.oLen at z0
  clear hcr
  have hW : (decide (t2.op = Oz.oLen) && decide (Oz.arg t2 0 = (j0 : Int))) = false := by rw [em, decide_eq_false (p := (m : Int) = (j0 : Int)) (fun e => hmm (by omega))]; simp
  have e9 : ((m : Int) == (j0 : Int)) = false := beq_eq_false_iff_ne.2 (by omega)
  rw [hW] at hR
  have HX0 := Lib.hid x0
  have HA0 := Lib.hid a0
  have HA1 := Lib.hid a1
  have HA2 := Lib.hid a2
  have HR := Lib.hid hR
  rw [hop] at y0
  unfold Oz.oCut at y0
  have HB9 := Lib.hid b9
  clear h hs hb hv ho hn hop hl hk hnum htext hty hc hR hj0 _ht0 hi0 ea0 a0 hj1 ht1 _hi1 ea1 a1 hj2 ht2 _hi2 ea2 a2 hv2 ho2 hk2 hX hnum2 hty2 hjl hW hop2 hm em hk3 hmm
  go_enter Try.func58, Try.ntmps58
  go_upto_region 21 with (fail)
  obtain ⟨w1, hw1⟩ : ∃ w1, w1 = w.alloc (.cells #[.string ⟨#[99, 117, 116]⟩, .slice (some ⟨q, 0, none⟩) k c, .int .i64 num, .string ⟨text.toArray⟩, .int .i64 ty] 25) := ⟨_, rfl⟩
  rw [← hw1]
  have HB1 : Hid (Below w.heap.size w w1) := Lib.hid (by rw [hw1]; exact below_alloc _ _)
  have HS1 : Hid (Blk w1 w.heap.size 25 #[.string ⟨#[99, 117, 116]⟩, .slice (some ⟨q, 0, none⟩) k c, .int .i64 num, .string ⟨text.toArray⟩, .int .i64 ty]) := Lib.hid (by rw [hw1]; exact Blk.new _ _ _)
  clear hw1 x0 y0 y1 y2 y3 y4
  have g0 := (HB1.out.cell (p := ⟨g, 0, none⟩) hgl).trans HX0.out
  have g1 := (HB1.out.cell (p := ⟨gs, _, none⟩) hgsl).trans z0
  have g2 := (HB1.out.cell (p := ⟨gs, _, none⟩) hgsl).trans z1
  have g3 := (HB1.out.cell (p := ⟨gs, _, none⟩) hgsl).trans z2
  have g4 := (HB1.out.cell (p := ⟨gs, _, none⟩) hgsl).trans z3
  have g5 := (HB1.out.cell (p := ⟨gs, _, none⟩) hgsl).trans z4
  have s1 := HS1.out.cell 1
  simp only [List.getElem?_toArray, List.getElem?_cons_zero, List.getElem?_cons_succ] at s1
  have b1_0 := (HB1.out.cell (p := ⟨q, 0, none⟩) hql).trans HA0.out
  have b1_1 := (HB1.out.cell (p := ⟨q, 1, none⟩) hql).trans HA1.out
  have b1_2 := (HB1.out.cell (p := ⟨q, 2, none⟩) hql).trans HA2.out
  have l1 := HS1.out.lt
  have l2 : g < w1.heap.size := Nat.lt_of_lt_of_le hgl HB1.out.size
  have l3 : gs < w1.heap.size := Nat.lt_of_lt_of_le hgsl HB1.out.size
  have l4 : q < w1.heap.size := Nat.lt_of_lt_of_le hql HB1.out.size
  go_region
  clear l1 l2 l3 l4
  obtain ⟨w2, hw2⟩ : ∃ w2, w2 = (w1.alloc (.cells #[.string ⟨#[108, 101, 110]⟩, .slice (some ⟨r, 0, none⟩) k2 c2, .int .i64 num2, .string ⟨X.toArray⟩, .int .i64 ty2] 25)).drew := ⟨_, rfl⟩
  rw [← hw2]
  have hb2 : Below w1.heap.size w1 w2 := by rw [hw2]; exact (below_alloc _ _).drew
  have HB2 := Lib.hid (HB1.out.trans (hb2.mono HB1.out.size))
  have HS2 := Lib.hid (HS1.out.below hb2 HS1.out.lt)
  have HT2 : Hid (Blk w2 w1.heap.size 25 #[.string ⟨#[108, 101, 110]⟩, .slice (some ⟨r, 0, none⟩) k2 c2, .int .i64 num2, .string ⟨X.toArray⟩, .int .i64 ty2]) := Lib.hid (by rw [hw2]; exact (Blk.new _ _ _).drew)
  clear hw2 hb2 g0 g1 g2 g3 g4 g5 z0 z1 z2 z3 z4
  clear s1 b1_0 b1_1 b1_2
  have u0 := HT2.out.cell 0
  have u1 := HT2.out.cell 1
  simp only [List.getElem?_toArray, List.getElem?_cons_zero, List.getElem?_cons_succ] at u0 u1
  have b9' := (HB2.out.cell (p := ⟨r, 0, none⟩) hrl).trans HB9.out
  have s2 := HS2.out.cell 1
  simp only [List.getElem?_toArray, List.getElem?_cons_zero, List.getElem?_cons_succ] at s2
  have b2_0 := (HB2.out.cell (p := ⟨q, 0, none⟩) hql).trans HA0.out
  have b2_1 := (HB2.out.cell (p := ⟨q, 1, none⟩) hql).trans HA1.out
  have b2_2 := (HB2.out.cell (p := ⟨q, 2, none⟩) hql).trans HA2.out
  go_wp2_with fail
  go_quiet (fail)
  go_upto_region 23 with (fail)
  obtain ⟨w3, hw3⟩ : ∃ w3, w3 = w2.drewN nq := ⟨_, rfl⟩
  rw [← hw3]
  have HB3 : Hid (Below w.heap.size w w3) := Lib.hid (by rw [hw3]; exact below_drewN HB2.out _)
  have HS3 : Hid (Blk w3 w.heap.size 25 #[.string ⟨#[99, 117, 116]⟩, .slice (some ⟨q, 0, none⟩) k c, .int .i64 num, .string ⟨text.toArray⟩, .int .i64 ty]) := Lib.hid (by rw [hw3]; exact HS2.out.drewN _)
  clear hw3 u0 u1
  clear s2 b2_0 b2_1 b2_2
  clear b9'
  have s3 := HS3.out.cell 1
  simp only [List.getElem?_toArray, List.getElem?_cons_zero, List.getElem?_cons_succ] at s3
  have b3_0 := (HB3.out.cell (p := ⟨q, 0, none⟩) hql).trans HA0.out
  have b3_1 := (HB3.out.cell (p := ⟨q, 1, none⟩) hql).trans HA1.out
  have b3_2 := (HB3.out.cell (p := ⟨q, 2, none⟩) hql).trans HA2.out
  go_wp2_with fail
  refine (HC1.out w3 (HH.out.below HB3.out).edAt).mono ?_
  rintro e w4 ⟨rfl, hb4⟩
  have HB4 := Lib.hid (HB3.out.trans (hb4.mono HB3.out.size))
  clear hb4
  clear s3 b3_0 b3_1 b3_2
  have HRN : Hid (R = none) := Lib.hid (by rw [HR.out]; cases z1 <;> rfl)
  cases z1 with
  | false =>
    go_wp2_with fail
    go_ret
    unfold RepEnd
    rw [HRN.out]
    exact ⟨rfl, HB4.out⟩
  | true =>
    go_wp2_with fail
    go_ret
    unfold RepEnd
    rw [HRN.out]
    exact ⟨rfl, HB4.out⟩
set_option maxRecDepth 100000 in
set_option maxHeartbeats 8000000 in
theorem neutral_cut_n (base g gs cap i : Nat) (l : List St) (vs : List Value) (V : Value) (s : St) (w : World) (h : EdX w base g gs cap l vs V) (hs : l[i]? = some s) (hb : ∀ s ∈ l, s.args.length ≤ 3 ∧ ∀ a ∈ s.args, 0 ≤ a ∧ a ≤ 100000) (hop : s.op = Oz.oCut) (hl : s.args.length = 3) (j0 j1 j2 : Nat) (t0 t1 t2 : St) (hj0 : s.args[0]? = some (j0 : Int)) (_ht0 : l[j0]? = some t0) (hi0 : j0 < i) (hj1 : s.args[1]? = some (j1 : Int)) (ht1 : l[j1]? = some t1) (_hi1 : j1 < i) (hj2 : s.args[2]? = some (j2 : Int)) (ht2 : l[j2]? = some t2) (_hi2 : j2 < i)(hop2 : t2.op ≠ Oz.oLen) :
    Calls Try.prog 58 #[.pointer (some ⟨g, 0, none⟩), .int .i64 i] w (RepEnd base g gs cap l vs V (Oz.neutralR l i) w) := by
  have hil := (List.getElem?_eq_some_iff.1 hs).1
  have hbase := h.base_le
  have x0 := h.ed.cell 0
  simp only [List.getElem?_toArray, List.getElem?_cons_zero] at x0
  obtain ⟨v, hv, ⟨y0, y1, y2, y3, y4⟩, ho⟩ := h.at_ hs
  obtain ⟨A, c, rfl⟩ := own_form ho
  obtain ⟨R, hR⟩ : ∃ R, R = Oz.neutralR l i := ⟨_, rfl⟩
  rw [← hR]
  unfold Oz.neutralR at hR
  rw [at_get hs] at hR
  dsimp only at hR
  obtain ⟨n, hn⟩ : ∃ n, n = l.length := ⟨_, rfl⟩
  have HI : Hid (i < l.length) := Lib.hid hil
  rw [← hn] at hil x0
  have HH := Lib.hid h
  have HBB := Lib.hid hb
  have q0 : (i : Int) < (n : Int) := by omega
  have q1 : (0 : Int) ≤ (i : Int) := by omega
  have hgl := h.ed.lt
  have hgsl := h.gs_lt
  obtain ⟨num, hnum⟩ : ∃ num, num = s.num := ⟨_, rfl⟩
  obtain ⟨text, htext⟩ : ∃ text, text = s.text := ⟨_, rfl⟩
  obtain ⟨ty, hty⟩ : ∃ ty, ty = s.ty := ⟨_, rfl⟩
  obtain ⟨k, hk⟩ : ∃ k, k = s.args.length := ⟨_, rfl⟩
  rw [← hnum] at y2
  rw [← htext] at y3
  rw [← hty] at y4
  rw [← hk] at y1
  obtain ⟨q, c', hvq, _, hbq, hql, hc⟩ := own_at ho (by omega)
  injection hvq with hA hkk hcc
  clear hkk
  subst hA hcc
  have a0 : w.cell? ⟨q, 0, none⟩ = some (.int .i64 j0) := hc 0 _ (by rw [List.getElem?_map, hj0]; rfl)
  have ea0 : Oz.arg s 0 = (j0 : Int) := by unfold Oz.arg; rw [List.getD_eq_getElem?_getD, hj0]; rfl
  have p0 : (0 : Int) < (k : Int) := by omega
  have pp0 : 0 < k := by omega
  have a1 : w.cell? ⟨q, 1, none⟩ = some (.int .i64 j1) := hc 1 _ (by rw [List.getElem?_map, hj1]; rfl)
  have ea1 : Oz.arg s 1 = (j1 : Int) := by unfold Oz.arg; rw [List.getD_eq_getElem?_getD, hj1]; rfl
  have p1 : (1 : Int) < (k : Int) := by omega
  have pp1 : 1 < k := by omega
  have a2 : w.cell? ⟨q, 2, none⟩ = some (.int .i64 j2) := hc 2 _ (by rw [List.getElem?_map, hj2]; rfl)
  have ea2 : Oz.arg s 2 = (j2 : Int) := by unfold Oz.arg; rw [List.getD_eq_getElem?_getD, hj2]; rfl
  have p2 : (2 : Int) < (k : Int) := by omega
  have pp2 : 2 < k := by omega
  rw [ea0, ea1, ea2] at hR
  rw [hop, if_neg (by decide), if_neg (by decide), if_neg (by decide), if_neg (by decide), if_neg (by decide), if_neg (by decide), if_pos (by decide)] at hR
  rw [at_get ht2] at hR
  obtain ⟨z1, hz1⟩ : ∃ z, z = decide (t1.op = nNumber ∧ t1.num = 0) := ⟨_, rfl⟩
  have ez1 : Oz.isR l (j1 : Int) 0 = z1 := by unfold Oz.isR; rw [at_get ht1, hz1]
  have HC1 : Hid (∀ w : World, EdAt w g gs cap l V → Calls Try.prog 78 #[.pointer (some ⟨g, 0, none⟩), .int .i64 j1, .int .i64 0] w fun e w' => e = .returned (.bool z1) ∧ Below w.heap.size w w') := Lib.hid (fun w h => by rw [hz1]; exact is_step g gs cap j1 l V t1 w h ht1 0)
  rw [ez1] at hR
  clear hz1 ez1
  obtain ⟨r0, hr0⟩ : ∃ r, r = Oz.replaceR l i j0 := ⟨_, rfl⟩
  have HP0 : Hid (∀ w : World, EdX w base g gs cap l vs V → Calls Try.prog 74 #[.pointer (some ⟨g, 0, none⟩), .int .i64 i, .int .i64 j0] w (RepEnd base g gs cap l vs V r0 w)) := Lib.hid (fun w h => by rw [hr0]; exact replace_any base g gs cap i j0 l vs V w h hi0 HI.out HBB.out)
  rw [Int.toNat_natCast, ← hr0] at hR
  clear hr0
  obtain ⟨v2, hv2, ⟨z0, z1, z2, z3, z4⟩, ho2⟩ := h.at_ ht2
  obtain ⟨A2, c2, rfl⟩ := own_form ho2
  obtain ⟨k2, hk2⟩ : ∃ k2, k2 = t2.args.length := ⟨_, rfl⟩
  rw [← hk2] at z1
  obtain ⟨X, hX⟩ : ∃ X, X = t2.text := ⟨_, rfl⟩
  rw [← hX] at z3
  obtain ⟨num2, hnum2⟩ : ∃ num2, num2 = t2.num := ⟨_, rfl⟩
  rw [← hnum2] at z2
  obtain ⟨ty2, hty2⟩ : ∃ ty2, ty2 = t2.ty := ⟨_, rfl⟩
  rw [← hty2] at z4
  have hjl := (List.getElem?_eq_some_iff.1 ht2).1
  rw [← hn] at hjl
  have q2 : (j2 : Int) < (n : Int) := by omega
  have q3 : (0 : Int) ≤ (j2 : Int) := by omega
  have q4 : j2 < n := by omega
  have hW : (decide (t2.op = Oz.oLen) && decide (Oz.arg t2 0 = (j0 : Int))) = false := by rw [decide_eq_false hop2]; rfl
  have e9 : (t2.op == [108, 101, 110]) = false := beq_eq_false_iff_ne.2 hop2
  rw [hW] at hR
  have HX0 := Lib.hid x0
  have HA0 := Lib.hid a0
  have HA1 := Lib.hid a1
  have HA2 := Lib.hid a2
  have HR := Lib.hid hR
  rw [hop] at y0
  unfold Oz.oCut at y0
  clear h hs hb hv ho hn hop hl hk hnum htext hty hc hR hj0 _ht0 hi0 ea0 a0 hj1 ht1 _hi1 ea1 a1 hj2 ht2 _hi2 ea2 a2 hv2 ho2 hk2 hX hnum2 hty2 hjl hW hop2
  go_enter Try.func58, Try.ntmps58
  go_upto_region 21 with (fail)
  obtain ⟨w1, hw1⟩ : ∃ w1, w1 = w.alloc (.cells #[.string ⟨#[99, 117, 116]⟩, .slice (some ⟨q, 0, none⟩) k c, .int .i64 num, .string ⟨text.toArray⟩, .int .i64 ty] 25) := ⟨_, rfl⟩
  rw [← hw1]
  have HB1 : Hid (Below w.heap.size w w1) := Lib.hid (by rw [hw1]; exact below_alloc _ _)
  have HS1 : Hid (Blk w1 w.heap.size 25 #[.string ⟨#[99, 117, 116]⟩, .slice (some ⟨q, 0, none⟩) k c, .int .i64 num, .string ⟨text.toArray⟩, .int .i64 ty]) := Lib.hid (by rw [hw1]; exact Blk.new _ _ _)
  clear hw1 x0 y0 y1 y2 y3 y4
  have g0 := (HB1.out.cell (p := ⟨g, 0, none⟩) hgl).trans HX0.out
  have g1 := (HB1.out.cell (p := ⟨gs, _, none⟩) hgsl).trans z0
  have g2 := (HB1.out.cell (p := ⟨gs, _, none⟩) hgsl).trans z1
  have g3 := (HB1.out.cell (p := ⟨gs, _, none⟩) hgsl).trans z2
  have g4 := (HB1.out.cell (p := ⟨gs, _, none⟩) hgsl).trans z3
  have g5 := (HB1.out.cell (p := ⟨gs, _, none⟩) hgsl).trans z4
  have s1 := HS1.out.cell 1
  simp only [List.getElem?_toArray, List.getElem?_cons_zero, List.getElem?_cons_succ] at s1
  have b1_0 := (HB1.out.cell (p := ⟨q, 0, none⟩) hql).trans HA0.out
  have b1_1 := (HB1.out.cell (p := ⟨q, 1, none⟩) hql).trans HA1.out
  have b1_2 := (HB1.out.cell (p := ⟨q, 2, none⟩) hql).trans HA2.out
  have l1 := HS1.out.lt
  have l2 : g < w1.heap.size := Nat.lt_of_lt_of_le hgl HB1.out.size
  have l3 : gs < w1.heap.size := Nat.lt_of_lt_of_le hgsl HB1.out.size
  have l4 : q < w1.heap.size := Nat.lt_of_lt_of_le hql HB1.out.size
  go_region
  clear l1 l2 l3 l4
  obtain ⟨w2, hw2⟩ : ∃ w2, w2 = (w1.alloc (.cells #[.string ⟨t2.op.toArray⟩, .slice A2 k2 c2, .int .i64 num2, .string ⟨X.toArray⟩, .int .i64 ty2] 25)).drew := ⟨_, rfl⟩
  rw [← hw2]
  have hb2 : Below w1.heap.size w1 w2 := by rw [hw2]; exact (below_alloc _ _).drew
  have HB2 := Lib.hid (HB1.out.trans (hb2.mono HB1.out.size))
  have HS2 := Lib.hid (HS1.out.below hb2 HS1.out.lt)
  have HT2 : Hid (Blk w2 w1.heap.size 25 #[.string ⟨t2.op.toArray⟩, .slice A2 k2 c2, .int .i64 num2, .string ⟨X.toArray⟩, .int .i64 ty2]) := Lib.hid (by rw [hw2]; exact (Blk.new _ _ _).drew)
  clear hw2 hb2 g0 g1 g2 g3 g4 g5 z0 z1 z2 z3 z4
  clear s1 b1_0 b1_1 b1_2
  have u0 := HT2.out.cell 0
  have u1 := HT2.out.cell 1
  simp only [List.getElem?_toArray, List.getElem?_cons_zero, List.getElem?_cons_succ] at u0 u1
  have s2 := HS2.out.cell 1
  simp only [List.getElem?_toArray, List.getElem?_cons_zero, List.getElem?_cons_succ] at s2
  have b2_0 := (HB2.out.cell (p := ⟨q, 0, none⟩) hql).trans HA0.out
  have b2_1 := (HB2.out.cell (p := ⟨q, 1, none⟩) hql).trans HA1.out
  have b2_2 := (HB2.out.cell (p := ⟨q, 2, none⟩) hql).trans HA2.out
  go_wp2_with fail
  go_quiet (fail)
  go_upto_region 23 with (fail)
  obtain ⟨w3, hw3⟩ : ∃ w3, w3 = w2.drewN nq := ⟨_, rfl⟩
  rw [← hw3]
  have HB3 : Hid (Below w.heap.size w w3) := Lib.hid (by rw [hw3]; exact below_drewN HB2.out _)
  have HS3 : Hid (Blk w3 w.heap.size 25 #[.string ⟨#[99, 117, 116]⟩, .slice (some ⟨q, 0, none⟩) k c, .int .i64 num, .string ⟨text.toArray⟩, .int .i64 ty]) := Lib.hid (by rw [hw3]; exact HS2.out.drewN _)
  clear hw3 u0 u1
  clear s2 b2_0 b2_1 b2_2
  have s3 := HS3.out.cell 1
  simp only [List.getElem?_toArray, List.getElem?_cons_zero, List.getElem?_cons_succ] at s3
  have b3_0 := (HB3.out.cell (p := ⟨q, 0, none⟩) hql).trans HA0.out
  have b3_1 := (HB3.out.cell (p := ⟨q, 1, none⟩) hql).trans HA1.out
  have b3_2 := (HB3.out.cell (p := ⟨q, 2, none⟩) hql).trans HA2.out
  go_wp2_with fail
  refine (HC1.out w3 (HH.out.below HB3.out).edAt).mono ?_
  rintro e w4 ⟨rfl, hb4⟩
  have HB4 := Lib.hid (HB3.out.trans (hb4.mono HB3.out.size))
  clear hb4
  clear s3 b3_0 b3_1 b3_2
  have HRN : Hid (R = none) := Lib.hid (by rw [HR.out]; cases z1 <;> rfl)
  cases z1 with
  | false =>
    go_wp2_with fail
    go_ret
    unfold RepEnd
    rw [HRN.out]
    exact ⟨rfl, HB4.out⟩
  | true =>
    go_wp2_with fail
    go_ret
    unfold RepEnd
    rw [HRN.out]
    exact ⟨rfl, HB4.out⟩
set_option maxRecDepth 100000 in
set_option maxHeartbeats 8000000 in
theorem neutral_not_y (base g gs cap i : Nat) (l : List St) (vs : List Value) (V : Value) (s : St) (w : World) (h : EdX w base g gs cap l vs V) (hs : l[i]? = some s) (hb : ∀ s ∈ l, s.args.length ≤ 3 ∧ ∀ a ∈ s.args, 0 ≤ a ∧ a ≤ 100000) (hop : s.op = Oz.oNot) (hl : s.args.length = 1) (j0 : Nat) (t0 : St) (hj0 : s.args[0]? = some (j0 : Int)) (ht0 : l[j0]? = some t0) (_hi0 : j0 < i)(m : Nat) (hm : t0.args[0]? = some (m : Int)) (hop2 : t0.op = Oz.oNot) (hmi : m < i) :
    Calls Try.prog 58 #[.pointer (some ⟨g, 0, none⟩), .int .i64 i] w (RepEnd base g gs cap l vs V (Oz.neutralR l i) w) := by
  have hil := (List.getElem?_eq_some_iff.1 hs).1
  have hbase := h.base_le
  have x0 := h.ed.cell 0
  simp only [List.getElem?_toArray, List.getElem?_cons_zero] at x0
  obtain ⟨v, hv, ⟨y0, y1, y2, y3, y4⟩, ho⟩ := h.at_ hs
  obtain ⟨A, c, rfl⟩ := own_form ho
  obtain ⟨R, hR⟩ : ∃ R, R = Oz.neutralR l i := ⟨_, rfl⟩
  rw [← hR]
  unfold Oz.neutralR at hR
  rw [at_get hs] at hR
  dsimp only at hR
  obtain ⟨n, hn⟩ : ∃ n, n = l.length := ⟨_, rfl⟩
  have HI : Hid (i < l.length) := Lib.hid hil
  rw [← hn] at hil x0
  have HH := Lib.hid h
  have HBB := Lib.hid hb
  have q0 : (i : Int) < (n : Int) := by omega
  have q1 : (0 : Int) ≤ (i : Int) := by omega
  have hgl := h.ed.lt
  have hgsl := h.gs_lt
  obtain ⟨num, hnum⟩ : ∃ num, num = s.num := ⟨_, rfl⟩
  obtain ⟨text, htext⟩ : ∃ text, text = s.text := ⟨_, rfl⟩
  obtain ⟨ty, hty⟩ : ∃ ty, ty = s.ty := ⟨_, rfl⟩
  obtain ⟨k, hk⟩ : ∃ k, k = s.args.length := ⟨_, rfl⟩
  rw [← hnum] at y2
  rw [← htext] at y3
  rw [← hty] at y4
  rw [← hk] at y1
  obtain ⟨q, c', hvq, _, hbq, hql, hc⟩ := own_at ho (by omega)
  injection hvq with hA hkk hcc
  clear hkk
  subst hA hcc
  have a0 : w.cell? ⟨q, 0, none⟩ = some (.int .i64 j0) := hc 0 _ (by rw [List.getElem?_map, hj0]; rfl)
  have ea0 : Oz.arg s 0 = (j0 : Int) := by unfold Oz.arg; rw [List.getD_eq_getElem?_getD, hj0]; rfl
  have p0 : (0 : Int) < (k : Int) := by omega
  have pp0 : 0 < k := by omega
  rw [ea0] at hR
  have ea1 := True.intro
  rw [hop, if_neg (by decide), if_neg (by decide), if_neg (by decide), if_neg (by decide), if_neg (by decide), if_neg (by decide), if_neg (by decide), if_pos (by decide)] at hR
  rw [at_get ht0] at hR
  obtain ⟨v2, hv2, ⟨z0, z1, z2, z3, z4⟩, ho2⟩ := h.at_ ht0
  obtain ⟨A2, c2, rfl⟩ := own_form ho2
  obtain ⟨k2, hk2⟩ : ∃ k2, k2 = t0.args.length := ⟨_, rfl⟩
  rw [← hk2] at z1
  obtain ⟨X, hX⟩ : ∃ X, X = t0.text := ⟨_, rfl⟩
  rw [← hX] at z3
  obtain ⟨num2, hnum2⟩ : ∃ num2, num2 = t0.num := ⟨_, rfl⟩
  rw [← hnum2] at z2
  obtain ⟨ty2, hty2⟩ : ∃ ty2, ty2 = t0.ty := ⟨_, rfl⟩
  rw [← hty2] at z4
  have hjl := (List.getElem?_eq_some_iff.1 ht0).1
  rw [← hn] at hjl
  have q2 : (j0 : Int) < (n : Int) := by omega
  have q3 : (0 : Int) ≤ (j0 : Int) := by omega
  have q4 : j0 < n := by omega
  obtain ⟨r, c3, hvr, _, hbr, hrl, hcr⟩ := own_at ho2 (by have := (List.getElem?_eq_some_iff.1 hm).1; omega)
  injection hvr with hA hkk hcc
  clear hkk
  subst hA hcc
  have b9 : w.cell? ⟨r, 0, none⟩ = some (.int .i64 m) := hcr 0 _ (by rw [List.getElem?_map, hm]; rfl)
  have em : Oz.arg t0 0 = (m : Int) := by unfold Oz.arg; rw [List.getD_eq_getElem?_getD, hm]; rfl
  have hk3 : 0 < k2 := by have := (List.getElem?_eq_some_iff.1 hm).1; omega
  have p9 : (0 : Int) < (k2 : Int) := by omega
  rw [hop2] at z0
  unfold Oz.oNot at z0
  clear hcr
  rw [if_pos hop2, em] at hR
  obtain ⟨r0, hr0⟩ : ∃ r, r = Oz.replaceR l i m := ⟨_, rfl⟩
  have HP0 : Hid (∀ w : World, EdX w base g gs cap l vs V → Calls Try.prog 74 #[.pointer (some ⟨g, 0, none⟩), .int .i64 i, .int .i64 m] w (RepEnd base g gs cap l vs V r0 w)) := Lib.hid (fun w h => by rw [hr0]; exact replace_any base g gs cap i m l vs V w h hmi HI.out HBB.out)
  rw [Int.toNat_natCast, ← hr0] at hR
  clear hr0
  have HX0 := Lib.hid x0
  have HA0 := Lib.hid a0
  have HR := Lib.hid hR
  rw [hop] at y0
  unfold Oz.oNot at y0
  have HB9 := Lib.hid b9
  clear h hs hb hv ho hn hop hl hk hnum htext hty hc hR hj0 ht0 _hi0 ea0 ea1 a0 hv2 ho2 hk2 hX hnum2 hty2 hjl hop2 hm em hk3
  go_enter Try.func58, Try.ntmps58
  go_upto_region 25 with (fail)
  obtain ⟨w1, hw1⟩ : ∃ w1, w1 = w.alloc (.cells #[.string ⟨#[110, 111, 116]⟩, .slice (some ⟨q, 0, none⟩) k c, .int .i64 num, .string ⟨text.toArray⟩, .int .i64 ty] 25) := ⟨_, rfl⟩
  rw [← hw1]
  have HB1 : Hid (Below w.heap.size w w1) := Lib.hid (by rw [hw1]; exact below_alloc _ _)
  have HS1 : Hid (Blk w1 w.heap.size 25 #[.string ⟨#[110, 111, 116]⟩, .slice (some ⟨q, 0, none⟩) k c, .int .i64 num, .string ⟨text.toArray⟩, .int .i64 ty]) := Lib.hid (by rw [hw1]; exact Blk.new _ _ _)
  clear hw1 x0 y0 y1 y2 y3 y4
  have g0 := (HB1.out.cell (p := ⟨g, 0, none⟩) hgl).trans HX0.out
  have g1 := (HB1.out.cell (p := ⟨gs, _, none⟩) hgsl).trans z0
  have g2 := (HB1.out.cell (p := ⟨gs, _, none⟩) hgsl).trans z1
  have g3 := (HB1.out.cell (p := ⟨gs, _, none⟩) hgsl).trans z2
  have g4 := (HB1.out.cell (p := ⟨gs, _, none⟩) hgsl).trans z3
  have g5 := (HB1.out.cell (p := ⟨gs, _, none⟩) hgsl).trans z4
  have s1 := HS1.out.cell 1
  simp only [List.getElem?_toArray, List.getElem?_cons_zero, List.getElem?_cons_succ] at s1
  have b1_0 := (HB1.out.cell (p := ⟨q, 0, none⟩) hql).trans HA0.out
  have l1 := HS1.out.lt
  have l2 : g < w1.heap.size := Nat.lt_of_lt_of_le hgl HB1.out.size
  have l3 : gs < w1.heap.size := Nat.lt_of_lt_of_le hgsl HB1.out.size
  have l4 : q < w1.heap.size := Nat.lt_of_lt_of_le hql HB1.out.size
  go_region
  clear l1 l2 l3 l4
  obtain ⟨w2, hw2⟩ : ∃ w2, w2 = (w1.alloc (.cells #[.string ⟨#[110, 111, 116]⟩, .slice (some ⟨r, 0, none⟩) k2 c2, .int .i64 num2, .string ⟨X.toArray⟩, .int .i64 ty2] 25)).drew := ⟨_, rfl⟩
  rw [← hw2]
  have hb2 : Below w1.heap.size w1 w2 := by rw [hw2]; exact (below_alloc _ _).drew
  have HB2 := Lib.hid (HB1.out.trans (hb2.mono HB1.out.size))
  have HS2 := Lib.hid (HS1.out.below hb2 HS1.out.lt)
  have HT2 : Hid (Blk w2 w1.heap.size 25 #[.string ⟨#[110, 111, 116]⟩, .slice (some ⟨r, 0, none⟩) k2 c2, .int .i64 num2, .string ⟨X.toArray⟩, .int .i64 ty2]) := Lib.hid (by rw [hw2]; exact (Blk.new _ _ _).drew)
  clear hw2 hb2 g0 g1 g2 g3 g4 g5 z0 z1 z2 z3 z4
  clear s1 b1_0
  have u0 := HT2.out.cell 0
  have u1 := HT2.out.cell 1
  simp only [List.getElem?_toArray, List.getElem?_cons_zero, List.getElem?_cons_succ] at u0 u1
  have b9' := (HB2.out.cell (p := ⟨r, 0, none⟩) hrl).trans HB9.out
  go_wp2_with fail
  refine (HP0.out w2 (HH.out.below HB2.out)).mono ?_
  intro e w3 h3
  clear u0 u1 b9'
  cases r0 with
  | none =>
    have h3 : e = .returned (.bool false) ∧ Below w2.heap.size w2 w3 := h3
    obtain ⟨rfl, hb3⟩ := h3
    have HB3 := Lib.hid (HB2.out.trans (hb3.mono HB2.out.size))
    clear hb3
    have HRN : Hid (R = none) := Lib.hid HR.out
    go_wp2_with fail
    go_ret
    unfold RepEnd
    rw [HRN.out]
    exact ⟨rfl, HB3.out⟩
  | some l9 =>
    have h3 : e = .returned (.bool true) ∧ (∃ vs9, EdX w3 base g gs cap l9 vs9 V) ∧ FrX base w2 w3 := h3
    obtain ⟨rfl, ⟨vs9, he9⟩, hf9⟩ := h3
    have HE9 := Lib.hid he9
    have HF9 := Lib.hid (((FrX.refl base w).below HB2.out hbase).trans hf9)
    clear he9 hf9
    have HRN : Hid (R = some l9) := Lib.hid HR.out
    go_wp2_with fail
    go_ret
    unfold RepEnd
    rw [HRN.out]
    exact ⟨rfl, ⟨_, HE9.out⟩, HF9.out⟩
set_option maxRecDepth 100000 in
set_option maxHeartbeats 8000000 in
theorem neutral_not_n (base g gs cap i : Nat) (l : List St) (vs : List Value) (V : Value) (s : St) (w : World) (h : EdX w base g gs cap l vs V) (hs : l[i]? = some s) (hb : ∀ s ∈ l, s.args.length ≤ 3 ∧ ∀ a ∈ s.args, 0 ≤ a ∧ a ≤ 100000) (hop : s.op = Oz.oNot) (hl : s.args.length = 1) (j0 : Nat) (t0 : St) (hj0 : s.args[0]? = some (j0 : Int)) (ht0 : l[j0]? = some t0) (_hi0 : j0 < i)(hop2 : t0.op ≠ Oz.oNot) :
    Calls Try.prog 58 #[.pointer (some ⟨g, 0, none⟩), .int .i64 i] w (RepEnd base g gs cap l vs V (Oz.neutralR l i) w) := by
  have hil := (List.getElem?_eq_some_iff.1 hs).1
  have hbase := h.base_le
  have x0 := h.ed.cell 0
  simp only [List.getElem?_toArray, List.getElem?_cons_zero] at x0
  obtain ⟨v, hv, ⟨y0, y1, y2, y3, y4⟩, ho⟩ := h.at_ hs
  obtain ⟨A, c, rfl⟩ := own_form ho
  obtain ⟨R, hR⟩ : ∃ R, R = Oz.neutralR l i := ⟨_, rfl⟩
  rw [← hR]
  unfold Oz.neutralR at hR
  rw [at_get hs] at hR
  dsimp only at hR
  obtain ⟨n, hn⟩ : ∃ n, n = l.length := ⟨_, rfl⟩
  have HI : Hid (i < l.length) := Lib.hid hil
  rw [← hn] at hil x0
  have HH := Lib.hid h
  have HBB := Lib.hid hb
  have q0 : (i : Int) < (n : Int) := by omega
  have q1 : (0 : Int) ≤ (i : Int) := by omega
  have hgl := h.ed.lt
  have hgsl := h.gs_lt
  obtain ⟨num, hnum⟩ : ∃ num, num = s.num := ⟨_, rfl⟩
  obtain ⟨text, htext⟩ : ∃ text, text = s.text := ⟨_, rfl⟩
  obtain ⟨ty, hty⟩ : ∃ ty, ty = s.ty := ⟨_, rfl⟩
  obtain ⟨k, hk⟩ : ∃ k, k = s.args.length := ⟨_, rfl⟩
  rw [← hnum] at y2
  rw [← htext] at y3
  rw [← hty] at y4
  rw [← hk] at y1
  obtain ⟨q, c', hvq, _, hbq, hql, hc⟩ := own_at ho (by omega)
  injection hvq with hA hkk hcc
  clear hkk
  subst hA hcc
  have a0 : w.cell? ⟨q, 0, none⟩ = some (.int .i64 j0) := hc 0 _ (by rw [List.getElem?_map, hj0]; rfl)
  have ea0 : Oz.arg s 0 = (j0 : Int) := by unfold Oz.arg; rw [List.getD_eq_getElem?_getD, hj0]; rfl
  have p0 : (0 : Int) < (k : Int) := by omega
  have pp0 : 0 < k := by omega
  rw [ea0] at hR
  have ea1 := True.intro
  rw [hop, if_neg (by decide), if_neg (by decide), if_neg (by decide), if_neg (by decide), if_neg (by decide), if_neg (by decide), if_neg (by decide), if_pos (by decide)] at hR
  rw [at_get ht0] at hR
  obtain ⟨v2, hv2, ⟨z0, z1, z2, z3, z4⟩, ho2⟩ := h.at_ ht0
  obtain ⟨A2, c2, rfl⟩ := own_form ho2
  obtain ⟨k2, hk2⟩ : ∃ k2, k2 = t0.args.length := ⟨_, rfl⟩
  rw [← hk2] at z1
  obtain ⟨X, hX⟩ : ∃ X, X = t0.text := ⟨_, rfl⟩
  rw [← hX] at z3
  obtain ⟨num2, hnum2⟩ : ∃ num2, num2 = t0.num := ⟨_, rfl⟩
  rw [← hnum2] at z2
  obtain ⟨ty2, hty2⟩ : ∃ ty2, ty2 = t0.ty := ⟨_, rfl⟩
  rw [← hty2] at z4
  have hjl := (List.getElem?_eq_some_iff.1 ht0).1
  rw [← hn] at hjl
  have q2 : (j0 : Int) < (n : Int) := by omega
  have q3 : (0 : Int) ≤ (j0 : Int) := by omega
  have q4 : j0 < n := by omega
  rw [if_neg hop2] at hR
  have e9 : (t0.op == [110, 111, 116]) = false := beq_eq_false_iff_ne.2 hop2
  have HX0 := Lib.hid x0
  have HA0 := Lib.hid a0
  have HR := Lib.hid hR
  rw [hop] at y0
  unfold Oz.oNot at y0
  clear h hs hb hv ho hn hop hl hk hnum htext hty hc hR hj0 ht0 _hi0 ea0 ea1 a0 hv2 ho2 hk2 hX hnum2 hty2 hjl hop2
  go_enter Try.func58, Try.ntmps58
  go_upto_region 25 with (fail)
  obtain ⟨w1, hw1⟩ : ∃ w1, w1 = w.alloc (.cells #[.string ⟨#[110, 111, 116]⟩, .slice (some ⟨q, 0, none⟩) k c, .int .i64 num, .string ⟨text.toArray⟩, .int .i64 ty] 25) := ⟨_, rfl⟩
  rw [← hw1]
  have HB1 : Hid (Below w.heap.size w w1) := Lib.hid (by rw [hw1]; exact below_alloc _ _)
  have HS1 : Hid (Blk w1 w.heap.size 25 #[.string ⟨#[110, 111, 116]⟩, .slice (some ⟨q, 0, none⟩) k c, .int .i64 num, .string ⟨text.toArray⟩, .int .i64 ty]) := Lib.hid (by rw [hw1]; exact Blk.new _ _ _)
  clear hw1 x0 y0 y1 y2 y3 y4
  have g0 := (HB1.out.cell (p := ⟨g, 0, none⟩) hgl).trans HX0.out
  have g1 := (HB1.out.cell (p := ⟨gs, _, none⟩) hgsl).trans z0
  have g2 := (HB1.out.cell (p := ⟨gs, _, none⟩) hgsl).trans z1
  have g3 := (HB1.out.cell (p := ⟨gs, _, none⟩) hgsl).trans z2
  have g4 := (HB1.out.cell (p := ⟨gs, _, none⟩) hgsl).trans z3
  have g5 := (HB1.out.cell (p := ⟨gs, _, none⟩) hgsl).trans z4
  have s1 := HS1.out.cell 1
  simp only [List.getElem?_toArray, List.getElem?_cons_zero, List.getElem?_cons_succ] at s1
  have b1_0 := (HB1.out.cell (p := ⟨q, 0, none⟩) hql).trans HA0.out
  have l1 := HS1.out.lt
  have l2 : g < w1.heap.size := Nat.lt_of_lt_of_le hgl HB1.out.size
  have l3 : gs < w1.heap.size := Nat.lt_of_lt_of_le hgsl HB1.out.size
  have l4 : q < w1.heap.size := Nat.lt_of_lt_of_le hql HB1.out.size
  go_region
  clear l1 l2 l3 l4
  obtain ⟨w2, hw2⟩ : ∃ w2, w2 = (w1.alloc (.cells #[.string ⟨t0.op.toArray⟩, .slice A2 k2 c2, .int .i64 num2, .string ⟨X.toArray⟩, .int .i64 ty2] 25)).drew := ⟨_, rfl⟩
  rw [← hw2]
  have hb2 : Below w1.heap.size w1 w2 := by rw [hw2]; exact (below_alloc _ _).drew
  have HB2 := Lib.hid (HB1.out.trans (hb2.mono HB1.out.size))
  have HS2 := Lib.hid (HS1.out.below hb2 HS1.out.lt)
  have HT2 : Hid (Blk w2 w1.heap.size 25 #[.string ⟨t0.op.toArray⟩, .slice A2 k2 c2, .int .i64 num2, .string ⟨X.toArray⟩, .int .i64 ty2]) := Lib.hid (by rw [hw2]; exact (Blk.new _ _ _).drew)
  clear hw2 hb2 g0 g1 g2 g3 g4 g5 z0 z1 z2 z3 z4
  clear s1 b1_0
  have u0 := HT2.out.cell 0
  simp only [List.getElem?_toArray, List.getElem?_cons_zero] at u0
  have HRN : Hid (R = none) := HR
  go_wp2_with fail
  go_ret
  unfold RepEnd
  rw [HRN.out]
  exact ⟨rfl, HB2.out⟩
set_option maxRecDepth 100000 in
set_option maxHeartbeats 8000000 in
theorem neutral_no (base g gs cap i : Nat) (l : List St) (vs : List Value) (V : Value) (s : St) (w : World) (h : EdX w base g gs cap l vs V) (hs : l[i]? = some s) (h0 : s.op ≠ Oz.oAdd) (h1 : s.op ≠ Oz.oSub) (h2 : s.op ≠ Oz.oMul) (h3 : s.op ≠ Oz.oMin) (h4 : s.op ≠ Oz.oMax) (h5 : s.op ≠ Oz.oAnd) (h6 : s.op ≠ Oz.oOr) (h7 : s.op ≠ Oz.oUnion) (h8 : s.op ≠ Oz.oWithin) (h9 : s.op ≠ Oz.oCat) (h10 : s.op ≠ Oz.oRep) (h11 : s.op ≠ Oz.oCut) (h12 : s.op ≠ Oz.oNot) :
    Calls Try.prog 58 #[.pointer (some ⟨g, 0, none⟩), .int .i64 i] w (RepEnd base g gs cap l vs V (Oz.neutralR l i) w) := by
  have hil := (List.getElem?_eq_some_iff.1 hs).1
  have x0 := h.ed.cell 0
  simp only [List.getElem?_toArray, List.getElem?_cons_zero] at x0
  obtain ⟨v, hv, ⟨y0, y1, y2, y3, y4⟩, ho⟩ := h.at_ hs
  obtain ⟨A, c, rfl⟩ := own_form ho
  obtain ⟨R, hR⟩ : ∃ R, R = Oz.neutralR l i := ⟨_, rfl⟩
  rw [← hR]
  unfold Oz.neutralR at hR
  rw [at_get hs] at hR
  dsimp only at hR
  have HRN : Hid (R = none) := Lib.hid (by rw [hR, if_neg h0, if_neg h1, if_neg h2, if_neg (by simp only [not_or]; exact ⟨h3, h4, h5, h6, h7, h8⟩), if_neg h9, if_neg h10, if_neg h11, if_neg h12])
  obtain ⟨n, hn⟩ : ∃ n, n = l.length := ⟨_, rfl⟩
  rw [← hn] at hil x0
  have q0 : (i : Int) < (n : Int) := by omega
  have q1 : (0 : Int) ≤ (i : Int) := by omega
  have e0 : (s.op == [43]) = false := beq_eq_false_iff_ne.2 h0
  have e1 : (s.op == [45]) = false := beq_eq_false_iff_ne.2 h1
  have e2 : (s.op == [42]) = false := beq_eq_false_iff_ne.2 h2
  have e3 : (s.op == [109, 105, 110]) = false := beq_eq_false_iff_ne.2 h3
  have e4 : (s.op == [109, 97, 120]) = false := beq_eq_false_iff_ne.2 h4
  have e5 : (s.op == [97, 110, 100]) = false := beq_eq_false_iff_ne.2 h5
  have e6 : (s.op == [111, 114]) = false := beq_eq_false_iff_ne.2 h6
  have e7 : (s.op == [117, 110, 105, 111, 110]) = false := beq_eq_false_iff_ne.2 h7
  have e8 : (s.op == [119, 105, 116, 104, 105, 110]) = false := beq_eq_false_iff_ne.2 h8
  have e9 : (s.op == [43, 43]) = false := beq_eq_false_iff_ne.2 h9
  have e10 : (s.op == [114, 101, 112]) = false := beq_eq_false_iff_ne.2 h10
  have e11 : (s.op == [99, 117, 116]) = false := beq_eq_false_iff_ne.2 h11
  have e12 : (s.op == [110, 111, 116]) = false := beq_eq_false_iff_ne.2 h12
  clear h hs hv ho hn hR h0 h1 h2 h3 h4 h5 h6 h7 h8 h9 h10 h11 h12
  go_enter Try.func58, Try.ntmps58
  go_wp2_with fail
  go_ret
  unfold RepEnd
  rw [HRN.out]
  exact ⟨rfl, below_alloc _ _⟩
theorem neutral_any (base g gs cap i : Nat) (l : List St) (vs : List Value) (V : Value) (s : St) (w : World) (h : EdX w base g gs cap l vs V) (hs : l[i]? = some s) (hc : checkR l = 0) :
    Calls Try.prog 58 #[.pointer (some ⟨g, 0, none⟩), .int .i64 i] w (RepEnd base g gs cap l vs V (Oz.neutralR l i) w) := by
  have hb := ok_bd hc
  by_cases h0 : s.op = Oz.oAdd
  · have hal := ok_arity hc hs 2 (by rw [h0]; kernel_rfl)
    obtain ⟨j0, t0, hj0, hi0, ht0, _, _⟩ := ok_at hc hs (k := 0) (by omega)
    obtain ⟨j1, t1, hj1, hi1, ht1, _, _⟩ := ok_at hc hs (k := 1) (by omega)
    exact neutral_add base g gs cap i l vs V s w h hs hb h0 hal j0 j1 t0 t1 hj0 ht0 hi0 hj1 ht1 hi1
  by_cases h1 : s.op = Oz.oSub
  · have hal := ok_arity hc hs 2 (by rw [h1]; kernel_rfl)
    obtain ⟨j0, t0, hj0, hi0, ht0, _, _⟩ := ok_at hc hs (k := 0) (by omega)
    obtain ⟨j1, t1, hj1, hi1, ht1, _, _⟩ := ok_at hc hs (k := 1) (by omega)
    exact neutral_sub base g gs cap i l vs V s w h hs hb h1 hal j0 j1 t0 t1 hj0 ht0 hi0 hj1 ht1 hi1
  by_cases h2 : s.op = Oz.oMul
  · have hal := ok_arity hc hs 2 (by rw [h2]; kernel_rfl)
    obtain ⟨j0, t0, hj0, hi0, ht0, _, _⟩ := ok_at hc hs (k := 0) (by omega)
    obtain ⟨j1, t1, hj1, hi1, ht1, _, _⟩ := ok_at hc hs (k := 1) (by omega)
    exact neutral_mul base g gs cap i l vs V s w h hs hb h2 hal j0 j1 t0 t1 hj0 ht0 hi0 hj1 ht1 hi1
  by_cases h3 : s.op = Oz.oMin
  · have hal := ok_arity hc hs 2 (by rw [h3]; kernel_rfl)
    obtain ⟨j0, t0, hj0, hi0, ht0, _, _⟩ := ok_at hc hs (k := 0) (by omega)
    obtain ⟨j1, t1, hj1, hi1, ht1, _, _⟩ := ok_at hc hs (k := 1) (by omega)
    exact neutral_min base g gs cap i l vs V s w h hs hb h3 hal j0 j1 t0 t1 hj0 ht0 hi0 hj1 ht1 hi1
  by_cases h4 : s.op = Oz.oMax
  · have hal := ok_arity hc hs 2 (by rw [h4]; kernel_rfl)
    obtain ⟨j0, t0, hj0, hi0, ht0, _, _⟩ := ok_at hc hs (k := 0) (by omega)
    obtain ⟨j1, t1, hj1, hi1, ht1, _, _⟩ := ok_at hc hs (k := 1) (by omega)
    exact neutral_max base g gs cap i l vs V s w h hs hb h4 hal j0 j1 t0 t1 hj0 ht0 hi0 hj1 ht1 hi1
  by_cases h5 : s.op = Oz.oAnd
  · have hal := ok_arity hc hs 2 (by rw [h5]; kernel_rfl)
    obtain ⟨j0, t0, hj0, hi0, ht0, _, _⟩ := ok_at hc hs (k := 0) (by omega)
    obtain ⟨j1, t1, hj1, hi1, ht1, _, _⟩ := ok_at hc hs (k := 1) (by omega)
    exact neutral_and base g gs cap i l vs V s w h hs hb h5 hal j0 j1 t0 t1 hj0 ht0 hi0 hj1 ht1 hi1
  by_cases h6 : s.op = Oz.oOr
  · have hal := ok_arity hc hs 2 (by rw [h6]; kernel_rfl)
    obtain ⟨j0, t0, hj0, hi0, ht0, _, _⟩ := ok_at hc hs (k := 0) (by omega)
    obtain ⟨j1, t1, hj1, hi1, ht1, _, _⟩ := ok_at hc hs (k := 1) (by omega)
    exact neutral_or base g gs cap i l vs V s w h hs hb h6 hal j0 j1 t0 t1 hj0 ht0 hi0 hj1 ht1 hi1
  by_cases h7 : s.op = Oz.oUnion
  · have hal := ok_arity hc hs 2 (by rw [h7]; kernel_rfl)
    obtain ⟨j0, t0, hj0, hi0, ht0, _, _⟩ := ok_at hc hs (k := 0) (by omega)
    obtain ⟨j1, t1, hj1, hi1, ht1, _, _⟩ := ok_at hc hs (k := 1) (by omega)
    exact neutral_union base g gs cap i l vs V s w h hs hb h7 hal j0 j1 t0 t1 hj0 ht0 hi0 hj1 ht1 hi1
  by_cases h8 : s.op = Oz.oWithin
  · have hal := ok_arity hc hs 2 (by rw [h8]; kernel_rfl)
    obtain ⟨j0, t0, hj0, hi0, ht0, _, _⟩ := ok_at hc hs (k := 0) (by omega)
    obtain ⟨j1, t1, hj1, hi1, ht1, _, _⟩ := ok_at hc hs (k := 1) (by omega)
    exact neutral_within base g gs cap i l vs V s w h hs hb h8 hal j0 j1 t0 t1 hj0 ht0 hi0 hj1 ht1 hi1
  by_cases h9 : s.op = Oz.oCat
  · have hal := ok_arity hc hs 2 (by rw [h9]; kernel_rfl)
    obtain ⟨j0, t0, hj0, hi0, ht0, _, _⟩ := ok_at hc hs (k := 0) (by omega)
    obtain ⟨j1, t1, hj1, hi1, ht1, _, _⟩ := ok_at hc hs (k := 1) (by omega)
    exact neutral_cat base g gs cap i l vs V s w h hs hb h9 hal j0 j1 t0 t1 hj0 ht0 hi0 hj1 ht1 hi1
  by_cases h10 : s.op = Oz.oRep
  · have hal := ok_arity hc hs 2 (by rw [h10]; kernel_rfl)
    obtain ⟨j0, t0, hj0, hi0, ht0, _, _⟩ := ok_at hc hs (k := 0) (by omega)
    obtain ⟨j1, t1, hj1, hi1, ht1, _, _⟩ := ok_at hc hs (k := 1) (by omega)
    exact neutral_rep base g gs cap i l vs V s w h hs hb h10 hal j0 j1 t0 t1 hj0 ht0 hi0 hj1 ht1 hi1
  by_cases h11 : s.op = Oz.oCut
  · have hal := ok_arity hc hs 3 (by rw [h11]; kernel_rfl)
    obtain ⟨j0, t0, hj0, hi0, ht0, _, _⟩ := ok_at hc hs (k := 0) (by omega)
    obtain ⟨j1, t1, hj1, hi1, ht1, _, _⟩ := ok_at hc hs (k := 1) (by omega)
    obtain ⟨j2, t2, hj2, hi2, ht2, _, _⟩ := ok_at hc hs (k := 2) (by omega)
    by_cases hop2 : t2.op = Oz.oLen
    · have hal2 := ok_arity hc ht2 1 (by rw [hop2]; kernel_rfl)
      obtain ⟨m, _, hm, _⟩ := ok_at hc ht2 (k := 0) (by omega)
      by_cases hmm : m = j0
      · exact neutral_cut_w base g gs cap i l vs V s w h hs hb h11 hal j0 j1 j2 t0 t1 t2 hj0 ht0 hi0 hj1 ht1 hi1 hj2 ht2 hi2 m hm hop2 hmm
      · exact neutral_cut_m base g gs cap i l vs V s w h hs hb h11 hal j0 j1 j2 t0 t1 t2 hj0 ht0 hi0 hj1 ht1 hi1 hj2 ht2 hi2 m hm hop2 hmm
    · exact neutral_cut_n base g gs cap i l vs V s w h hs hb h11 hal j0 j1 j2 t0 t1 t2 hj0 ht0 hi0 hj1 ht1 hi1 hj2 ht2 hi2 hop2
  by_cases h12 : s.op = Oz.oNot
  · have hal := ok_arity hc hs 1 (by rw [h12]; kernel_rfl)
    obtain ⟨j0, t0, hj0, hi0, ht0, _, _⟩ := ok_at hc hs (k := 0) (by omega)
    by_cases hop2 : t0.op = Oz.oNot
    · have hal2 := ok_arity hc ht0 1 (by rw [hop2]; kernel_rfl)
      obtain ⟨m, _, hm, hmj, _⟩ := ok_at hc ht0 (k := 0) (by omega)
      exact neutral_not_y base g gs cap i l vs V s w h hs hb h12 hal j0 t0 hj0 ht0 hi0 m hm hop2 (by omega)
    · exact neutral_not_n base g gs cap i l vs V s w h hs hb h12 hal j0 t0 hj0 ht0 hi0 hop2
  exact neutral_no base g gs cap i l vs V s w h hs h0 h1 h2 h3 h4 h5 h6 h7 h8 h9 h10 h11 h12
end Go.Proofs.Ytniefnjcimempaa
