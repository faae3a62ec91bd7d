/- The walk of optimize's rule negate at any step (printed by gen_ozn.py). -/
import Derived.Test.YtniefnjcimempaarRz2
namespace Go.Proofs.Ytniefnjcimempaa
open Go.RowKit
set_option maxRecDepth 100000 in
set_option maxHeartbeats 8000000 in
theorem negate_0 (base g gs gu cap i j : Nat) (l : List St) (vs : List Value) (s t : St) (w : World) (h : EdX w base g gs cap l vs (.slice (some ⟨gu, 0, none⟩) l.length l.length)) (hu : Blk w gu 3 (uarr (usesR l))) (hs : l[i]? = some s) (ht : l[j]? = some t) (hj : s.args[0]? = some (j : Int)) (hji : j < i) (ha : 0 < s.args.length) (hb : ∀ s ∈ l, s.args.length ≤ 3 ∧ ∀ a ∈ s.args, 0 ≤ a ∧ a ≤ 100000) (hop : s.op = Oz.oNot) (hone : (usesR l).getD j 0 = 1) (a b : Int) (ht0 : t.op = Oz.oEq) (ht2 : t.args[0]? = some a) (ht3 : t.args[1]? = some b) :
    Calls Try.prog 59 #[.pointer (some ⟨g, 0, none⟩), .int .i64 i] w (RepEnd base g gs cap l vs (.slice (some ⟨gu, 0, none⟩) l.length l.length) (Oz.negateR l i) w) := by
  have hil := (List.getElem?_eq_some_iff.1 hs).1
  have hjl := (List.getElem?_eq_some_iff.1 ht).1
  have hcap := h.cap
  have hbase := h.base_le
  have x0 := h.ed.cell 0
  have x1 := h.ed.cell 1
  simp only [List.getElem?_toArray, List.getElem?_cons_zero, List.getElem?_cons_succ] at x0 x1
  obtain ⟨v, hv, ⟨y0, y1, y2, y3, y4⟩, ho⟩ := h.at_ hs
  obtain ⟨A, c, rfl⟩ := own_form ho
  obtain ⟨v2, hv2, ⟨z0, z1, z2, z3, z4⟩, ho2⟩ := h.at_ ht
  obtain ⟨A2, c2, rfl⟩ := own_form ho2
  have hul : (usesR l).length = l.length := usesK_len l _
  have y6 : w.cell? ⟨gu, j, none⟩ = some (.int .i64 ((usesR l).getD j 0)) := by rw [hu.cell]; exact uarr_get (by omega)
  obtain ⟨q, c', hvq, _, hbq, hql, hc⟩ := own_at ho (by omega)
  injection hvq with hA hkk hcc
  clear hkk
  subst hA hcc
  have a0 : w.cell? ⟨q, 0, none⟩ = some (.int .i64 j) := hc 0 _ (by rw [List.getElem?_map, hj]; rfl)
  obtain ⟨R, hR⟩ : ∃ R, R = Oz.negateR l i := ⟨_, rfl⟩
  rw [← hR]
  unfold Oz.negateR at hR
  have haj : Oz.arg s 0 = (j : Int) := by unfold Oz.arg; rw [List.getD_eq_getElem?_getD, hj]; rfl
  rw [at_get hs] at hR
  dsimp only at hR
  rw [haj, Int.toNat_natCast, at_get ht] at hR
  obtain ⟨u, hue⟩ : ∃ u, u = (usesR l).getD j 0 := ⟨_, rfl⟩
  rw [← hue] at y6 hR
  obtain ⟨n, hn⟩ : ∃ n, n = l.length := ⟨_, rfl⟩
  rw [← hn] at hil hjl hcap x0 x1
  have HH := Lib.hid h
  have HN := Lib.hid hn
  have HBB := Lib.hid hb
  have q0 : (i : Int) < (n : Int) := by omega
  have q1 : (0 : Int) ≤ (i : Int) := by omega
  have q2 : (j : Int) < (n : Int) := by omega
  have q3 : (0 : Int) ≤ (j : Int) := by omega
  have q4 : j < n := by omega
  have q5 : i < n := by omega
  have hgl := h.ed.lt
  have hgsl := h.gs_lt
  have hgul := hu.lt
  obtain ⟨k, hk⟩ : ∃ k, k = s.args.length := ⟨_, rfl⟩
  have p0 : (0 : Int) < (k : Int) := by omega
  have p2 : 0 < k := by omega
  rw [← hk] at y1
  obtain ⟨k2, hk2⟩ : ∃ k2, k2 = t.args.length := ⟨_, rfl⟩
  have HK2 := Lib.hid hk2
  rw [← hk2] at z1
  have ea : Oz.arg t 0 = a := by unfold Oz.arg; rw [List.getD_eq_getElem?_getD, ht2]; rfl
  have eb : Oz.arg t 1 = b := by unfold Oz.arg; rw [List.getD_eq_getElem?_getD, ht3]; rfl
  have hk3 : 2 ≤ k2 := by have := (List.getElem?_eq_some_iff.1 ht3).1; omega
  have p3 : (0 : Int) < (k2 : Int) := by omega
  have p4 : (1 : Int) < (k2 : Int) := by omega
  have p5 : 0 < k2 := by omega
  have p6 : 1 < k2 := by omega
  obtain ⟨r, c3, hvr, _, hbr, hrl, hcr⟩ := own_at ho2 (by omega)
  injection hvr with hA hkk hcc
  clear hkk
  subst hA hcc
  have b0 : w.cell? ⟨r, 0, none⟩ = some (.int .i64 a) := hcr 0 _ (by rw [List.getElem?_map, ht2]; rfl)
  have b1 : w.cell? ⟨r, 1, none⟩ = some (.int .i64 b) := hcr 1 _ (by rw [List.getElem?_map, ht3]; rfl)
  clear hcr
  have hone' : u = 1 := hue.trans hone
  rw [hop, hone'] at hR
  rw [ht0] at z0
  rw [hop] at y0
  rw [hone'] at y6
  unfold Oz.oEq at z0
  unfold Oz.oNot at y0
  rw [ea, eb, ht0] at hR
  have HRN : Hid (R = some (Oz.removeR (l.set i (Oz.mk Oz.oNe [a, b] 0 [] 2)) j)) := Lib.hid (by rw [hR, if_neg (by simp)]; rfl)
  have HI : Hid (i < l.length) := Lib.hid (by omega)
  have HJ : Hid (j + 1 < l.length) := Lib.hid (by omega)
  have HMB : Hid (∀ s ∈ l.set i (Oz.mk Oz.oNe [a, b] 0 [] 2), s.args.length ≤ 3 ∧ ∀ a ∈ s.args, 0 ≤ a ∧ a ≤ 100000) := Lib.hid (fun s' hs' => by
    rcases List.mem_or_eq_of_mem_set hs' with h1 | rfl
    · exact hb s' h1
    · refine ⟨by show 2 ≤ 3; decide, fun x hx => ?_⟩
      have h2 := (hb t (List.mem_of_getElem? ht)).2
      have h3 := h2 a (List.mem_of_getElem? ht2)
      have h4 := h2 b (List.mem_of_getElem? ht3)
      simp only [Oz.mk, List.mem_cons, List.not_mem_nil, or_false] at hx
      rcases hx with rfl | rfl <;> assumption)
  clear h hs ht hb hv ho hv2 ho2 hue hn hj haj hc hk hk2 hop hone hone' ha ht2 ht3 hR ea eb ht0 hul hu
  go_enter Try.func59, Try.ntmps59
  go_wp2_with fail
  obtain ⟨w1, hw1⟩ : ∃ w1, w1 = w.alloc (.cells #[.string ⟨#[33, 61]⟩, .slice none 0 0, .int .i64 0, .string ⟨#[]⟩, .int .i64 2] 25) := ⟨_, rfl⟩
  rw [← hw1]
  have hb1 : Below w.heap.size w w1 := by rw [hw1]; exact below_alloc _ _
  have hblk : Blk w1 w.heap.size 25 #[.string ⟨#[33, 61]⟩, .slice none 0 0, .int .i64 0, .string ⟨#[]⟩, .int .i64 2] := by rw [hw1]; exact Blk.new _ _ _
  have t1 := hblk.cell 1
  simp only [List.getElem?_toArray, List.getElem?_cons_zero, List.getElem?_cons_succ] at t1
  have t2 := hblk.frozen 1
  have e0 := (hb1.cell (p := ⟨r, 0, none⟩) hrl).trans b0
  have e1 := (hb1.cell (p := ⟨r, 1, none⟩) hrl).trans b1
  have hg1 := hblk.lt
  have hg2 : r < w1.heap.size := by omega
  have hne : ¬ (r = w.heap.size) := by omega
  have hne' : ¬ (w.heap.size = r) := by omega
  have HB1 := Lib.hid hb1
  have HBK := Lib.hid hblk
  have HX0 := Lib.hid x0
  have HY : Hid (w.cell? ⟨gs, i * 5, none⟩ = some (.string ⟨#[110, 111, 116]⟩) ∧ w.cell? ⟨gs, i * 5 + 1, none⟩ = some (.slice (some ⟨q, 0, none⟩) k c) ∧ w.cell? ⟨gs, i * 5 + 2, none⟩ = some (.int .i64 s.num) ∧ w.cell? ⟨gs, i * 5 + 3, none⟩ = some (.string ⟨s.text.toArray⟩) ∧ w.cell? ⟨gs, i * 5 + 4, none⟩ = some (.int .i64 s.ty)) := Lib.hid ⟨y0, y1, y2, y3, y4⟩
  clear hw1 hb1 hblk x0 x1 y0 y1 y2 y3 y4 y6 z0 z1 z2 z3 z4 a0 b0 b1
  have ho2 : ((w1.setCell ⟨w.heap.size, 1, none⟩ (.slice (some ⟨w1.heap.size, 0, none⟩) 2 2)).alloc (.cells #[.int .i64 a, .int .i64 b] 3)).drew.ownsRow w.heap.size 3 1 (.slice (some ⟨w1.heap.size, 0, none⟩) 2 2) 2 [.int .i64 a, .int .i64 b] := by
    have h := own_new (w1.setCell ⟨w.heap.size, 1, none⟩ (.slice (some ⟨w1.heap.size, 0, none⟩) 2 2)) [a, b] (by show 2 ≤ 100; decide)
    have hz : (w1.setCell ⟨w.heap.size, 1, none⟩ (.slice (some ⟨w1.heap.size, 0, none⟩) 2 2)).heap.size = w1.heap.size := by simp
    rw [hz] at h
    exact (h.mono HB1.out.size).drew
  have hb2 : Below w.heap.size w ((w1.setCell ⟨w.heap.size, 1, none⟩ (.slice (some ⟨w1.heap.size, 0, none⟩) 2 2)).alloc (.cells #[.int .i64 a, .int .i64 b] 3)).drew := ((HB1.out.setCell (p := ⟨w.heap.size, 1, none⟩) (Nat.le_refl _) _).alloc (by have := HB1.out.size; simpa using this) _).drew
  have hbk2 := ((HBK.out.set_ 1 (.slice (some ⟨w1.heap.size, 0, none⟩) 2 2)).alloc (.cells #[.int .i64 a, .int .i64 b] 3)).drew
  have HO2 := Lib.hid ho2
  have HB2 := Lib.hid hb2
  have HBK2 := Lib.hid hbk2
  clear ho2 hb2 hbk2
  go_region
  obtain ⟨w2, hw2⟩ : ∃ w2, w2 = ((w1.setCell ⟨w.heap.size, 1, none⟩ (.slice (some ⟨w1.heap.size, 0, none⟩) 2 2)).alloc (.cells #[.int .i64 a, .int .i64 b] 3)).drew := ⟨_, rfl⟩
  rw [← hw2] at HO2 HB2 HBK2 ⊢
  have c0 := (HB2.out.cell (p := ⟨g, 0, none⟩) hgl).trans HX0.out
  have hc2 := fun m => HB2.out.cell (p := ⟨gs, m, none⟩) hgsl
  have d0 := (hc2 _).trans HY.out.1
  have d1 := (hc2 _).trans HY.out.2.1
  have d2 := (hc2 _).trans HY.out.2.2.1
  have d3 := (hc2 _).trans HY.out.2.2.2.1
  have d4 := (hc2 _).trans HY.out.2.2.2.2
  have m0 := HBK2.out.cell 0
  have m1 := HBK2.out.cell 1
  have m2 := HBK2.out.cell 2
  have m3 := HBK2.out.cell 3
  have m4 := HBK2.out.cell 4
  simp only [List.setIfInBounds_toArray, List.set_cons_zero, List.set_cons_succ, List.getElem?_toArray, List.getElem?_cons_zero, List.getElem?_cons_succ] at m0 m1 m2 m3 m4
  obtain ⟨f0, f1, f2, f3, f4⟩ : w2.frozen? ⟨gs, i * 5, none⟩ = false ∧ w2.frozen? ⟨gs, i * 5 + 1, none⟩ = false ∧ w2.frozen? ⟨gs, i * 5 + 2, none⟩ = false ∧ w2.frozen? ⟨gs, i * 5 + 3, none⟩ = false ∧ w2.frozen? ⟨gs, i * 5 + 4, none⟩ = false := by
    obtain ⟨cs, e1, _⟩ := (HH.out.below HB2.out).blk
    exact ⟨e1.frozen _, e1.frozen _, e1.frozen _, e1.frozen _, e1.frozen _⟩
  have hp := HH.out.putFresh HB2.out HI.out (Oz.mk Oz.oNe [a, b] 0 [] 2) _ HO2.out
  have HP := Lib.hid hp.1
  have HF := Lib.hid hp.2
  clear hp hc2 hw2 e0 e1 t1 t2
  go_wp2_with fail
  go_region
  have HRM := Lib.hid (remove_any base g gs cap j _ _ _ _ (HP.out.below (Below.refl _ _).drew) (by rw [List.length_set]; exact HJ.out) HMB.out)
  have HF3 := Lib.hid (HF.out.below (Below.refl _ _).drew HP.out.base_le)
  clear HP HF d0 d1 d2 d3 d4 m0 m1 m2 m3 m4 f0 f1 f2 f3 f4 c0
  go_wp2_with fail
  refine HRM.out.mono ?_
  rintro e w3 ⟨rfl, he3, hf3⟩
  have HE3 := Lib.hid he3
  have HF4 := Lib.hid (HF3.out.trans hf3)
  clear he3 hf3 HRM
  go_wp2_with fail
  go_ret
  unfold RepEnd
  rw [HRN.out]
  exact ⟨rfl, ⟨_, HE3.out⟩, HF4.out⟩
set_option maxRecDepth 100000 in
set_option maxHeartbeats 8000000 in
theorem negate_1 (base g gs gu cap i j : Nat) (l : List St) (vs : List Value) (s t : St) (w : World) (h : EdX w base g gs cap l vs (.slice (some ⟨gu, 0, none⟩) l.length l.length)) (hu : Blk w gu 3 (uarr (usesR l))) (hs : l[i]? = some s) (ht : l[j]? = some t) (hj : s.args[0]? = some (j : Int)) (hji : j < i) (ha : 0 < s.args.length) (hb : ∀ s ∈ l, s.args.length ≤ 3 ∧ ∀ a ∈ s.args, 0 ≤ a ∧ a ≤ 100000) (hop : s.op = Oz.oNot) (hone : (usesR l).getD j 0 = 1) (a b : Int) (ht0 : t.op = Oz.oNe) (ht2 : t.args[0]? = some a) (ht3 : t.args[1]? = some b) :
    Calls Try.prog 59 #[.pointer (some ⟨g, 0, none⟩), .int .i64 i] w (RepEnd base g gs cap l vs (.slice (some ⟨gu, 0, none⟩) l.length l.length) (Oz.negateR l i) w) := by
  have hil := (List.getElem?_eq_some_iff.1 hs).1
  have hjl := (List.getElem?_eq_some_iff.1 ht).1
  have hcap := h.cap
  have hbase := h.base_le
  have x0 := h.ed.cell 0
  have x1 := h.ed.cell 1
  simp only [List.getElem?_toArray, List.getElem?_cons_zero, List.getElem?_cons_succ] at x0 x1
  obtain ⟨v, hv, ⟨y0, y1, y2, y3, y4⟩, ho⟩ := h.at_ hs
  obtain ⟨A, c, rfl⟩ := own_form ho
  obtain ⟨v2, hv2, ⟨z0, z1, z2, z3, z4⟩, ho2⟩ := h.at_ ht
  obtain ⟨A2, c2, rfl⟩ := own_form ho2
  have hul : (usesR l).length = l.length := usesK_len l _
  have y6 : w.cell? ⟨gu, j, none⟩ = some (.int .i64 ((usesR l).getD j 0)) := by rw [hu.cell]; exact uarr_get (by omega)
  obtain ⟨q, c', hvq, _, hbq, hql, hc⟩ := own_at ho (by omega)
  injection hvq with hA hkk hcc
  clear hkk
  subst hA hcc
  have a0 : w.cell? ⟨q, 0, none⟩ = some (.int .i64 j) := hc 0 _ (by rw [List.getElem?_map, hj]; rfl)
  obtain ⟨R, hR⟩ : ∃ R, R = Oz.negateR l i := ⟨_, rfl⟩
  rw [← hR]
  unfold Oz.negateR at hR
  have haj : Oz.arg s 0 = (j : Int) := by unfold Oz.arg; rw [List.getD_eq_getElem?_getD, hj]; rfl
  rw [at_get hs] at hR
  dsimp only at hR
  rw [haj, Int.toNat_natCast, at_get ht] at hR
  obtain ⟨u, hue⟩ : ∃ u, u = (usesR l).getD j 0 := ⟨_, rfl⟩
  rw [← hue] at y6 hR
  obtain ⟨n, hn⟩ : ∃ n, n = l.length := ⟨_, rfl⟩
  rw [← hn] at hil hjl hcap x0 x1
  have HH := Lib.hid h
  have HN := Lib.hid hn
  have HBB := Lib.hid hb
  have q0 : (i : Int) < (n : Int) := by omega
  have q1 : (0 : Int) ≤ (i : Int) := by omega
  have q2 : (j : Int) < (n : Int) := by omega
  have q3 : (0 : Int) ≤ (j : Int) := by omega
  have q4 : j < n := by omega
  have q5 : i < n := by omega
  have hgl := h.ed.lt
  have hgsl := h.gs_lt
  have hgul := hu.lt
  obtain ⟨k, hk⟩ : ∃ k, k = s.args.length := ⟨_, rfl⟩
  have p0 : (0 : Int) < (k : Int) := by omega
  have p2 : 0 < k := by omega
  rw [← hk] at y1
  obtain ⟨k2, hk2⟩ : ∃ k2, k2 = t.args.length := ⟨_, rfl⟩
  have HK2 := Lib.hid hk2
  rw [← hk2] at z1
  have ea : Oz.arg t 0 = a := by unfold Oz.arg; rw [List.getD_eq_getElem?_getD, ht2]; rfl
  have eb : Oz.arg t 1 = b := by unfold Oz.arg; rw [List.getD_eq_getElem?_getD, ht3]; rfl
  have hk3 : 2 ≤ k2 := by have := (List.getElem?_eq_some_iff.1 ht3).1; omega
  have p3 : (0 : Int) < (k2 : Int) := by omega
  have p4 : (1 : Int) < (k2 : Int) := by omega
  have p5 : 0 < k2 := by omega
  have p6 : 1 < k2 := by omega
  obtain ⟨r, c3, hvr, _, hbr, hrl, hcr⟩ := own_at ho2 (by omega)
  injection hvr with hA hkk hcc
  clear hkk
  subst hA hcc
  have b0 : w.cell? ⟨r, 0, none⟩ = some (.int .i64 a) := hcr 0 _ (by rw [List.getElem?_map, ht2]; rfl)
  have b1 : w.cell? ⟨r, 1, none⟩ = some (.int .i64 b) := hcr 1 _ (by rw [List.getElem?_map, ht3]; rfl)
  clear hcr
  have hone' : u = 1 := hue.trans hone
  rw [hop, hone'] at hR
  rw [ht0] at z0
  rw [hop] at y0
  rw [hone'] at y6
  unfold Oz.oNe at z0
  unfold Oz.oNot at y0
  rw [ea, eb, ht0] at hR
  have HRN : Hid (R = some (Oz.removeR (l.set i (Oz.mk Oz.oEq [a, b] 0 [] 2)) j)) := Lib.hid (by rw [hR, if_neg (by simp)]; rfl)
  have HI : Hid (i < l.length) := Lib.hid (by omega)
  have HJ : Hid (j + 1 < l.length) := Lib.hid (by omega)
  have HMB : Hid (∀ s ∈ l.set i (Oz.mk Oz.oEq [a, b] 0 [] 2), s.args.length ≤ 3 ∧ ∀ a ∈ s.args, 0 ≤ a ∧ a ≤ 100000) := Lib.hid (fun s' hs' => by
    rcases List.mem_or_eq_of_mem_set hs' with h1 | rfl
    · exact hb s' h1
    · refine ⟨by show 2 ≤ 3; decide, fun x hx => ?_⟩
      have h2 := (hb t (List.mem_of_getElem? ht)).2
      have h3 := h2 a (List.mem_of_getElem? ht2)
      have h4 := h2 b (List.mem_of_getElem? ht3)
      simp only [Oz.mk, List.mem_cons, List.not_mem_nil, or_false] at hx
      rcases hx with rfl | rfl <;> assumption)
  clear h hs ht hb hv ho hv2 ho2 hue hn hj haj hc hk hk2 hop hone hone' ha ht2 ht3 hR ea eb ht0 hul hu
  go_enter Try.func59, Try.ntmps59
  go_wp2_with fail
  obtain ⟨w1, hw1⟩ : ∃ w1, w1 = w.alloc (.cells #[.string ⟨#[61, 61]⟩, .slice none 0 0, .int .i64 0, .string ⟨#[]⟩, .int .i64 2] 25) := ⟨_, rfl⟩
  rw [← hw1]
  have hb1 : Below w.heap.size w w1 := by rw [hw1]; exact below_alloc _ _
  have hblk : Blk w1 w.heap.size 25 #[.string ⟨#[61, 61]⟩, .slice none 0 0, .int .i64 0, .string ⟨#[]⟩, .int .i64 2] := by rw [hw1]; exact Blk.new _ _ _
  have t1 := hblk.cell 1
  simp only [List.getElem?_toArray, List.getElem?_cons_zero, List.getElem?_cons_succ] at t1
  have t2 := hblk.frozen 1
  have e0 := (hb1.cell (p := ⟨r, 0, none⟩) hrl).trans b0
  have e1 := (hb1.cell (p := ⟨r, 1, none⟩) hrl).trans b1
  have hg1 := hblk.lt
  have hg2 : r < w1.heap.size := by omega
  have hne : ¬ (r = w.heap.size) := by omega
  have hne' : ¬ (w.heap.size = r) := by omega
  have HB1 := Lib.hid hb1
  have HBK := Lib.hid hblk
  have HX0 := Lib.hid x0
  have HY : Hid (w.cell? ⟨gs, i * 5, none⟩ = some (.string ⟨#[110, 111, 116]⟩) ∧ w.cell? ⟨gs, i * 5 + 1, none⟩ = some (.slice (some ⟨q, 0, none⟩) k c) ∧ w.cell? ⟨gs, i * 5 + 2, none⟩ = some (.int .i64 s.num) ∧ w.cell? ⟨gs, i * 5 + 3, none⟩ = some (.string ⟨s.text.toArray⟩) ∧ w.cell? ⟨gs, i * 5 + 4, none⟩ = some (.int .i64 s.ty)) := Lib.hid ⟨y0, y1, y2, y3, y4⟩
  clear hw1 hb1 hblk x0 x1 y0 y1 y2 y3 y4 y6 z0 z1 z2 z3 z4 a0 b0 b1
  have ho2 : ((w1.setCell ⟨w.heap.size, 1, none⟩ (.slice (some ⟨w1.heap.size, 0, none⟩) 2 2)).alloc (.cells #[.int .i64 a, .int .i64 b] 3)).drew.ownsRow w.heap.size 3 1 (.slice (some ⟨w1.heap.size, 0, none⟩) 2 2) 2 [.int .i64 a, .int .i64 b] := by
    have h := own_new (w1.setCell ⟨w.heap.size, 1, none⟩ (.slice (some ⟨w1.heap.size, 0, none⟩) 2 2)) [a, b] (by show 2 ≤ 100; decide)
    have hz : (w1.setCell ⟨w.heap.size, 1, none⟩ (.slice (some ⟨w1.heap.size, 0, none⟩) 2 2)).heap.size = w1.heap.size := by simp
    rw [hz] at h
    exact (h.mono HB1.out.size).drew
  have hb2 : Below w.heap.size w ((w1.setCell ⟨w.heap.size, 1, none⟩ (.slice (some ⟨w1.heap.size, 0, none⟩) 2 2)).alloc (.cells #[.int .i64 a, .int .i64 b] 3)).drew := ((HB1.out.setCell (p := ⟨w.heap.size, 1, none⟩) (Nat.le_refl _) _).alloc (by have := HB1.out.size; simpa using this) _).drew
  have hbk2 := ((HBK.out.set_ 1 (.slice (some ⟨w1.heap.size, 0, none⟩) 2 2)).alloc (.cells #[.int .i64 a, .int .i64 b] 3)).drew
  have HO2 := Lib.hid ho2
  have HB2 := Lib.hid hb2
  have HBK2 := Lib.hid hbk2
  clear ho2 hb2 hbk2
  go_region
  obtain ⟨w2, hw2⟩ : ∃ w2, w2 = ((w1.setCell ⟨w.heap.size, 1, none⟩ (.slice (some ⟨w1.heap.size, 0, none⟩) 2 2)).alloc (.cells #[.int .i64 a, .int .i64 b] 3)).drew := ⟨_, rfl⟩
  rw [← hw2] at HO2 HB2 HBK2 ⊢
  have c0 := (HB2.out.cell (p := ⟨g, 0, none⟩) hgl).trans HX0.out
  have hc2 := fun m => HB2.out.cell (p := ⟨gs, m, none⟩) hgsl
  have d0 := (hc2 _).trans HY.out.1
  have d1 := (hc2 _).trans HY.out.2.1
  have d2 := (hc2 _).trans HY.out.2.2.1
  have d3 := (hc2 _).trans HY.out.2.2.2.1
  have d4 := (hc2 _).trans HY.out.2.2.2.2
  have m0 := HBK2.out.cell 0
  have m1 := HBK2.out.cell 1
  have m2 := HBK2.out.cell 2
  have m3 := HBK2.out.cell 3
  have m4 := HBK2.out.cell 4
  simp only [List.setIfInBounds_toArray, List.set_cons_zero, List.set_cons_succ, List.getElem?_toArray, List.getElem?_cons_zero, List.getElem?_cons_succ] at m0 m1 m2 m3 m4
  obtain ⟨f0, f1, f2, f3, f4⟩ : w2.frozen? ⟨gs, i * 5, none⟩ = false ∧ w2.frozen? ⟨gs, i * 5 + 1, none⟩ = false ∧ w2.frozen? ⟨gs, i * 5 + 2, none⟩ = false ∧ w2.frozen? ⟨gs, i * 5 + 3, none⟩ = false ∧ w2.frozen? ⟨gs, i * 5 + 4, none⟩ = false := by
    obtain ⟨cs, e1, _⟩ := (HH.out.below HB2.out).blk
    exact ⟨e1.frozen _, e1.frozen _, e1.frozen _, e1.frozen _, e1.frozen _⟩
  have hp := HH.out.putFresh HB2.out HI.out (Oz.mk Oz.oEq [a, b] 0 [] 2) _ HO2.out
  have HP := Lib.hid hp.1
  have HF := Lib.hid hp.2
  clear hp hc2 hw2 e0 e1 t1 t2
  go_wp2_with fail
  go_region
  have HRM := Lib.hid (remove_any base g gs cap j _ _ _ _ (HP.out.below (Below.refl _ _).drew) (by rw [List.length_set]; exact HJ.out) HMB.out)
  have HF3 := Lib.hid (HF.out.below (Below.refl _ _).drew HP.out.base_le)
  clear HP HF d0 d1 d2 d3 d4 m0 m1 m2 m3 m4 f0 f1 f2 f3 f4 c0
  go_wp2_with fail
  refine HRM.out.mono ?_
  rintro e w3 ⟨rfl, he3, hf3⟩
  have HE3 := Lib.hid he3
  have HF4 := Lib.hid (HF3.out.trans hf3)
  clear he3 hf3 HRM
  go_wp2_with fail
  go_ret
  unfold RepEnd
  rw [HRN.out]
  exact ⟨rfl, ⟨_, HE3.out⟩, HF4.out⟩
set_option maxRecDepth 100000 in
set_option maxHeartbeats 8000000 in
theorem negate_2 (base g gs gu cap i j : Nat) (l : List St) (vs : List Value) (s t : St) (w : World) (h : EdX w base g gs cap l vs (.slice (some ⟨gu, 0, none⟩) l.length l.length)) (hu : Blk w gu 3 (uarr (usesR l))) (hs : l[i]? = some s) (ht : l[j]? = some t) (hj : s.args[0]? = some (j : Int)) (hji : j < i) (ha : 0 < s.args.length) (hb : ∀ s ∈ l, s.args.length ≤ 3 ∧ ∀ a ∈ s.args, 0 ≤ a ∧ a ≤ 100000) (hop : s.op = Oz.oNot) (hone : (usesR l).getD j 0 = 1) (a b : Int) (ht0 : t.op = Oz.oLt) (ht2 : t.args[0]? = some a) (ht3 : t.args[1]? = some b) :
    Calls Try.prog 59 #[.pointer (some ⟨g, 0, none⟩), .int .i64 i] w (RepEnd base g gs cap l vs (.slice (some ⟨gu, 0, none⟩) l.length l.length) (Oz.negateR l i) w) := by
  have hil := (List.getElem?_eq_some_iff.1 hs).1
  have hjl := (List.getElem?_eq_some_iff.1 ht).1
  have hcap := h.cap
  have hbase := h.base_le
  have x0 := h.ed.cell 0
  have x1 := h.ed.cell 1
  simp only [List.getElem?_toArray, List.getElem?_cons_zero, List.getElem?_cons_succ] at x0 x1
  obtain ⟨v, hv, ⟨y0, y1, y2, y3, y4⟩, ho⟩ := h.at_ hs
  obtain ⟨A, c, rfl⟩ := own_form ho
  obtain ⟨v2, hv2, ⟨z0, z1, z2, z3, z4⟩, ho2⟩ := h.at_ ht
  obtain ⟨A2, c2, rfl⟩ := own_form ho2
  have hul : (usesR l).length = l.length := usesK_len l _
  have y6 : w.cell? ⟨gu, j, none⟩ = some (.int .i64 ((usesR l).getD j 0)) := by rw [hu.cell]; exact uarr_get (by omega)
  obtain ⟨q, c', hvq, _, hbq, hql, hc⟩ := own_at ho (by omega)
  injection hvq with hA hkk hcc
  clear hkk
  subst hA hcc
  have a0 : w.cell? ⟨q, 0, none⟩ = some (.int .i64 j) := hc 0 _ (by rw [List.getElem?_map, hj]; rfl)
  obtain ⟨R, hR⟩ : ∃ R, R = Oz.negateR l i := ⟨_, rfl⟩
  rw [← hR]
  unfold Oz.negateR at hR
  have haj : Oz.arg s 0 = (j : Int) := by unfold Oz.arg; rw [List.getD_eq_getElem?_getD, hj]; rfl
  rw [at_get hs] at hR
  dsimp only at hR
  rw [haj, Int.toNat_natCast, at_get ht] at hR
  obtain ⟨u, hue⟩ : ∃ u, u = (usesR l).getD j 0 := ⟨_, rfl⟩
  rw [← hue] at y6 hR
  obtain ⟨n, hn⟩ : ∃ n, n = l.length := ⟨_, rfl⟩
  rw [← hn] at hil hjl hcap x0 x1
  have HH := Lib.hid h
  have HN := Lib.hid hn
  have HBB := Lib.hid hb
  have q0 : (i : Int) < (n : Int) := by omega
  have q1 : (0 : Int) ≤ (i : Int) := by omega
  have q2 : (j : Int) < (n : Int) := by omega
  have q3 : (0 : Int) ≤ (j : Int) := by omega
  have q4 : j < n := by omega
  have q5 : i < n := by omega
  have hgl := h.ed.lt
  have hgsl := h.gs_lt
  have hgul := hu.lt
  obtain ⟨k, hk⟩ : ∃ k, k = s.args.length := ⟨_, rfl⟩
  have p0 : (0 : Int) < (k : Int) := by omega
  have p2 : 0 < k := by omega
  rw [← hk] at y1
  obtain ⟨k2, hk2⟩ : ∃ k2, k2 = t.args.length := ⟨_, rfl⟩
  have HK2 := Lib.hid hk2
  rw [← hk2] at z1
  have ea : Oz.arg t 0 = a := by unfold Oz.arg; rw [List.getD_eq_getElem?_getD, ht2]; rfl
  have eb : Oz.arg t 1 = b := by unfold Oz.arg; rw [List.getD_eq_getElem?_getD, ht3]; rfl
  have hk3 : 2 ≤ k2 := by have := (List.getElem?_eq_some_iff.1 ht3).1; omega
  have p3 : (0 : Int) < (k2 : Int) := by omega
  have p4 : (1 : Int) < (k2 : Int) := by omega
  have p5 : 0 < k2 := by omega
  have p6 : 1 < k2 := by omega
  obtain ⟨r, c3, hvr, _, hbr, hrl, hcr⟩ := own_at ho2 (by omega)
  injection hvr with hA hkk hcc
  clear hkk
  subst hA hcc
  have b0 : w.cell? ⟨r, 0, none⟩ = some (.int .i64 a) := hcr 0 _ (by rw [List.getElem?_map, ht2]; rfl)
  have b1 : w.cell? ⟨r, 1, none⟩ = some (.int .i64 b) := hcr 1 _ (by rw [List.getElem?_map, ht3]; rfl)
  clear hcr
  have hone' : u = 1 := hue.trans hone
  rw [hop, hone'] at hR
  rw [ht0] at z0
  rw [hop] at y0
  rw [hone'] at y6
  unfold Oz.oLt at z0
  unfold Oz.oNot at y0
  rw [ea, eb, ht0] at hR
  have HRN : Hid (R = some (Oz.removeR (l.set i (Oz.mk Oz.oLe [b, a] 0 [] 2)) j)) := Lib.hid (by rw [hR, if_neg (by simp)]; rfl)
  have HI : Hid (i < l.length) := Lib.hid (by omega)
  have HJ : Hid (j + 1 < l.length) := Lib.hid (by omega)
  have HMB : Hid (∀ s ∈ l.set i (Oz.mk Oz.oLe [b, a] 0 [] 2), s.args.length ≤ 3 ∧ ∀ a ∈ s.args, 0 ≤ a ∧ a ≤ 100000) := Lib.hid (fun s' hs' => by
    rcases List.mem_or_eq_of_mem_set hs' with h1 | rfl
    · exact hb s' h1
    · refine ⟨by show 2 ≤ 3; decide, fun x hx => ?_⟩
      have h2 := (hb t (List.mem_of_getElem? ht)).2
      have h3 := h2 a (List.mem_of_getElem? ht2)
      have h4 := h2 b (List.mem_of_getElem? ht3)
      simp only [Oz.mk, List.mem_cons, List.not_mem_nil, or_false] at hx
      rcases hx with rfl | rfl <;> assumption)
  clear h hs ht hb hv ho hv2 ho2 hue hn hj haj hc hk hk2 hop hone hone' ha ht2 ht3 hR ea eb ht0 hul hu
  go_enter Try.func59, Try.ntmps59
  go_wp2_with fail
  obtain ⟨w1, hw1⟩ : ∃ w1, w1 = w.alloc (.cells #[.string ⟨#[60, 61]⟩, .slice none 0 0, .int .i64 0, .string ⟨#[]⟩, .int .i64 2] 25) := ⟨_, rfl⟩
  rw [← hw1]
  have hb1 : Below w.heap.size w w1 := by rw [hw1]; exact below_alloc _ _
  have hblk : Blk w1 w.heap.size 25 #[.string ⟨#[60, 61]⟩, .slice none 0 0, .int .i64 0, .string ⟨#[]⟩, .int .i64 2] := by rw [hw1]; exact Blk.new _ _ _
  have t1 := hblk.cell 1
  simp only [List.getElem?_toArray, List.getElem?_cons_zero, List.getElem?_cons_succ] at t1
  have t2 := hblk.frozen 1
  have e0 := (hb1.cell (p := ⟨r, 0, none⟩) hrl).trans b0
  have e1 := (hb1.cell (p := ⟨r, 1, none⟩) hrl).trans b1
  have hg1 := hblk.lt
  have hg2 : r < w1.heap.size := by omega
  have hne : ¬ (r = w.heap.size) := by omega
  have hne' : ¬ (w.heap.size = r) := by omega
  have HB1 := Lib.hid hb1
  have HBK := Lib.hid hblk
  have HX0 := Lib.hid x0
  have HY : Hid (w.cell? ⟨gs, i * 5, none⟩ = some (.string ⟨#[110, 111, 116]⟩) ∧ w.cell? ⟨gs, i * 5 + 1, none⟩ = some (.slice (some ⟨q, 0, none⟩) k c) ∧ w.cell? ⟨gs, i * 5 + 2, none⟩ = some (.int .i64 s.num) ∧ w.cell? ⟨gs, i * 5 + 3, none⟩ = some (.string ⟨s.text.toArray⟩) ∧ w.cell? ⟨gs, i * 5 + 4, none⟩ = some (.int .i64 s.ty)) := Lib.hid ⟨y0, y1, y2, y3, y4⟩
  clear hw1 hb1 hblk x0 x1 y0 y1 y2 y3 y4 y6 z0 z1 z2 z3 z4 a0 b0 b1
  have ho2 : ((w1.setCell ⟨w.heap.size, 1, none⟩ (.slice (some ⟨w1.heap.size, 0, none⟩) 2 2)).alloc (.cells #[.int .i64 b, .int .i64 a] 3)).drew.ownsRow w.heap.size 3 1 (.slice (some ⟨w1.heap.size, 0, none⟩) 2 2) 2 [.int .i64 b, .int .i64 a] := by
    have h := own_new (w1.setCell ⟨w.heap.size, 1, none⟩ (.slice (some ⟨w1.heap.size, 0, none⟩) 2 2)) [b, a] (by show 2 ≤ 100; decide)
    have hz : (w1.setCell ⟨w.heap.size, 1, none⟩ (.slice (some ⟨w1.heap.size, 0, none⟩) 2 2)).heap.size = w1.heap.size := by simp
    rw [hz] at h
    exact (h.mono HB1.out.size).drew
  have hb2 : Below w.heap.size w ((w1.setCell ⟨w.heap.size, 1, none⟩ (.slice (some ⟨w1.heap.size, 0, none⟩) 2 2)).alloc (.cells #[.int .i64 b, .int .i64 a] 3)).drew := ((HB1.out.setCell (p := ⟨w.heap.size, 1, none⟩) (Nat.le_refl _) _).alloc (by have := HB1.out.size; simpa using this) _).drew
  have hbk2 := ((HBK.out.set_ 1 (.slice (some ⟨w1.heap.size, 0, none⟩) 2 2)).alloc (.cells #[.int .i64 b, .int .i64 a] 3)).drew
  have HO2 := Lib.hid ho2
  have HB2 := Lib.hid hb2
  have HBK2 := Lib.hid hbk2
  clear ho2 hb2 hbk2
  go_region
  obtain ⟨w2, hw2⟩ : ∃ w2, w2 = ((w1.setCell ⟨w.heap.size, 1, none⟩ (.slice (some ⟨w1.heap.size, 0, none⟩) 2 2)).alloc (.cells #[.int .i64 b, .int .i64 a] 3)).drew := ⟨_, rfl⟩
  rw [← hw2] at HO2 HB2 HBK2 ⊢
  have c0 := (HB2.out.cell (p := ⟨g, 0, none⟩) hgl).trans HX0.out
  have hc2 := fun m => HB2.out.cell (p := ⟨gs, m, none⟩) hgsl
  have d0 := (hc2 _).trans HY.out.1
  have d1 := (hc2 _).trans HY.out.2.1
  have d2 := (hc2 _).trans HY.out.2.2.1
  have d3 := (hc2 _).trans HY.out.2.2.2.1
  have d4 := (hc2 _).trans HY.out.2.2.2.2
  have m0 := HBK2.out.cell 0
  have m1 := HBK2.out.cell 1
  have m2 := HBK2.out.cell 2
  have m3 := HBK2.out.cell 3
  have m4 := HBK2.out.cell 4
  simp only [List.setIfInBounds_toArray, List.set_cons_zero, List.set_cons_succ, List.getElem?_toArray, List.getElem?_cons_zero, List.getElem?_cons_succ] at m0 m1 m2 m3 m4
  obtain ⟨f0, f1, f2, f3, f4⟩ : w2.frozen? ⟨gs, i * 5, none⟩ = false ∧ w2.frozen? ⟨gs, i * 5 + 1, none⟩ = false ∧ w2.frozen? ⟨gs, i * 5 + 2, none⟩ = false ∧ w2.frozen? ⟨gs, i * 5 + 3, none⟩ = false ∧ w2.frozen? ⟨gs, i * 5 + 4, none⟩ = false := by
    obtain ⟨cs, e1, _⟩ := (HH.out.below HB2.out).blk
    exact ⟨e1.frozen _, e1.frozen _, e1.frozen _, e1.frozen _, e1.frozen _⟩
  have hp := HH.out.putFresh HB2.out HI.out (Oz.mk Oz.oLe [b, a] 0 [] 2) _ HO2.out
  have HP := Lib.hid hp.1
  have HF := Lib.hid hp.2
  clear hp hc2 hw2 e0 e1 t1 t2
  go_wp2_with fail
  go_region
  have HRM := Lib.hid (remove_any base g gs cap j _ _ _ _ (HP.out.below (Below.refl _ _).drew) (by rw [List.length_set]; exact HJ.out) HMB.out)
  have HF3 := Lib.hid (HF.out.below (Below.refl _ _).drew HP.out.base_le)
  clear HP HF d0 d1 d2 d3 d4 m0 m1 m2 m3 m4 f0 f1 f2 f3 f4 c0
  go_wp2_with fail
  refine HRM.out.mono ?_
  rintro e w3 ⟨rfl, he3, hf3⟩
  have HE3 := Lib.hid he3
  have HF4 := Lib.hid (HF3.out.trans hf3)
  clear he3 hf3 HRM
  go_wp2_with fail
  go_ret
  unfold RepEnd
  rw [HRN.out]
  exact ⟨rfl, ⟨_, HE3.out⟩, HF4.out⟩
set_option maxRecDepth 100000 in
set_option maxHeartbeats 8000000 in
theorem negate_3 (base g gs gu cap i j : Nat) (l : List St) (vs : List Value) (s t : St) (w : World) (h : EdX w base g gs cap l vs (.slice (some ⟨gu, 0, none⟩) l.length l.length)) (hu : Blk w gu 3 (uarr (usesR l))) (hs : l[i]? = some s) (ht : l[j]? = some t) (hj : s.args[0]? = some (j : Int)) (hji : j < i) (ha : 0 < s.args.length) (hb : ∀ s ∈ l, s.args.length ≤ 3 ∧ ∀ a ∈ s.args, 0 ≤ a ∧ a ≤ 100000) (hop : s.op = Oz.oNot) (hone : (usesR l).getD j 0 = 1) (a b : Int) (ht0 : t.op = Oz.oLe) (ht2 : t.args[0]? = some a) (ht3 : t.args[1]? = some b) :
    Calls Try.prog 59 #[.pointer (some ⟨g, 0, none⟩), .int .i64 i] w (RepEnd base g gs cap l vs (.slice (some ⟨gu, 0, none⟩) l.length l.length) (Oz.negateR l i) w) := by
  have hil := (List.getElem?_eq_some_iff.1 hs).1
  have hjl := (List.getElem?_eq_some_iff.1 ht).1
  have hcap := h.cap
  have hbase := h.base_le
  have x0 := h.ed.cell 0
  have x1 := h.ed.cell 1
  simp only [List.getElem?_toArray, List.getElem?_cons_zero, List.getElem?_cons_succ] at x0 x1
  obtain ⟨v, hv, ⟨y0, y1, y2, y3, y4⟩, ho⟩ := h.at_ hs
  obtain ⟨A, c, rfl⟩ := own_form ho
  obtain ⟨v2, hv2, ⟨z0, z1, z2, z3, z4⟩, ho2⟩ := h.at_ ht
  obtain ⟨A2, c2, rfl⟩ := own_form ho2
  have hul : (usesR l).length = l.length := usesK_len l _
  have y6 : w.cell? ⟨gu, j, none⟩ = some (.int .i64 ((usesR l).getD j 0)) := by rw [hu.cell]; exact uarr_get (by omega)
  obtain ⟨q, c', hvq, _, hbq, hql, hc⟩ := own_at ho (by omega)
  injection hvq with hA hkk hcc
  clear hkk
  subst hA hcc
  have a0 : w.cell? ⟨q, 0, none⟩ = some (.int .i64 j) := hc 0 _ (by rw [List.getElem?_map, hj]; rfl)
  obtain ⟨R, hR⟩ : ∃ R, R = Oz.negateR l i := ⟨_, rfl⟩
  rw [← hR]
  unfold Oz.negateR at hR
  have haj : Oz.arg s 0 = (j : Int) := by unfold Oz.arg; rw [List.getD_eq_getElem?_getD, hj]; rfl
  rw [at_get hs] at hR
  dsimp only at hR
  rw [haj, Int.toNat_natCast, at_get ht] at hR
  obtain ⟨u, hue⟩ : ∃ u, u = (usesR l).getD j 0 := ⟨_, rfl⟩
  rw [← hue] at y6 hR
  obtain ⟨n, hn⟩ : ∃ n, n = l.length := ⟨_, rfl⟩
  rw [← hn] at hil hjl hcap x0 x1
  have HH := Lib.hid h
  have HN := Lib.hid hn
  have HBB := Lib.hid hb
  have q0 : (i : Int) < (n : Int) := by omega
  have q1 : (0 : Int) ≤ (i : Int) := by omega
  have q2 : (j : Int) < (n : Int) := by omega
  have q3 : (0 : Int) ≤ (j : Int) := by omega
  have q4 : j < n := by omega
  have q5 : i < n := by omega
  have hgl := h.ed.lt
  have hgsl := h.gs_lt
  have hgul := hu.lt
  obtain ⟨k, hk⟩ : ∃ k, k = s.args.length := ⟨_, rfl⟩
  have p0 : (0 : Int) < (k : Int) := by omega
  have p2 : 0 < k := by omega
  rw [← hk] at y1
  obtain ⟨k2, hk2⟩ : ∃ k2, k2 = t.args.length := ⟨_, rfl⟩
  have HK2 := Lib.hid hk2
  rw [← hk2] at z1
  have ea : Oz.arg t 0 = a := by unfold Oz.arg; rw [List.getD_eq_getElem?_getD, ht2]; rfl
  have eb : Oz.arg t 1 = b := by unfold Oz.arg; rw [List.getD_eq_getElem?_getD, ht3]; rfl
  have hk3 : 2 ≤ k2 := by have := (List.getElem?_eq_some_iff.1 ht3).1; omega
  have p3 : (0 : Int) < (k2 : Int) := by omega
  have p4 : (1 : Int) < (k2 : Int) := by omega
  have p5 : 0 < k2 := by omega
  have p6 : 1 < k2 := by omega
  obtain ⟨r, c3, hvr, _, hbr, hrl, hcr⟩ := own_at ho2 (by omega)
  injection hvr with hA hkk hcc
  clear hkk
  subst hA hcc
  have b0 : w.cell? ⟨r, 0, none⟩ = some (.int .i64 a) := hcr 0 _ (by rw [List.getElem?_map, ht2]; rfl)
  have b1 : w.cell? ⟨r, 1, none⟩ = some (.int .i64 b) := hcr 1 _ (by rw [List.getElem?_map, ht3]; rfl)
  clear hcr
  have hone' : u = 1 := hue.trans hone
  rw [hop, hone'] at hR
  rw [ht0] at z0
  rw [hop] at y0
  rw [hone'] at y6
  unfold Oz.oLe at z0
  unfold Oz.oNot at y0
  rw [ea, eb, ht0] at hR
  have HRN : Hid (R = some (Oz.removeR (l.set i (Oz.mk Oz.oLt [b, a] 0 [] 2)) j)) := Lib.hid (by rw [hR, if_neg (by simp)]; rfl)
  have HI : Hid (i < l.length) := Lib.hid (by omega)
  have HJ : Hid (j + 1 < l.length) := Lib.hid (by omega)
  have HMB : Hid (∀ s ∈ l.set i (Oz.mk Oz.oLt [b, a] 0 [] 2), s.args.length ≤ 3 ∧ ∀ a ∈ s.args, 0 ≤ a ∧ a ≤ 100000) := Lib.hid (fun s' hs' => by
    rcases List.mem_or_eq_of_mem_set hs' with h1 | rfl
    · exact hb s' h1
    · refine ⟨by show 2 ≤ 3; decide, fun x hx => ?_⟩
      have h2 := (hb t (List.mem_of_getElem? ht)).2
      have h3 := h2 a (List.mem_of_getElem? ht2)
      have h4 := h2 b (List.mem_of_getElem? ht3)
      simp only [Oz.mk, List.mem_cons, List.not_mem_nil, or_false] at hx
      rcases hx with rfl | rfl <;> assumption)
  clear h hs ht hb hv ho hv2 ho2 hue hn hj haj hc hk hk2 hop hone hone' ha ht2 ht3 hR ea eb ht0 hul hu
  go_enter Try.func59, Try.ntmps59
  go_wp2_with fail
  obtain ⟨w1, hw1⟩ : ∃ w1, w1 = w.alloc (.cells #[.string ⟨#[60]⟩, .slice none 0 0, .int .i64 0, .string ⟨#[]⟩, .int .i64 2] 25) := ⟨_, rfl⟩
  rw [← hw1]
  have hb1 : Below w.heap.size w w1 := by rw [hw1]; exact below_alloc _ _
  have hblk : Blk w1 w.heap.size 25 #[.string ⟨#[60]⟩, .slice none 0 0, .int .i64 0, .string ⟨#[]⟩, .int .i64 2] := by rw [hw1]; exact Blk.new _ _ _
  have t1 := hblk.cell 1
  simp only [List.getElem?_toArray, List.getElem?_cons_zero, List.getElem?_cons_succ] at t1
  have t2 := hblk.frozen 1
  have e0 := (hb1.cell (p := ⟨r, 0, none⟩) hrl).trans b0
  have e1 := (hb1.cell (p := ⟨r, 1, none⟩) hrl).trans b1
  have hg1 := hblk.lt
  have hg2 : r < w1.heap.size := by omega
  have hne : ¬ (r = w.heap.size) := by omega
  have hne' : ¬ (w.heap.size = r) := by omega
  have HB1 := Lib.hid hb1
  have HBK := Lib.hid hblk
  have HX0 := Lib.hid x0
  have HY : Hid (w.cell? ⟨gs, i * 5, none⟩ = some (.string ⟨#[110, 111, 116]⟩) ∧ w.cell? ⟨gs, i * 5 + 1, none⟩ = some (.slice (some ⟨q, 0, none⟩) k c) ∧ w.cell? ⟨gs, i * 5 + 2, none⟩ = some (.int .i64 s.num) ∧ w.cell? ⟨gs, i * 5 + 3, none⟩ = some (.string ⟨s.text.toArray⟩) ∧ w.cell? ⟨gs, i * 5 + 4, none⟩ = some (.int .i64 s.ty)) := Lib.hid ⟨y0, y1, y2, y3, y4⟩
  clear hw1 hb1 hblk x0 x1 y0 y1 y2 y3 y4 y6 z0 z1 z2 z3 z4 a0 b0 b1
  have ho2 : ((w1.setCell ⟨w.heap.size, 1, none⟩ (.slice (some ⟨w1.heap.size, 0, none⟩) 2 2)).alloc (.cells #[.int .i64 b, .int .i64 a] 3)).drew.ownsRow w.heap.size 3 1 (.slice (some ⟨w1.heap.size, 0, none⟩) 2 2) 2 [.int .i64 b, .int .i64 a] := by
    have h := own_new (w1.setCell ⟨w.heap.size, 1, none⟩ (.slice (some ⟨w1.heap.size, 0, none⟩) 2 2)) [b, a] (by show 2 ≤ 100; decide)
    have hz : (w1.setCell ⟨w.heap.size, 1, none⟩ (.slice (some ⟨w1.heap.size, 0, none⟩) 2 2)).heap.size = w1.heap.size := by simp
    rw [hz] at h
    exact (h.mono HB1.out.size).drew
  have hb2 : Below w.heap.size w ((w1.setCell ⟨w.heap.size, 1, none⟩ (.slice (some ⟨w1.heap.size, 0, none⟩) 2 2)).alloc (.cells #[.int .i64 b, .int .i64 a] 3)).drew := ((HB1.out.setCell (p := ⟨w.heap.size, 1, none⟩) (Nat.le_refl _) _).alloc (by have := HB1.out.size; simpa using this) _).drew
  have hbk2 := ((HBK.out.set_ 1 (.slice (some ⟨w1.heap.size, 0, none⟩) 2 2)).alloc (.cells #[.int .i64 b, .int .i64 a] 3)).drew
  have HO2 := Lib.hid ho2
  have HB2 := Lib.hid hb2
  have HBK2 := Lib.hid hbk2
  clear ho2 hb2 hbk2
  go_region
  obtain ⟨w2, hw2⟩ : ∃ w2, w2 = ((w1.setCell ⟨w.heap.size, 1, none⟩ (.slice (some ⟨w1.heap.size, 0, none⟩) 2 2)).alloc (.cells #[.int .i64 b, .int .i64 a] 3)).drew := ⟨_, rfl⟩
  rw [← hw2] at HO2 HB2 HBK2 ⊢
  have c0 := (HB2.out.cell (p := ⟨g, 0, none⟩) hgl).trans HX0.out
  have hc2 := fun m => HB2.out.cell (p := ⟨gs, m, none⟩) hgsl
  have d0 := (hc2 _).trans HY.out.1
  have d1 := (hc2 _).trans HY.out.2.1
  have d2 := (hc2 _).trans HY.out.2.2.1
  have d3 := (hc2 _).trans HY.out.2.2.2.1
  have d4 := (hc2 _).trans HY.out.2.2.2.2
  have m0 := HBK2.out.cell 0
  have m1 := HBK2.out.cell 1
  have m2 := HBK2.out.cell 2
  have m3 := HBK2.out.cell 3
  have m4 := HBK2.out.cell 4
  simp only [List.setIfInBounds_toArray, List.set_cons_zero, List.set_cons_succ, List.getElem?_toArray, List.getElem?_cons_zero, List.getElem?_cons_succ] at m0 m1 m2 m3 m4
  obtain ⟨f0, f1, f2, f3, f4⟩ : w2.frozen? ⟨gs, i * 5, none⟩ = false ∧ w2.frozen? ⟨gs, i * 5 + 1, none⟩ = false ∧ w2.frozen? ⟨gs, i * 5 + 2, none⟩ = false ∧ w2.frozen? ⟨gs, i * 5 + 3, none⟩ = false ∧ w2.frozen? ⟨gs, i * 5 + 4, none⟩ = false := by
    obtain ⟨cs, e1, _⟩ := (HH.out.below HB2.out).blk
    exact ⟨e1.frozen _, e1.frozen _, e1.frozen _, e1.frozen _, e1.frozen _⟩
  have hp := HH.out.putFresh HB2.out HI.out (Oz.mk Oz.oLt [b, a] 0 [] 2) _ HO2.out
  have HP := Lib.hid hp.1
  have HF := Lib.hid hp.2
  clear hp hc2 hw2 e0 e1 t1 t2
  go_wp2_with fail
  go_region
  have HRM := Lib.hid (remove_any base g gs cap j _ _ _ _ (HP.out.below (Below.refl _ _).drew) (by rw [List.length_set]; exact HJ.out) HMB.out)
  have HF3 := Lib.hid (HF.out.below (Below.refl _ _).drew HP.out.base_le)
  clear HP HF d0 d1 d2 d3 d4 m0 m1 m2 m3 m4 f0 f1 f2 f3 f4 c0
  go_wp2_with fail
  refine HRM.out.mono ?_
  rintro e w3 ⟨rfl, he3, hf3⟩
  have HE3 := Lib.hid he3
  have HF4 := Lib.hid (HF3.out.trans hf3)
  clear he3 hf3 HRM
  go_wp2_with fail
  go_ret
  unfold RepEnd
  rw [HRN.out]
  exact ⟨rfl, ⟨_, HE3.out⟩, HF4.out⟩
set_option maxRecDepth 100000 in
set_option maxHeartbeats 8000000 in
theorem negate_other (base g gs gu cap i j : Nat) (l : List St) (vs : List Value) (s t : St) (w : World) (h : EdX w base g gs cap l vs (.slice (some ⟨gu, 0, none⟩) l.length l.length)) (hu : Blk w gu 3 (uarr (usesR l))) (hs : l[i]? = some s) (ht : l[j]? = some t) (hj : s.args[0]? = some (j : Int)) (_hji : j < i) (ha : 0 < s.args.length) (hb : ∀ s ∈ l, s.args.length ≤ 3 ∧ ∀ a ∈ s.args, 0 ≤ a ∧ a ≤ 100000) (hop : s.op = Oz.oNot) (hone : (usesR l).getD j 0 = 1) (h0 : t.op ≠ Oz.oEq) (h1 : t.op ≠ Oz.oNe) (h2 : t.op ≠ Oz.oLt) (h3 : t.op ≠ Oz.oLe) :
    Calls Try.prog 59 #[.pointer (some ⟨g, 0, none⟩), .int .i64 i] w (RepEnd base g gs cap l vs (.slice (some ⟨gu, 0, none⟩) l.length l.length) (Oz.negateR l i) w) := by
  have hil := (List.getElem?_eq_some_iff.1 hs).1
  have hjl := (List.getElem?_eq_some_iff.1 ht).1
  have hcap := h.cap
  have hbase := h.base_le
  have x0 := h.ed.cell 0
  have x1 := h.ed.cell 1
  simp only [List.getElem?_toArray, List.getElem?_cons_zero, List.getElem?_cons_succ] at x0 x1
  obtain ⟨v, hv, ⟨y0, y1, y2, y3, y4⟩, ho⟩ := h.at_ hs
  obtain ⟨A, c, rfl⟩ := own_form ho
  obtain ⟨v2, hv2, ⟨z0, z1, z2, z3, z4⟩, ho2⟩ := h.at_ ht
  obtain ⟨A2, c2, rfl⟩ := own_form ho2
  have hul : (usesR l).length = l.length := usesK_len l _
  have y6 : w.cell? ⟨gu, j, none⟩ = some (.int .i64 ((usesR l).getD j 0)) := by rw [hu.cell]; exact uarr_get (by omega)
  obtain ⟨q, c', hvq, _, hbq, hql, hc⟩ := own_at ho (by omega)
  injection hvq with hA hkk hcc
  clear hkk
  subst hA hcc
  have a0 : w.cell? ⟨q, 0, none⟩ = some (.int .i64 j) := hc 0 _ (by rw [List.getElem?_map, hj]; rfl)
  obtain ⟨R, hR⟩ : ∃ R, R = Oz.negateR l i := ⟨_, rfl⟩
  rw [← hR]
  unfold Oz.negateR at hR
  have haj : Oz.arg s 0 = (j : Int) := by unfold Oz.arg; rw [List.getD_eq_getElem?_getD, hj]; rfl
  rw [at_get hs] at hR
  dsimp only at hR
  rw [haj, Int.toNat_natCast, at_get ht] at hR
  obtain ⟨u, hue⟩ : ∃ u, u = (usesR l).getD j 0 := ⟨_, rfl⟩
  rw [← hue] at y6 hR
  obtain ⟨n, hn⟩ : ∃ n, n = l.length := ⟨_, rfl⟩
  rw [← hn] at hil hjl hcap x0 x1
  have HH := Lib.hid h
  have HN := Lib.hid hn
  have HBB := Lib.hid hb
  have q0 : (i : Int) < (n : Int) := by omega
  have q1 : (0 : Int) ≤ (i : Int) := by omega
  have q2 : (j : Int) < (n : Int) := by omega
  have q3 : (0 : Int) ≤ (j : Int) := by omega
  have q4 : j < n := by omega
  have q5 : i < n := by omega
  have hgl := h.ed.lt
  have hgsl := h.gs_lt
  have hgul := hu.lt
  obtain ⟨k, hk⟩ : ∃ k, k = s.args.length := ⟨_, rfl⟩
  have p0 : (0 : Int) < (k : Int) := by omega
  have p2 : 0 < k := by omega
  rw [← hk] at y1
  obtain ⟨k2, hk2⟩ : ∃ k2, k2 = t.args.length := ⟨_, rfl⟩
  have HK2 := Lib.hid hk2
  rw [← hk2] at z1
  have hone' : u = 1 := hue.trans hone
  rw [hop, hone'] at hR
  rw [hop] at y0
  rw [hone'] at y6
  unfold Oz.oNot at y0
  have HRN : Hid (R = none) := Lib.hid (by rw [hR, if_neg (by simp)]; unfold Oz.negR; rw [if_neg h0, if_neg h1, if_neg h2, if_neg h3]; rfl)
  have e0 : (t.op == [61, 61]) = false := beq_eq_false_iff_ne.2 h0
  have e1 : (t.op == [33, 61]) = false := beq_eq_false_iff_ne.2 h1
  have e2 : (t.op == [60]) = false := beq_eq_false_iff_ne.2 h2
  have e3 : (t.op == [60, 61]) = false := beq_eq_false_iff_ne.2 h3
  clear h hs ht hb hv ho hv2 ho2 hue hn hj haj hc hk hk2 hop hone hone' ha hR h0 h1 h2 h3 hul hu
  go_enter Try.func59, Try.ntmps59
  go_wp2_with fail
  go_ret
  unfold RepEnd
  rw [HRN.out]
  exact ⟨rfl, below_alloc _ _⟩
set_option maxRecDepth 100000 in
set_option maxHeartbeats 8000000 in
theorem negate_more (base g gs gu cap i j : Nat) (l : List St) (vs : List Value) (s t : St) (w : World) (h : EdX w base g gs cap l vs (.slice (some ⟨gu, 0, none⟩) l.length l.length)) (hu : Blk w gu 3 (uarr (usesR l))) (hs : l[i]? = some s) (ht : l[j]? = some t) (hj : s.args[0]? = some (j : Int)) (_hji : j < i) (ha : 0 < s.args.length) (hb : ∀ s ∈ l, s.args.length ≤ 3 ∧ ∀ a ∈ s.args, 0 ≤ a ∧ a ≤ 100000) (hop : s.op = Oz.oNot) (hone : (usesR l).getD j 0 ≠ 1) :
    Calls Try.prog 59 #[.pointer (some ⟨g, 0, none⟩), .int .i64 i] w (RepEnd base g gs cap l vs (.slice (some ⟨gu, 0, none⟩) l.length l.length) (Oz.negateR l i) w) := by
  have hil := (List.getElem?_eq_some_iff.1 hs).1
  have hjl := (List.getElem?_eq_some_iff.1 ht).1
  have hcap := h.cap
  have hbase := h.base_le
  have x0 := h.ed.cell 0
  have x1 := h.ed.cell 1
  simp only [List.getElem?_toArray, List.getElem?_cons_zero, List.getElem?_cons_succ] at x0 x1
  obtain ⟨v, hv, ⟨y0, y1, y2, y3, y4⟩, ho⟩ := h.at_ hs
  obtain ⟨A, c, rfl⟩ := own_form ho
  obtain ⟨v2, hv2, ⟨z0, z1, z2, z3, z4⟩, ho2⟩ := h.at_ ht
  obtain ⟨A2, c2, rfl⟩ := own_form ho2
  have hul : (usesR l).length = l.length := usesK_len l _
  have y6 : w.cell? ⟨gu, j, none⟩ = some (.int .i64 ((usesR l).getD j 0)) := by rw [hu.cell]; exact uarr_get (by omega)
  obtain ⟨q, c', hvq, _, hbq, hql, hc⟩ := own_at ho (by omega)
  injection hvq with hA hkk hcc
  clear hkk
  subst hA hcc
  have a0 : w.cell? ⟨q, 0, none⟩ = some (.int .i64 j) := hc 0 _ (by rw [List.getElem?_map, hj]; rfl)
  obtain ⟨R, hR⟩ : ∃ R, R = Oz.negateR l i := ⟨_, rfl⟩
  rw [← hR]
  unfold Oz.negateR at hR
  have haj : Oz.arg s 0 = (j : Int) := by unfold Oz.arg; rw [List.getD_eq_getElem?_getD, hj]; rfl
  rw [at_get hs] at hR
  dsimp only at hR
  rw [haj, Int.toNat_natCast, at_get ht] at hR
  obtain ⟨u, hue⟩ : ∃ u, u = (usesR l).getD j 0 := ⟨_, rfl⟩
  rw [← hue] at y6 hR
  obtain ⟨n, hn⟩ : ∃ n, n = l.length := ⟨_, rfl⟩
  rw [← hn] at hil hjl hcap x0 x1
  have HH := Lib.hid h
  have HN := Lib.hid hn
  have HBB := Lib.hid hb
  have q0 : (i : Int) < (n : Int) := by omega
  have q1 : (0 : Int) ≤ (i : Int) := by omega
  have q2 : (j : Int) < (n : Int) := by omega
  have q3 : (0 : Int) ≤ (j : Int) := by omega
  have q4 : j < n := by omega
  have q5 : i < n := by omega
  have hgl := h.ed.lt
  have hgsl := h.gs_lt
  have hgul := hu.lt
  obtain ⟨k, hk⟩ : ∃ k, k = s.args.length := ⟨_, rfl⟩
  have p0 : (0 : Int) < (k : Int) := by omega
  have p2 : 0 < k := by omega
  rw [← hk] at y1
  obtain ⟨k2, hk2⟩ : ∃ k2, k2 = t.args.length := ⟨_, rfl⟩
  have HK2 := Lib.hid hk2
  rw [← hk2] at z1
  have hone' : u ≠ 1 := fun e => hone (hue.symm.trans e)
  rw [hop] at y0
  unfold Oz.oNot at y0
  have HRN : Hid (R = none) := Lib.hid (by rw [hR, if_pos (.inr hone')])
  have e0 : (u == 1) = false := beq_eq_false_iff_ne.2 hone'
  clear h hs ht hb hv ho hv2 ho2 hue hn hj haj hc hk hk2 hop hone hone' ha hR hul hu
  go_enter Try.func59, Try.ntmps59
  go_wp2_with fail
  go_ret
  unfold RepEnd
  rw [HRN.out]
  exact ⟨rfl, Below.refl _ _⟩
set_option maxRecDepth 100000 in
theorem negate_no (base g gs cap i : Nat) (l : List St) (vs : List Value) (V : Value) (s : St) (w : World) (h : EdX w base g gs cap l vs V) (hs : l[i]? = some s) (hop : s.op ≠ Oz.oNot) :
    Calls Try.prog 59 #[.pointer (some ⟨g, 0, none⟩), .int .i64 i] w (RepEnd base g gs cap l vs V (Oz.negateR l i) w) := by
  have hil := (List.getElem?_eq_some_iff.1 hs).1
  have x0 := h.ed.cell 0
  simp only [List.getElem?_toArray, List.getElem?_cons_zero] at x0
  obtain ⟨v, hv, ⟨y0, y1, y2, y3, y4⟩, ho⟩ := h.at_ hs
  obtain ⟨R, hR⟩ : ∃ R, R = Oz.negateR l i := ⟨_, rfl⟩
  rw [← hR]
  unfold Oz.negateR at hR
  rw [at_get hs] at hR
  dsimp only at hR
  have HRN : Hid (R = none) := Lib.hid (by rw [hR, if_pos (.inl hop)])
  obtain ⟨n, hn⟩ : ∃ n, n = l.length := ⟨_, rfl⟩
  rw [← hn] at hil x0
  have q0 : (i : Int) < (n : Int) := by omega
  have q1 : (0 : Int) ≤ (i : Int) := by omega
  have e1 : (s.op == [110, 111, 116]) = false := beq_eq_false_iff_ne.2 hop
  clear h hs hv ho hn hR hop
  go_enter Try.func59, Try.ntmps59
  go_wp2_with fail
  go_ret
  unfold RepEnd
  rw [HRN.out]
  exact ⟨rfl, Below.refl _ _⟩
theorem negate_any (base g gs gu cap i : Nat) (l : List St) (vs : List Value) (s : St) (w : World) (h : EdX w base g gs cap l vs (.slice (some ⟨gu, 0, none⟩) l.length l.length)) (hu : Blk w gu 3 (uarr (usesR l))) (hs : l[i]? = some s) (hc : checkR l = 0) :
    Calls Try.prog 59 #[.pointer (some ⟨g, 0, none⟩), .int .i64 i] w (RepEnd base g gs cap l vs (.slice (some ⟨gu, 0, none⟩) l.length l.length) (Oz.negateR l i) w) := by
  by_cases hop : s.op = Oz.oNot
  · have hal := ok_arity hc hs 1 (by rw [hop]; kernel_rfl)
    obtain ⟨j, t, hj, hji, ht, _, _⟩ := ok_at hc hs (k := 0) (by omega)
    have hb := ok_bd hc
    by_cases hone : (usesR l).getD j 0 = 1
    · by_cases h0 : t.op = Oz.oEq ∨ t.op = Oz.oNe ∨ t.op = Oz.oLt ∨ t.op = Oz.oLe
      · have ht2 : t.args.length = 2 := ok_arity hc ht 2 (by rcases h0 with e | e | e | e <;> rw [e] <;> kernel_rfl)
        obtain ⟨a, _, ha, _⟩ := ok_at hc ht (k := 0) (by omega)
        obtain ⟨b, _, hb2, _⟩ := ok_at hc ht (k := 1) (by omega)
        rcases h0 with e | e | e | e
        · exact negate_0 base g gs gu cap i j l vs s t w h hu hs ht hj hji (by omega) hb hop hone a b e ha hb2
        · exact negate_1 base g gs gu cap i j l vs s t w h hu hs ht hj hji (by omega) hb hop hone a b e ha hb2
        · exact negate_2 base g gs gu cap i j l vs s t w h hu hs ht hj hji (by omega) hb hop hone a b e ha hb2
        · exact negate_3 base g gs gu cap i j l vs s t w h hu hs ht hj hji (by omega) hb hop hone a b e ha hb2
      · simp only [not_or] at h0
        exact negate_other base g gs gu cap i j l vs s t w h hu hs ht hj hji (by omega) hb hop hone h0.1 h0.2.1 h0.2.2.1 h0.2.2.2
    · exact negate_more base g gs gu cap i j l vs s t w h hu hs ht hj hji (by omega) hb hop hone
  · exact negate_no base g gs cap i l vs _ s w h hs hop
end Go.Proofs.Ytniefnjcimempaa
