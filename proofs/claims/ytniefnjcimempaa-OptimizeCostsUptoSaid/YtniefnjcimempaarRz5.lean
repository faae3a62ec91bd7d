/- The walk of optimize's rule lenSum at any step (printed by gen_oyb.py). The walk of optimize's rule lenRep at any step (printed by gen_oyc.py). -/
import Derived.Test.YtniefnjcimempaarRz4
import Derived.BigQuiet
import Derived.Lib.QuietBelow
namespace Go.Proofs.Ytniefnjcimempaa
open Go.RowKit
set_option maxRecDepth 100000 in
set_option maxHeartbeats 8000000 in
theorem lenSum_0 (base g gs gu cap i j : Nat) (l : List St) (vs : List Value) (s t : St) (w : World) (h : EdX w base g gs cap l vs (.slice (some ⟨gu, 0, none⟩) l.length l.length)) (hu : Blk w gu 3 (uarr (usesR l))) (hs : l[i]? = some s) (ht : l[j]? = some t) (hj : s.args[0]? = some (j : Int)) (hji : j < i) (hb : ∀ s ∈ l, s.args.length ≤ 3 ∧ ∀ a ∈ s.args, 0 ≤ a ∧ a ≤ 100000) (hop : s.op = Oz.oLen) (hlt : l.length < 4096) (hb2 : ∀ s ∈ l, s.args.length ≤ 3 ∧ ∀ a ∈ s.args, 0 ≤ a ∧ a ≤ 4096) (a b : Int) (ht2 : t.args[0]? = some a) (ht3 : t.args[1]? = some b) :
    Calls Try.prog 64 #[.pointer (some ⟨g, 0, none⟩), .int .i64 i] w (RuEnd base g (.slice (some ⟨gu, 0, none⟩) l.length l.length) (Oz.lenSumR l i) w) := by
  have hil := (List.getElem?_eq_some_iff.1 hs).1
  have hjl := (List.getElem?_eq_some_iff.1 ht).1
  have hcap := h.cap
  have hbase := h.base_le
  have x0 := h.ed.cell 0
  simp only [List.getElem?_toArray, List.getElem?_cons_zero] at x0
  obtain ⟨v, hv, ⟨y0, y1, y2, y3, y4⟩, ho⟩ := h.at_ hs
  obtain ⟨A, c, rfl⟩ := own_form ho
  obtain ⟨v2, hv2, ⟨z0, z1, z2, z3, z4⟩, ho2⟩ := h.at_ ht
  obtain ⟨A2, c2, rfl⟩ := own_form ho2
  have hul : (usesR l).length = l.length := usesK_len l _
  have HC := Lib.hid (once_step g gs gu cap i j l (usesR l) s t w h.edAt hu hul hs hj ht Oz.oCat)
  unfold Oz.oCat at HC
  obtain ⟨z, hz⟩ : ∃ z, z = decide (t.op = Oz.oCat ∧ (usesR l).getD j 0 = 1) := ⟨_, rfl⟩
  have hz' := hz
  unfold Oz.oCat at hz'
  rw [← hz'] at HC
  obtain ⟨R, hR⟩ : ∃ R, R = Oz.lenSumR l i := ⟨_, rfl⟩
  rw [← hR]
  unfold Oz.lenSumR Oz.onceR at hR
  have haj : Oz.arg s 0 = (j : Int) := by unfold Oz.arg; rw [List.getD_eq_getElem?_getD, hj]; rfl
  rw [at_get hs] at hR
  dsimp only at hR
  rw [haj, Int.toNat_natCast, at_get ht] at hR
  obtain ⟨n, hn⟩ : ∃ n, n = l.length := ⟨_, rfl⟩
  rw [← hn] at x0
  have HH := Lib.hid h
  have HN := Lib.hid hn
  have HBB := Lib.hid hb
  have HI : Hid (i < l.length) := Lib.hid hil
  have HJ : Hid (j < l.length) := Lib.hid hjl
  have q0 : (i : Int) < (n : Int) := by omega
  have q1 : (0 : Int) ≤ (i : Int) := by omega
  have q2 : (j : Int) < (n : Int) := by omega
  have q3 : (0 : Int) ≤ (j : Int) := by omega
  have q4 : j < n := by omega
  have q5 : i < n := by omega
  have hgl := h.ed.lt
  have hgsl := h.gs_lt
  have HO2 := Lib.hid ho2
  have HDIS := Lib.hid (own_apart h hv2)
  have HT := Lib.hid ht
  have HS := Lib.hid hs
  have HX0 := Lib.hid x0
  obtain ⟨k2, hk2⟩ : ∃ k2, k2 = t.args.length := ⟨_, rfl⟩
  rw [← hk2] at z1
  have HK2 := Lib.hid hk2
  obtain ⟨X, hX⟩ : ∃ X, X = t.text := ⟨_, rfl⟩
  rw [← hX] at z3
  have HXX := Lib.hid hX
  obtain ⟨op2, hop2⟩ : ∃ op2, op2 = t.op := ⟨_, rfl⟩
  rw [← hop2] at z0
  have HOP2 := Lib.hid hop2
  obtain ⟨num2, hnum2⟩ : ∃ num2, num2 = t.num := ⟨_, rfl⟩
  rw [← hnum2] at z2
  have HNUM2 := Lib.hid hnum2
  obtain ⟨ty2, hty2⟩ : ∃ ty2, ty2 = t.ty := ⟨_, rfl⟩
  rw [← hty2] at z4
  have HTY2 := Lib.hid hty2
  have HZ := Lib.hid hz
  rw [hop, if_neg (by simp only [not_or]; exact ⟨by decide, by omega⟩)] at hR
  rw [hop] at y0
  unfold Oz.oLen at y0
  have hn4 : (n : Int) < 4096 := by omega
  have hn5 : n < 4096 := by omega
  have hk3 : 1 ≤ k2 := by have := (List.getElem?_eq_some_iff.1 ht2).1; omega
  have p3 : (0 : Int) < (k2 : Int) := by omega
  have p5 : 0 < k2 := by omega
  obtain ⟨r, c3, hvr, _, hbr, hrl, hcr⟩ := own_at ho2 (by omega)
  injection hvr with hA hkk hcc
  clear hkk
  subst hA hcc
  have b0 : w.cell? ⟨r, 0, none⟩ = some (.int .i64 a) := hcr 0 _ (by rw [List.getElem?_map, ht2]; rfl)
  have ea : Oz.arg t 0 = a := by unfold Oz.arg; rw [List.getD_eq_getElem?_getD, ht2]; rfl
  have hk5 : 2 ≤ k2 := by have := (List.getElem?_eq_some_iff.1 ht3).1; omega
  have p6 : (1 : Int) < (k2 : Int) := by omega
  have p7 : 1 < k2 := by omega
  have b1 : w.cell? ⟨r, 1, none⟩ = some (.int .i64 b) := hcr 1 _ (by rw [List.getElem?_map, ht3]; rfl)
  have eb : Oz.arg t 1 = b := by unfold Oz.arg; rw [List.getD_eq_getElem?_getD, ht3]; rfl
  have hab := (hb2 t (List.mem_of_getElem? ht)).2 a (List.mem_of_getElem? ht2)
  have hbb := (hb2 t (List.mem_of_getElem? ht)).2 b (List.mem_of_getElem? ht3)
  have HEA := Lib.hid ea
  have HEB := Lib.hid eb
  have HHB0 := Lib.hid b0
  have HHB1 := Lib.hid b1
  have HAB := Lib.hid hab
  have HBBB := Lib.hid hbb
  have HB2' := Lib.hid hb2
  have HZ1 := Lib.hid z1
  clear hcr b0 b1 ea eb ht2 ht3 hb2 hab hbb z0 z1 z2 z3 z4 y1 y2 y3 y4
  have HR := Lib.hid hR
  clear h hu hs ht hv ho hv2 ho2 hn hR hz hz' hop haj hj hb hk2 hX hop2 hnum2 hty2 hul
  go_enter Try.func64, Try.ntmps64
  go_wp2_with fail
  refine HC.out.mono ?_
  rintro e w1 ⟨rfl, hb1⟩
  have HB1 := Lib.hid hb1
  clear hb1 HC x0 y0
  cases z with
  | false =>
    have hz := of_decide_eq_false HZ.out.symm
    have HRN : Hid (R = none) := Lib.hid (by rw [HR.out, if_neg hz])
    clear hz
    go_wp2_with fail
    go_ret
    unfold RuEnd
    rw [HRN.out]
    exact ⟨rfl, HB1.out⟩
  | true =>
  have hz := of_decide_eq_true HZ.out.symm
  have HRE : Hid (∀ w, EdAt w g gs cap l (.slice (some ⟨gu, 0, none⟩) l.length l.length) → Calls Try.prog 82 #[.pointer (some ⟨g, 0, none⟩), .int .i64 i, .int .i64 j] w fun e w' => e = .returned (.bool (Oz.canR l i j)) ∧ Below w.heap.size w w') := Lib.hid (fun w h => replaceable_any g gs cap l _ w h j i hji HI.out)
  obtain ⟨cb, hcb⟩ : ∃ cb, cb = Oz.canR l i j := ⟨_, rfl⟩
  rw [← hcb] at HRE
  have HR2 := HR.out
  rw [if_pos hz] at HR2
  dsimp only at HR2
  rw [← hcb, at_get HT.out] at HR2
  have HR3 := Lib.hid HR2
  have HCB := Lib.hid hcb
  clear hz HR2 hcb
  go_wp2_with fail
  refine (HRE.out w1 (HH.out.below HB1.out).edAt).mono ?_
  rintro e w2 ⟨rfl, hb2⟩
  have HB2 := Lib.hid (HB1.out.trans (hb2.mono HB1.out.size))
  clear hb2 HRE
  cases cb with
  | false =>
    have HRN : Hid (R = none) := Lib.hid (by rw [HR3.out, if_pos rfl])
    go_wp2_with fail
    go_ret
    unfold RuEnd
    rw [HRN.out]
    exact ⟨rfl, HB2.out⟩
  | true =>
  obtain ⟨l1, hl1⟩ : ∃ l1, l1 = Oz.insertR l j (Oz.mk [108, 101, 110] [a] 0 [] 1) := ⟨_, rfl⟩
  obtain ⟨l2, hl2⟩ : ∃ l2, l2 = Oz.insertR l1 (j + 1) (Oz.mk [108, 101, 110] [b] 0 [] 1) := ⟨_, rfl⟩
  obtain ⟨l3, hl3⟩ : ∃ l3, l3 = l2.set (j + 2) (Oz.mk [43] [(j : Int), (j : Int) + 1] 0 [] 1) := ⟨_, rfl⟩
  have hn1 : l1.length = n + 1 := by rw [hl1, insertR_len, HN.out]
  have hn2 : l2.length = n + 2 := by rw [hl2, insertR_len, hn1]
  have hn3 : l3.length = n + 2 := by rw [hl3, List.length_set, hn2]
  have hc3 : Oz.canR l3 (i + 2) (j + 2) = true := by
    rw [hl3, canR_set, hl2, canR_ins l1 (i + 1) (j + 1) _ (by omega), hl1, canR_ins l i j _ (Nat.le_of_lt HJ.out)]
    exact HCB.out.symm
  obtain ⟨l9, hl9⟩ := replaceR_some hc3
  have HRN : Hid (R = some l9) := Lib.hid (by
    rw [HR3.out, if_neg (by decide), HEA.out, HEB.out]
    rw [hl3, hl2, hl1] at hl9
    exact hl9)
  have HBD1 : Hid (∀ s ∈ l1, s.args.length ≤ 3 ∧ ∀ a ∈ s.args, 0 ≤ a ∧ a ≤ 4096 + 1) := Lib.hid (by
    rw [hl1]
    exact ins_bd HB2'.out ⟨by show 1 ≤ 3; decide, fun x hx => by have := HAB.out; simp only [Oz.mk, List.mem_cons, List.not_mem_nil, or_false] at hx; omega⟩)
  have HBD2 : Hid (∀ s ∈ l2, s.args.length ≤ 3 ∧ ∀ a ∈ s.args, 0 ≤ a ∧ a ≤ 4096 + 1 + 1) := Lib.hid (by
    rw [hl2]
    exact ins_bd HBD1.out ⟨by show 1 ≤ 3; decide, fun x hx => by have := HBBB.out; simp only [Oz.mk, List.mem_cons, List.not_mem_nil, or_false] at hx; omega⟩)
  have HBD3 : Hid (∀ s ∈ l3, s.args.length ≤ 3 ∧ ∀ a ∈ s.args, 0 ≤ a ∧ a ≤ 4096 + 1 + 1) := Lib.hid (by
    rw [hl3]
    exact set_bd HBD2.out ⟨by show 2 ≤ 3; decide, fun x hx => by simp only [Oz.mk, List.mem_cons, List.not_mem_nil, or_false] at hx; omega⟩)
  have HL1 := Lib.hid hl1
  have HL2 := Lib.hid hl2
  have HL3 := Lib.hid hl3
  have HL9 := Lib.hid hl9
  have HN1 := Lib.hid hn1
  have HN2 := Lib.hid hn2
  have HN3 := Lib.hid hn3
  have ej1 : ((j + 1 : Nat) : Int) = (j : Int) + 1 := by omega
  have hwj : IntKind.i64.wrap ((j : Int) + 1) = (j : Int) + 1 := IntWalk.i64_in _ (by omega)
  have hwj2 : IntKind.i64.wrap ((j : Int) + 2) = (j : Int) + 2 := IntWalk.i64_in _ (by omega)
  have hwi2 : IntKind.i64.wrap ((i : Int) + 2) = (i : Int) + 2 := IntWalk.i64_in _ (by omega)
  have HEJ1 := Lib.hid ej1
  clear hl1 hl2 hl3 hl9 hn1 hn2 hn3 hc3 ej1
  have HB2N := HB2'
  rw [← HN.out] at HH
  have c0 := (HB2.out.cell (p := ⟨g, 0, none⟩) hgl).trans HX0.out
  have d1 := (HB2.out.cell (p := ⟨gs, _, none⟩) hgsl).trans HZ1.out
  have e0 := (HB2.out.cell (p := ⟨r, 0, none⟩) hrl).trans HHB0.out
  have e1 := (HB2.out.cell (p := ⟨r, 1, none⟩) hrl).trans HHB1.out
  go_wp2_with fail
  go_quiet (fail)
  go_upto_region 7 with (fail)
  obtain ⟨w3, hw3⟩ : ∃ w3, w3 = w2.drewN nq := ⟨_, rfl⟩
  rw [← hw3]
  have HB3 : Hid (Below w.heap.size w w3) := Lib.hid (by rw [hw3]; exact below_drewN HB2.out _)
  clear hw3 c0 d1 e0 e1
  have HE3 := Lib.hid (HH.out.below HB3.out)
  have HF3 := Lib.hid ((FrX.refl base w).below HB3.out hbase)
  go_wp2_with fail
  refine (lenOf_ok a w3).mono ?_
  rintro e w4 ⟨N3, rfl, ho4, hb4⟩
  have hN := (own_lo ho4 rfl).1
  have HEE4 := Lib.hid (HE3.out.below hb4)
  have HF4 := Lib.hid (HF3.out.below hb4 HE3.out.base_le)
  have HIN := Lib.hid (insert_any base g gs cap j l vs (.slice (some ⟨gu, 0, none⟩) n n) w4 HEE4.out (HJ.out) (by have := HN.out; omega) (bd_le HB2'.out (by omega)) [108, 101, 110] [a] 0 [] 1 (.slice (some ⟨N3, 0, none⟩) 1 1) (ho4.mono HE3.out.base_le) (fresh_apart HE3.out hN 1 1))
  clear ho4 hb4 hN
  go_wp2_with fail
  refine HIN.out.mono ?_
  rintro e w5 ⟨rfl, ⟨gs5, cap5, he5⟩, hf5⟩
  have HF5 := Lib.hid (HF4.out.trans hf5)
  rw [← HL1.out] at he5
  have HE5 := Lib.hid he5
  clear he5 hf5 HIN HEE4 HF4 HE3 HF3
  obtain ⟨vs5, hvs5⟩ : ∃ vs5, vs5 = vs.take j ++ .slice (some ⟨N3, 0, none⟩) 1 1 :: vs.drop j := ⟨_, rfl⟩
  rw [← hvs5] at HE5
  clear hvs5
  go_wp2_with fail
  refine (lenOf_ok b w5).mono ?_
  rintro e w6 ⟨N5, rfl, ho6, hb6⟩
  have hN := (own_lo ho6 rfl).1
  have HEE6 := Lib.hid (HE5.out.below hb6)
  have HF6 := Lib.hid (HF5.out.below hb6 HE5.out.base_le)
  have HIN := Lib.hid (insert_any base g gs5 cap5 (j + 1) l1 vs5 (.slice (some ⟨gu, 0, none⟩) n n) w6 HEE6.out (by rw [HN1.out]; omega) (by rw [HN1.out]; omega) (bd_le HBD1.out (by omega)) [108, 101, 110] [b] 0 [] 1 (.slice (some ⟨N5, 0, none⟩) 1 1) (ho6.mono HE5.out.base_le) (fresh_apart HE5.out hN 1 1))
  clear ho6 hb6 hN
  rw [HEJ1.out] at HIN
  go_wp2_with fail
  refine HIN.out.mono ?_
  rintro e w7 ⟨rfl, ⟨gs7, cap7, he7⟩, hf7⟩
  have HF7 := Lib.hid (HF6.out.trans hf7)
  rw [← HL2.out] at he7
  have HE7 := Lib.hid he7
  clear he7 hf7 HIN HEE6 HF6 HE5 HF5
  obtain ⟨vs7, hvs7⟩ : ∃ vs7, vs7 = vs5.take (j + 1) ++ .slice (some ⟨N5, 0, none⟩) 1 1 :: vs5.drop (j + 1) := ⟨_, rfl⟩
  rw [← hvs7] at HE7
  clear hvs7
  obtain ⟨t9, ht9⟩ : ∃ t9, l2[j + 2]? = some t9 := ⟨_, List.getElem?_eq_getElem (by rw [HN2.out]; omega)⟩
  obtain ⟨v9, hv9, ⟨d0, d1, d2, d3, d4⟩, ho9⟩ := HE7.out.at_ ht9
  obtain ⟨A9, c9, rfl⟩ := own_form ho9
  have c0 := HE7.out.ed.cell 0
  simp only [List.getElem?_toArray, List.getElem?_cons_zero] at c0
  rw [HN2.out] at c0
  obtain ⟨f0, f1, f2, f3, f4⟩ : w7.frozen? ⟨gs7, (j + 2) * 5, none⟩ = false ∧ w7.frozen? ⟨gs7, (j + 2) * 5 + 1, none⟩ = false ∧ w7.frozen? ⟨gs7, (j + 2) * 5 + 2, none⟩ = false ∧ w7.frozen? ⟨gs7, (j + 2) * 5 + 3, none⟩ = false ∧ w7.frozen? ⟨gs7, (j + 2) * 5 + 4, none⟩ = false := by
    obtain ⟨cs, e1, _⟩ := HE7.out.blk
    exact ⟨e1.frozen _, e1.frozen _, e1.frozen _, e1.frozen _, e1.frozen _⟩
  have hp := HE7.out.putNew (i := j + 2) (by rw [HN2.out]; omega) (Oz.mk [43] [(j : Int), (j : Int) + 1] 0 [] 1) (by show 2 ≤ 100; decide)
  rw [← HL3.out] at hp
  have HP := Lib.hid hp.1
  have HF := Lib.hid (HF7.out.trans hp.2)
  have hg1 := HE7.out.gs_lt
  have hg2 := HE7.out.ed.lt
  have q6 : (j : Int) + 2 < (n : Int) + 2 := by omega
  have q7 : (0 : Int) ≤ (j : Int) + 2 := by omega
  have q8 : ((j : Int) + 2).toNat = j + 2 := by omega
  clear hp ht9 hv9 ho9
  have HRP := Lib.hid (replace_any base g gs7 cap7 (i + 2) (j + 2) l3 _ _ _ HP.out (by omega) (by rw [HN3.out]; have := HI.out; have := HN.out; omega) (bd_le HBD3.out (by omega)))
  rw [HL9.out, show ((i + 2 : Nat) : Int) = (i : Int) + 2 by omega, show ((j + 2 : Nat) : Int) = (j : Int) + 2 by omega] at HRP
  go_upto_region 10 with (fail)
  clear c0 d0 d1 d2 d3 d4 f0 f1 f2 f3 f4
  go_wp2_with fail
  refine HRP.out.mono ?_
  intro e w9 h9
  have h9 : e = .returned (.bool true) ∧ (∃ vs9, EdX w9 base g gs7 cap7 l9 vs9 (.slice (some ⟨gu, 0, none⟩) n n)) ∧ FrX base _ w9 := h9
  obtain ⟨rfl, ⟨vs9, he9⟩, hf9⟩ := h9
  have HE9 := Lib.hid he9
  have HF9 := Lib.hid (HF.out.trans hf9)
  clear he9 hf9 HRP HP HF
  go_wp2_with fail
  go_ret
  unfold RuEnd
  rw [HRN.out, ← HN.out]
  exact ⟨rfl, ⟨_, _, _, HE9.out⟩, HF9.out⟩
end Go.Proofs.Ytniefnjcimempaa
namespace Go.Proofs.Ytniefnjcimempaa
open Go.RowKit
set_option maxRecDepth 100000 in
set_option maxHeartbeats 4000000 in
theorem lenRep_1 (base g gs gu cap i j : Nat) (l : List St) (vs : List Value) (s t : St) (w : World) (h : EdX w base g gs cap l vs (.slice (some ⟨gu, 0, none⟩) l.length l.length)) (hu : Blk w gu 3 (uarr (usesR l))) (hs : l[i]? = some s) (ht : l[j]? = some t) (hj : s.args[0]? = some (j : Int)) (_hji : j < i) (hb : ∀ s ∈ l, s.args.length ≤ 3 ∧ ∀ a ∈ s.args, 0 ≤ a ∧ a ≤ 100000) (hop : s.op = Oz.oLen) (hno : ¬ (t.op = Oz.oRep ∧ (usesR l).getD j 0 = 1)) :
    Calls Try.prog 65 #[.pointer (some ⟨g, 0, none⟩), .int .i64 i] w (RuEnd base g (.slice (some ⟨gu, 0, none⟩) l.length l.length) (Oz.lenRepR l i) w) := by
  have hil := (List.getElem?_eq_some_iff.1 hs).1
  have hjl := (List.getElem?_eq_some_iff.1 ht).1
  have hcap := h.cap
  have hbase := h.base_le
  have x0 := h.ed.cell 0
  simp only [List.getElem?_toArray, List.getElem?_cons_zero] at x0
  obtain ⟨v, hv, ⟨y0, y1, y2, y3, y4⟩, ho⟩ := h.at_ hs
  obtain ⟨A, c, rfl⟩ := own_form ho
  obtain ⟨v2, hv2, ⟨z0, z1, z2, z3, z4⟩, ho2⟩ := h.at_ ht
  obtain ⟨A2, c2, rfl⟩ := own_form ho2
  have hul : (usesR l).length = l.length := usesK_len l _
  have HC := Lib.hid (once_step g gs gu cap i j l (usesR l) s t w h.edAt hu hul hs hj ht Oz.oRep)
  unfold Oz.oRep at HC
  obtain ⟨z, hz⟩ : ∃ z, z = decide (t.op = Oz.oRep ∧ (usesR l).getD j 0 = 1) := ⟨_, rfl⟩
  have hz' := hz
  unfold Oz.oRep at hz'
  rw [← hz'] at HC
  obtain ⟨R, hR⟩ : ∃ R, R = Oz.lenRepR l i := ⟨_, rfl⟩
  rw [← hR]
  unfold Oz.lenRepR Oz.onceR at hR
  have haj : Oz.arg s 0 = (j : Int) := by unfold Oz.arg; rw [List.getD_eq_getElem?_getD, hj]; rfl
  rw [at_get hs] at hR
  dsimp only at hR
  rw [haj, Int.toNat_natCast, at_get ht] at hR
  obtain ⟨n, hn⟩ : ∃ n, n = l.length := ⟨_, rfl⟩
  rw [← hn] at x0
  have HH := Lib.hid h
  have HN := Lib.hid hn
  have HBB := Lib.hid hb
  have HI : Hid (i < l.length) := Lib.hid hil
  have HJ : Hid (j < l.length) := Lib.hid hjl
  have q0 : (i : Int) < (n : Int) := by omega
  have q1 : (0 : Int) ≤ (i : Int) := by omega
  have q2 : (j : Int) < (n : Int) := by omega
  have q3 : (0 : Int) ≤ (j : Int) := by omega
  have q4 : j < n := by omega
  have q5 : i < n := by omega
  have hgl := h.ed.lt
  have hgsl := h.gs_lt
  have HO2 := Lib.hid ho2
  have HDIS := Lib.hid (own_apart h hv2)
  have HT := Lib.hid ht
  have HS := Lib.hid hs
  have HX0 := Lib.hid x0
  obtain ⟨k2, hk2⟩ : ∃ k2, k2 = t.args.length := ⟨_, rfl⟩
  rw [← hk2] at z1
  have HK2 := Lib.hid hk2
  obtain ⟨X, hX⟩ : ∃ X, X = t.text := ⟨_, rfl⟩
  rw [← hX] at z3
  have HXX := Lib.hid hX
  obtain ⟨op2, hop2⟩ : ∃ op2, op2 = t.op := ⟨_, rfl⟩
  rw [← hop2] at z0
  have HOP2 := Lib.hid hop2
  obtain ⟨num2, hnum2⟩ : ∃ num2, num2 = t.num := ⟨_, rfl⟩
  rw [← hnum2] at z2
  have HNUM2 := Lib.hid hnum2
  obtain ⟨ty2, hty2⟩ : ∃ ty2, ty2 = t.ty := ⟨_, rfl⟩
  rw [← hty2] at z4
  have HTY2 := Lib.hid hty2
  have HZ := Lib.hid hz
  rw [hop, if_neg (by decide)] at hR
  rw [hop] at y0
  unfold Oz.oLen at y0
  obtain rfl : z = false := by rw [hz]; exact decide_eq_false hno
  have HR := Lib.hid hR
  clear h hu hs ht hv ho hv2 ho2 hn hR hz hz' hop haj hj hb hk2 hX hop2 hnum2 hty2 hul
  go_enter Try.func65, Try.ntmps65
  go_wp2_with fail
  refine HC.out.mono ?_
  rintro e w1 ⟨rfl, hb1⟩
  have HB1 := Lib.hid hb1
  clear hb1 HC x0 y0
  have hz := of_decide_eq_false HZ.out.symm
  have HRN : Hid (R = none) := Lib.hid (by rw [HR.out, if_neg hz])
  clear hz
  go_wp2_with fail
  go_quiet (fail)
  go_wp2_with fail
  go_ret
  unfold RuEnd
  rw [HRN.out]
  exact ⟨rfl, below_drewN HB1.out _⟩
set_option maxRecDepth 100000 in
set_option maxHeartbeats 4000000 in
theorem lenRep_2 (base g gs gu cap i j : Nat) (l : List St) (vs : List Value) (s t : St) (w : World) (h : EdX w base g gs cap l vs (.slice (some ⟨gu, 0, none⟩) l.length l.length)) (hu : Blk w gu 3 (uarr (usesR l))) (hs : l[i]? = some s) (ht : l[j]? = some t) (hj : s.args[0]? = some (j : Int)) (_hji : j < i) (hb : ∀ s ∈ l, s.args.length ≤ 3 ∧ ∀ a ∈ s.args, 0 ≤ a ∧ a ≤ 100000) (hop : s.op = Oz.oLen) (_hlt : l.length ≤ 4096) (hb2 : ∀ s ∈ l, s.args.length ≤ 3 ∧ ∀ a ∈ s.args, 0 ≤ a ∧ a ≤ 4096) (a : Int) (jb : Nat) (tb : St) (ht2 : t.args[0]? = some a) (ht3 : t.args[1]? = some (jb : Int)) (htb : l[jb]? = some tb) (hyes : t.op = Oz.oRep ∧ (usesR l).getD j 0 = 1) (hnn : tb.op ≠ nNumber) :
    Calls Try.prog 65 #[.pointer (some ⟨g, 0, none⟩), .int .i64 i] w (RuEnd base g (.slice (some ⟨gu, 0, none⟩) l.length l.length) (Oz.lenRepR l i) w) := by
  have hil := (List.getElem?_eq_some_iff.1 hs).1
  have hjl := (List.getElem?_eq_some_iff.1 ht).1
  have hcap := h.cap
  have hbase := h.base_le
  have x0 := h.ed.cell 0
  simp only [List.getElem?_toArray, List.getElem?_cons_zero] at x0
  obtain ⟨v, hv, ⟨y0, y1, y2, y3, y4⟩, ho⟩ := h.at_ hs
  obtain ⟨A, c, rfl⟩ := own_form ho
  obtain ⟨v2, hv2, ⟨z0, z1, z2, z3, z4⟩, ho2⟩ := h.at_ ht
  obtain ⟨A2, c2, rfl⟩ := own_form ho2
  have hul : (usesR l).length = l.length := usesK_len l _
  have HC := Lib.hid (once_step g gs gu cap i j l (usesR l) s t w h.edAt hu hul hs hj ht Oz.oRep)
  unfold Oz.oRep at HC
  obtain ⟨z, hz⟩ : ∃ z, z = decide (t.op = Oz.oRep ∧ (usesR l).getD j 0 = 1) := ⟨_, rfl⟩
  have hz' := hz
  unfold Oz.oRep at hz'
  rw [← hz'] at HC
  obtain ⟨R, hR⟩ : ∃ R, R = Oz.lenRepR l i := ⟨_, rfl⟩
  rw [← hR]
  unfold Oz.lenRepR Oz.onceR at hR
  have haj : Oz.arg s 0 = (j : Int) := by unfold Oz.arg; rw [List.getD_eq_getElem?_getD, hj]; rfl
  rw [at_get hs] at hR
  dsimp only at hR
  rw [haj, Int.toNat_natCast, at_get ht] at hR
  obtain ⟨n, hn⟩ : ∃ n, n = l.length := ⟨_, rfl⟩
  rw [← hn] at x0
  have HH := Lib.hid h
  have HN := Lib.hid hn
  have HBB := Lib.hid hb
  have HI : Hid (i < l.length) := Lib.hid hil
  have HJ : Hid (j < l.length) := Lib.hid hjl
  have q0 : (i : Int) < (n : Int) := by omega
  have q1 : (0 : Int) ≤ (i : Int) := by omega
  have q2 : (j : Int) < (n : Int) := by omega
  have q3 : (0 : Int) ≤ (j : Int) := by omega
  have q4 : j < n := by omega
  have q5 : i < n := by omega
  have hgl := h.ed.lt
  have hgsl := h.gs_lt
  have HO2 := Lib.hid ho2
  have HDIS := Lib.hid (own_apart h hv2)
  have HT := Lib.hid ht
  have HS := Lib.hid hs
  have HX0 := Lib.hid x0
  obtain ⟨k2, hk2⟩ : ∃ k2, k2 = t.args.length := ⟨_, rfl⟩
  rw [← hk2] at z1
  have HK2 := Lib.hid hk2
  obtain ⟨X, hX⟩ : ∃ X, X = t.text := ⟨_, rfl⟩
  rw [← hX] at z3
  have HXX := Lib.hid hX
  obtain ⟨op2, hop2⟩ : ∃ op2, op2 = t.op := ⟨_, rfl⟩
  rw [← hop2] at z0
  have HOP2 := Lib.hid hop2
  obtain ⟨num2, hnum2⟩ : ∃ num2, num2 = t.num := ⟨_, rfl⟩
  rw [← hnum2] at z2
  have HNUM2 := Lib.hid hnum2
  obtain ⟨ty2, hty2⟩ : ∃ ty2, ty2 = t.ty := ⟨_, rfl⟩
  rw [← hty2] at z4
  have HTY2 := Lib.hid hty2
  have HZ := Lib.hid hz
  rw [hop, if_neg (by decide)] at hR
  rw [hop] at y0
  unfold Oz.oLen at y0
  obtain rfl : z = true := by rw [hz]; exact decide_eq_true hyes
  have hjbl := (List.getElem?_eq_some_iff.1 htb).1
  obtain ⟨vb, hvb, ⟨y9, _, _, _, _⟩, _⟩ := h.at_ htb
  have q9 : (jb : Int) < (n : Int) := by omega
  have qa : (0 : Int) ≤ (jb : Int) := by omega
  have qb : jb < n := by omega
  have HTB := Lib.hid htb
  have hk3 : 1 ≤ k2 := by have := (List.getElem?_eq_some_iff.1 ht2).1; omega
  have p3 : (0 : Int) < (k2 : Int) := by omega
  have p5 : 0 < k2 := by omega
  obtain ⟨r, c3, hvr, _, hbr, hrl, hcr⟩ := own_at ho2 (by omega)
  injection hvr with hA hkk hcc
  clear hkk
  subst hA hcc
  have b0 : w.cell? ⟨r, 0, none⟩ = some (.int .i64 a) := hcr 0 _ (by rw [List.getElem?_map, ht2]; rfl)
  have ea : Oz.arg t 0 = a := by unfold Oz.arg; rw [List.getD_eq_getElem?_getD, ht2]; rfl
  have hk5 : 2 ≤ k2 := by have := (List.getElem?_eq_some_iff.1 ht3).1; omega
  have p6 : (1 : Int) < (k2 : Int) := by omega
  have p7 : 1 < k2 := by omega
  have b1 : w.cell? ⟨r, 1, none⟩ = some (.int .i64 jb) := hcr 1 _ (by rw [List.getElem?_map, ht3]; rfl)
  have eb : Oz.arg t 1 = (jb : Int) := by unfold Oz.arg; rw [List.getD_eq_getElem?_getD, ht3]; rfl
  have hab := (hb2 t (List.mem_of_getElem? ht)).2 a (List.mem_of_getElem? ht2)
  have hbb := (hb2 t (List.mem_of_getElem? ht)).2 (jb : Int) (List.mem_of_getElem? ht3)
  have HEA := Lib.hid ea
  have HEB := Lib.hid eb
  have HHB0 := Lib.hid b0
  have HHB1 := Lib.hid b1
  have HAB := Lib.hid hab
  have HBBB := Lib.hid hbb
  have HB2' := Lib.hid hb2
  have HZ1 := Lib.hid z1
  clear hcr b0 b1 ea eb ht2 ht3 hb2 hab hbb z0 z1 z2 z3 z4 y1 y2 y3 y4
  rw [if_pos hyes] at hR
  dsimp only at hR
  rw [at_get HT.out, HEA.out, HEB.out, at_get HTB.out] at hR
  have HRN : Hid (R = none) := Lib.hid (by rw [hR, if_pos (.inl hnn)])
  have e9 : (tb.op == [110, 117, 109, 98, 101, 114]) = false := beq_eq_false_iff_ne.2 hnn
  clear hnn
  have HR := Lib.hid hR
  clear htb hvb hyes hjbl h hu hs ht hv ho hv2 ho2 hn hR hz hz' hop haj hj hb hk2 hX hop2 hnum2 hty2 hul
  go_enter Try.func65, Try.ntmps65
  go_wp2_with fail
  refine HC.out.mono ?_
  rintro e w1 ⟨rfl, hb1⟩
  have HB1 := Lib.hid hb1
  clear hb1 HC
  have c0 := (HB1.out.cell (p := ⟨g, 0, none⟩) hgl).trans x0
  have d1 := (HB1.out.cell (p := ⟨gs, _, none⟩) hgsl).trans HZ1.out
  have e1 := (HB1.out.cell (p := ⟨r, 1, none⟩) hrl).trans HHB1.out
  have e2 := (HB1.out.cell (p := ⟨gs, _, none⟩) hgsl).trans y9
  go_wp2_with fail
  go_quiet (fail)
  go_wp2_with fail
  go_ret
  unfold RuEnd
  rw [HRN.out]
  exact ⟨rfl, below_drewN HB1.out _⟩
set_option maxRecDepth 100000 in
set_option maxHeartbeats 8000000 in
theorem lenRep_0 (base g gs gu cap i j : Nat) (l : List St) (vs : List Value) (s t : St) (w : World) (h : EdX w base g gs cap l vs (.slice (some ⟨gu, 0, none⟩) l.length l.length)) (hu : Blk w gu 3 (uarr (usesR l))) (hs : l[i]? = some s) (ht : l[j]? = some t) (hj : s.args[0]? = some (j : Int)) (hji : j < i) (hb : ∀ s ∈ l, s.args.length ≤ 3 ∧ ∀ a ∈ s.args, 0 ≤ a ∧ a ≤ 100000) (hop : s.op = Oz.oLen) (hlt : l.length ≤ 4096) (hb2 : ∀ s ∈ l, s.args.length ≤ 3 ∧ ∀ a ∈ s.args, 0 ≤ a ∧ a ≤ 4096) (a : Int) (jb : Nat) (tb : St) (ht2 : t.args[0]? = some a) (ht3 : t.args[1]? = some (jb : Int)) (htb : l[jb]? = some tb) (hyes : t.op = Oz.oRep ∧ (usesR l).getD j 0 = 1) (hnn : tb.op = nNumber) :
    Calls Try.prog 65 #[.pointer (some ⟨g, 0, none⟩), .int .i64 i] w (RuEnd base g (.slice (some ⟨gu, 0, none⟩) l.length l.length) (Oz.lenRepR l i) w) := by
  have hil := (List.getElem?_eq_some_iff.1 hs).1
  have hjl := (List.getElem?_eq_some_iff.1 ht).1
  have hcap := h.cap
  have hbase := h.base_le
  have x0 := h.ed.cell 0
  simp only [List.getElem?_toArray, List.getElem?_cons_zero] at x0
  obtain ⟨v, hv, ⟨y0, y1, y2, y3, y4⟩, ho⟩ := h.at_ hs
  obtain ⟨A, c, rfl⟩ := own_form ho
  obtain ⟨v2, hv2, ⟨z0, z1, z2, z3, z4⟩, ho2⟩ := h.at_ ht
  obtain ⟨A2, c2, rfl⟩ := own_form ho2
  have hul : (usesR l).length = l.length := usesK_len l _
  have HC := Lib.hid (once_step g gs gu cap i j l (usesR l) s t w h.edAt hu hul hs hj ht Oz.oRep)
  unfold Oz.oRep at HC
  obtain ⟨z, hz⟩ : ∃ z, z = decide (t.op = Oz.oRep ∧ (usesR l).getD j 0 = 1) := ⟨_, rfl⟩
  have hz' := hz
  unfold Oz.oRep at hz'
  rw [← hz'] at HC
  obtain ⟨R, hR⟩ : ∃ R, R = Oz.lenRepR l i := ⟨_, rfl⟩
  rw [← hR]
  unfold Oz.lenRepR Oz.onceR at hR
  have haj : Oz.arg s 0 = (j : Int) := by unfold Oz.arg; rw [List.getD_eq_getElem?_getD, hj]; rfl
  rw [at_get hs] at hR
  dsimp only at hR
  rw [haj, Int.toNat_natCast, at_get ht] at hR
  obtain ⟨n, hn⟩ : ∃ n, n = l.length := ⟨_, rfl⟩
  rw [← hn] at x0
  have HH := Lib.hid h
  have HN := Lib.hid hn
  have HBB := Lib.hid hb
  have HI : Hid (i < l.length) := Lib.hid hil
  have HJ : Hid (j < l.length) := Lib.hid hjl
  have q0 : (i : Int) < (n : Int) := by omega
  have q1 : (0 : Int) ≤ (i : Int) := by omega
  have q2 : (j : Int) < (n : Int) := by omega
  have q3 : (0 : Int) ≤ (j : Int) := by omega
  have q4 : j < n := by omega
  have q5 : i < n := by omega
  have hgl := h.ed.lt
  have hgsl := h.gs_lt
  have HO2 := Lib.hid ho2
  have HDIS := Lib.hid (own_apart h hv2)
  have HT := Lib.hid ht
  have HS := Lib.hid hs
  have HX0 := Lib.hid x0
  obtain ⟨k2, hk2⟩ : ∃ k2, k2 = t.args.length := ⟨_, rfl⟩
  rw [← hk2] at z1
  have HK2 := Lib.hid hk2
  obtain ⟨X, hX⟩ : ∃ X, X = t.text := ⟨_, rfl⟩
  rw [← hX] at z3
  have HXX := Lib.hid hX
  obtain ⟨op2, hop2⟩ : ∃ op2, op2 = t.op := ⟨_, rfl⟩
  rw [← hop2] at z0
  have HOP2 := Lib.hid hop2
  obtain ⟨num2, hnum2⟩ : ∃ num2, num2 = t.num := ⟨_, rfl⟩
  rw [← hnum2] at z2
  have HNUM2 := Lib.hid hnum2
  obtain ⟨ty2, hty2⟩ : ∃ ty2, ty2 = t.ty := ⟨_, rfl⟩
  rw [← hty2] at z4
  have HTY2 := Lib.hid hty2
  have HZ := Lib.hid hz
  rw [hop, if_neg (by decide)] at hR
  rw [hop] at y0
  unfold Oz.oLen at y0
  obtain rfl : z = true := by rw [hz]; exact decide_eq_true hyes
  have hjbl := (List.getElem?_eq_some_iff.1 htb).1
  obtain ⟨vb, hvb, ⟨y9, _, _, _, _⟩, _⟩ := h.at_ htb
  have q9 : (jb : Int) < (n : Int) := by omega
  have qa : (0 : Int) ≤ (jb : Int) := by omega
  have qb : jb < n := by omega
  have HTB := Lib.hid htb
  have hk3 : 1 ≤ k2 := by have := (List.getElem?_eq_some_iff.1 ht2).1; omega
  have p3 : (0 : Int) < (k2 : Int) := by omega
  have p5 : 0 < k2 := by omega
  obtain ⟨r, c3, hvr, _, hbr, hrl, hcr⟩ := own_at ho2 (by omega)
  injection hvr with hA hkk hcc
  clear hkk
  subst hA hcc
  have b0 : w.cell? ⟨r, 0, none⟩ = some (.int .i64 a) := hcr 0 _ (by rw [List.getElem?_map, ht2]; rfl)
  have ea : Oz.arg t 0 = a := by unfold Oz.arg; rw [List.getD_eq_getElem?_getD, ht2]; rfl
  have hk5 : 2 ≤ k2 := by have := (List.getElem?_eq_some_iff.1 ht3).1; omega
  have p6 : (1 : Int) < (k2 : Int) := by omega
  have p7 : 1 < k2 := by omega
  have b1 : w.cell? ⟨r, 1, none⟩ = some (.int .i64 jb) := hcr 1 _ (by rw [List.getElem?_map, ht3]; rfl)
  have eb : Oz.arg t 1 = (jb : Int) := by unfold Oz.arg; rw [List.getD_eq_getElem?_getD, ht3]; rfl
  have hab := (hb2 t (List.mem_of_getElem? ht)).2 a (List.mem_of_getElem? ht2)
  have hbb := (hb2 t (List.mem_of_getElem? ht)).2 (jb : Int) (List.mem_of_getElem? ht3)
  have HEA := Lib.hid ea
  have HEB := Lib.hid eb
  have HHB0 := Lib.hid b0
  have HHB1 := Lib.hid b1
  have HAB := Lib.hid hab
  have HBBB := Lib.hid hbb
  have HB2' := Lib.hid hb2
  have HZ1 := Lib.hid z1
  clear hcr b0 b1 ea eb ht2 ht3 hb2 hab hbb z0 z1 z2 z3 z4 y1 y2 y3 y4
  rw [if_pos hyes] at hR
  dsimp only at hR
  rw [at_get HT.out, HEA.out, HEB.out, at_get HTB.out] at hR
  rw [hnn] at y9
  unfold nNumber at y9
  have hn4 : (n : Int) ≤ 4096 := by omega
  have hn5 : n ≤ 4096 := by omega
  obtain ⟨cb, hcb⟩ : ∃ cb, cb = Oz.canR l i j := ⟨_, rfl⟩
  rw [← hcb] at hR
  have hR3 : R = if cb = false then none else Oz.replaceR ((Oz.insertR l j (Oz.mk [108, 101, 110] [a] 0 [] 1)).set (j + 1) (Oz.mk [42] [(j : Int), (jb : Int)] 0 [] 1)) (i + 1) (j + 1) := by
    rw [hR]
    cases cb with
    | false => rw [if_pos (.inr rfl), if_pos rfl]
    | true => rw [if_neg (by simp [hnn]), if_neg (by decide)]; rfl
  have HR3 := Lib.hid hR3
  have HCB := Lib.hid hcb
  have HRE : Hid (∀ w, EdAt w g gs cap l (.slice (some ⟨gu, 0, none⟩) l.length l.length) → Calls Try.prog 82 #[.pointer (some ⟨g, 0, none⟩), .int .i64 i, .int .i64 j] w fun e w' => e = .returned (.bool cb) ∧ Below w.heap.size w w') := Lib.hid (fun w h => by rw [hcb]; exact replaceable_any g gs cap l _ w h j i hji hil)
  clear hR3 hnn hcb
  have HR := Lib.hid hR
  clear htb hvb hyes hjbl h hu hs ht hv ho hv2 ho2 hn hR hz hz' hop haj hj hb hk2 hX hop2 hnum2 hty2 hul
  go_enter Try.func65, Try.ntmps65
  go_wp2_with fail
  refine HC.out.mono ?_
  rintro e w1 ⟨rfl, hb1⟩
  have HB1 := Lib.hid hb1
  clear hb1 HC
  have c0 := (HB1.out.cell (p := ⟨g, 0, none⟩) hgl).trans x0
  have d1 := (HB1.out.cell (p := ⟨gs, _, none⟩) hgsl).trans HZ1.out
  have e1 := (HB1.out.cell (p := ⟨r, 1, none⟩) hrl).trans HHB1.out
  have e2 := (HB1.out.cell (p := ⟨gs, _, none⟩) hgsl).trans y9
  have HRG : Hid (∀ d os, Calls Try.prog 82 #[.pointer (some ⟨g, 0, none⟩), .int .i64 i, .int .i64 j] (Go.Sort.grow (redrawn w1 d) os) fun e w'' => e = .returned (.bool cb) ∧ ∃ p : Regrown, w'' = Go.Sort.grow (redrawn w1 p.d) p.os) := Lib.hid (fun d os => Calls.regrown_of (HRE.out _ ((HH.out.below HB1.out).edAt.below (below_regrown w1 d os))))
  have k0 := cell_regrown c0
  have k1 := cell_regrown d1
  have k2' := cell_regrown e1
  have k3 := cell_regrown e2
  cases cb with
  | false =>
    have HRN : Hid (R = none) := Lib.hid (by rw [HR3.out, if_pos rfl])
    go_wp2_with fail
    refine wp_region_quiet_below (by kernel_rfl) (by kernel_rfl) ?_
    repeat (go_big_quiet_step ((go_at_call 82; exact HRG.out _ _)))
    refine wpQuiet_nil ?_
    intro _ hw'
    obtain ⟨⟨dq, osq⟩, hw''⟩ := hw'
    subst hw''
    have hq := below_regrown w1 dq osq
    have HB2 := Lib.hid (HB1.out.trans (hq.mono HB1.out.size))
    simp only
    generalize Go.Sort.grow (redrawn w1 dq) osq = w2 at *
    clear hq k0 k1 k2' k3 c0 d1 e1 e2
    go_wp2_with fail
    go_ret
    unfold RuEnd
    rw [HRN.out]
    exact ⟨rfl, HB2.out⟩
  | true =>
  obtain ⟨l1, hl1⟩ : ∃ l1, l1 = Oz.insertR l j (Oz.mk [108, 101, 110] [a] 0 [] 1) := ⟨_, rfl⟩
  obtain ⟨l3, hl3⟩ : ∃ l3, l3 = l1.set (j + 1) (Oz.mk [42] [(j : Int), (jb : Int)] 0 [] 1) := ⟨_, rfl⟩
  have hn1 : l1.length = n + 1 := by rw [hl1, insertR_len, HN.out]
  have hn3 : l3.length = n + 1 := by rw [hl3, List.length_set, hn1]
  have hc3 : Oz.canR l3 (i + 1) (j + 1) = true := by
    rw [hl3, canR_set, hl1, canR_ins l i j _ (Nat.le_of_lt HJ.out)]
    exact HCB.out.symm
  obtain ⟨l9, hl9⟩ := replaceR_some hc3
  have HRN : Hid (R = some l9) := Lib.hid (by
    rw [HR3.out, if_neg (by decide)]
    rw [hl3, hl1] at hl9
    exact hl9)
  have HBD1 : Hid (∀ s ∈ l1, s.args.length ≤ 3 ∧ ∀ a ∈ s.args, 0 ≤ a ∧ a ≤ 4096 + 1) := Lib.hid (by
    rw [hl1]
    exact ins_bd HB2'.out ⟨by show 1 ≤ 3; decide, fun x hx => by have := HAB.out; simp only [Oz.mk, List.mem_cons, List.not_mem_nil, or_false] at hx; omega⟩)
  have HBD3 : Hid (∀ s ∈ l3, s.args.length ≤ 3 ∧ ∀ a ∈ s.args, 0 ≤ a ∧ a ≤ 4096 + 1) := Lib.hid (by
    rw [hl3]
    exact set_bd HBD1.out ⟨by show 2 ≤ 3; decide, fun x hx => by simp only [Oz.mk, List.mem_cons, List.not_mem_nil, or_false] at hx; omega⟩)
  have HL1 := Lib.hid hl1
  have HL3 := Lib.hid hl3
  have HL9 := Lib.hid hl9
  have HN1 := Lib.hid hn1
  have HN3 := Lib.hid hn3
  have hwj : IntKind.i64.wrap ((j : Int) + 1) = (j : Int) + 1 := IntWalk.i64_in _ (by omega)
  have hwi : IntKind.i64.wrap ((i : Int) + 1) = (i : Int) + 1 := IntWalk.i64_in _ (by omega)
  clear hl1 hl3 hl9 hn1 hn3 hc3
  go_wp2_with fail
  refine wp_region_quiet_below (by kernel_rfl) (by kernel_rfl) ?_
  repeat (go_big_quiet_step ((go_at_call 82; exact HRG.out _ _)))
  refine wpQuiet_nil ?_
  intro _ hw'
  obtain ⟨⟨dq, osq⟩, hw''⟩ := hw'
  subst hw''
  have hq := below_regrown w1 dq osq
  have HB2 := Lib.hid (HB1.out.trans (hq.mono HB1.out.size))
  simp only
  generalize Go.Sort.grow (redrawn w1 dq) osq = w2 at *
  clear hq k0 k1 k2' k3 c0 d1 e1 e2
  rw [← HN.out] at HH
  have c0 := (HB2.out.cell (p := ⟨g, 0, none⟩) hgl).trans HX0.out
  have d1 := (HB2.out.cell (p := ⟨gs, _, none⟩) hgsl).trans HZ1.out
  have e0 := (HB2.out.cell (p := ⟨r, 0, none⟩) hrl).trans HHB0.out
  have e1 := (HB2.out.cell (p := ⟨r, 1, none⟩) hrl).trans HHB1.out
  go_wp2_with fail
  go_quiet (fail)
  go_upto_region 7 with (fail)
  obtain ⟨w3, hw3⟩ : ∃ w3, w3 = w2.drewN nq := ⟨_, rfl⟩
  rw [← hw3]
  have HB3 : Hid (Below w.heap.size w w3) := Lib.hid (by rw [hw3]; exact below_drewN HB2.out _)
  clear hw3 c0 d1 e0 e1
  have HE3 := Lib.hid (HH.out.below HB3.out)
  have HF3 := Lib.hid ((FrX.refl base w).below HB3.out hbase)
  go_wp2_with fail
  refine (lenOf_ok a w3).mono ?_
  rintro e w4 ⟨N3, rfl, ho4, hb4⟩
  have hN := (own_lo ho4 rfl).1
  have HEE4 := Lib.hid (HE3.out.below hb4)
  have HF4 := Lib.hid (HF3.out.below hb4 HE3.out.base_le)
  have HIN := Lib.hid (insert_any base g gs cap j l vs (.slice (some ⟨gu, 0, none⟩) n n) w4 HEE4.out (HJ.out) (by have := HN.out; omega) (bd_le HB2'.out (by omega)) [108, 101, 110] [a] 0 [] 1 (.slice (some ⟨N3, 0, none⟩) 1 1) (ho4.mono HE3.out.base_le) (fresh_apart HE3.out hN 1 1))
  clear ho4 hb4 hN
  go_wp2_with fail
  refine HIN.out.mono ?_
  rintro e w5 ⟨rfl, ⟨gs5, cap5, he5⟩, hf5⟩
  have HF5 := Lib.hid (HF4.out.trans hf5)
  rw [← HL1.out] at he5
  have HE5 := Lib.hid he5
  clear he5 hf5 HIN HEE4 HF4 HE3 HF3
  obtain ⟨vs5, hvs5⟩ : ∃ vs5, vs5 = vs.take j ++ .slice (some ⟨N3, 0, none⟩) 1 1 :: vs.drop j := ⟨_, rfl⟩
  rw [← hvs5] at HE5
  clear hvs5
  obtain ⟨t9, ht9⟩ : ∃ t9, l1[j + 1]? = some t9 := ⟨_, List.getElem?_eq_getElem (by rw [HN1.out]; omega)⟩
  obtain ⟨v9, hv9, ⟨d0, d1, d2, d3, d4⟩, ho9⟩ := HE5.out.at_ ht9
  obtain ⟨A9, c9, rfl⟩ := own_form ho9
  have c0 := HE5.out.ed.cell 0
  simp only [List.getElem?_toArray, List.getElem?_cons_zero] at c0
  rw [HN1.out] at c0
  obtain ⟨f0, f1, f2, f3, f4⟩ : w5.frozen? ⟨gs5, (j + 1) * 5, none⟩ = false ∧ w5.frozen? ⟨gs5, (j + 1) * 5 + 1, none⟩ = false ∧ w5.frozen? ⟨gs5, (j + 1) * 5 + 2, none⟩ = false ∧ w5.frozen? ⟨gs5, (j + 1) * 5 + 3, none⟩ = false ∧ w5.frozen? ⟨gs5, (j + 1) * 5 + 4, none⟩ = false := by
    obtain ⟨cs, e1, _⟩ := HE5.out.blk
    exact ⟨e1.frozen _, e1.frozen _, e1.frozen _, e1.frozen _, e1.frozen _⟩
  have hp := HE5.out.putNew (i := j + 1) (by rw [HN1.out]; omega) (Oz.mk [42] [(j : Int), (jb : Int)] 0 [] 1) (by show 2 ≤ 100; decide)
  rw [← HL3.out] at hp
  have HP := Lib.hid hp.1
  have HF := Lib.hid (HF5.out.trans hp.2)
  have hg1 := HE5.out.gs_lt
  have hg2 := HE5.out.ed.lt
  have q6 : (j : Int) + 1 < (n : Int) + 1 := by omega
  have q7 : (0 : Int) ≤ (j : Int) + 1 := by omega
  have q8 : ((j : Int) + 1).toNat = j + 1 := by omega
  clear hp ht9 hv9 ho9
  have HRP := Lib.hid (replace_any base g gs5 cap5 (i + 1) (j + 1) l3 _ _ _ HP.out (by omega) (by rw [HN3.out]; have := HI.out; have := HN.out; omega) (bd_le HBD3.out (by omega)))
  rw [HL9.out, show ((i + 1 : Nat) : Int) = (i : Int) + 1 by omega, show ((j + 1 : Nat) : Int) = (j : Int) + 1 by omega] at HRP
  go_upto_region 9 with (fail)
  clear c0 d0 d1 d2 d3 d4 f0 f1 f2 f3 f4
  go_wp2_with fail
  refine HRP.out.mono ?_
  intro e w9 h9
  have h9 : e = .returned (.bool true) ∧ (∃ vs9, EdX w9 base g gs5 cap5 l9 vs9 (.slice (some ⟨gu, 0, none⟩) n n)) ∧ FrX base _ w9 := h9
  obtain ⟨rfl, ⟨vs9, he9⟩, hf9⟩ := h9
  have HE9 := Lib.hid he9
  have HF9 := Lib.hid (HF.out.trans hf9)
  clear he9 hf9 HRP HP HF
  go_wp2_with fail
  go_ret
  unfold RuEnd
  rw [HRN.out, ← HN.out]
  exact ⟨rfl, ⟨_, _, _, HE9.out⟩, HF9.out⟩
set_option maxRecDepth 100000 in
theorem lenSum_no (base g gs cap i : Nat) (l : List St) (vs : List Value) (V : Value) (s : St) (w : World) (h : EdX w base g gs cap l vs V) (hs : l[i]? = some s) (hop : s.op ≠ Oz.oLen) :
    Calls Try.prog 64 #[.pointer (some ⟨g, 0, none⟩), .int .i64 i] w (RuEnd base g V (Oz.lenSumR l i) w) := by
  have hil := (List.getElem?_eq_some_iff.1 hs).1
  have x0 := h.ed.cell 0
  simp only [List.getElem?_toArray, List.getElem?_cons_zero] at x0
  obtain ⟨v, hv, ⟨y0, y1, y2, y3, y4⟩, ho⟩ := h.at_ hs
  obtain ⟨R, hR⟩ : ∃ R, R = Oz.lenSumR l i := ⟨_, rfl⟩
  rw [← hR]
  unfold Oz.lenSumR at hR
  rw [at_get hs] at hR
  have HRN : Hid (R = none) := Lib.hid (by rw [hR, if_pos (.inl hop)])
  obtain ⟨n, hn⟩ : ∃ n, n = l.length := ⟨_, rfl⟩
  rw [← hn] at hil x0
  have q0 : (i : Int) < (n : Int) := by omega
  have q1 : (0 : Int) ≤ (i : Int) := by omega
  have e1 : (s.op == [108, 101, 110]) = false := beq_eq_false_iff_ne.2 hop
  clear h hs hv ho hn hR hop
  go_enter Try.func64, Try.ntmps64
  go_wp2_with fail
  go_ret
  unfold RuEnd
  rw [HRN.out]
  exact ⟨rfl, Below.refl _ _⟩
set_option maxRecDepth 100000 in
theorem lenRep_no (base g gs cap i : Nat) (l : List St) (vs : List Value) (V : Value) (s : St) (w : World) (h : EdX w base g gs cap l vs V) (hs : l[i]? = some s) (hop : s.op ≠ Oz.oLen) :
    Calls Try.prog 65 #[.pointer (some ⟨g, 0, none⟩), .int .i64 i] w (RuEnd base g V (Oz.lenRepR l i) w) := by
  have hil := (List.getElem?_eq_some_iff.1 hs).1
  have x0 := h.ed.cell 0
  simp only [List.getElem?_toArray, List.getElem?_cons_zero] at x0
  obtain ⟨v, hv, ⟨y0, y1, y2, y3, y4⟩, ho⟩ := h.at_ hs
  obtain ⟨R, hR⟩ : ∃ R, R = Oz.lenRepR l i := ⟨_, rfl⟩
  rw [← hR]
  unfold Oz.lenRepR at hR
  rw [at_get hs] at hR
  have HRN : Hid (R = none) := Lib.hid (by rw [hR, if_pos (hop)])
  obtain ⟨n, hn⟩ : ∃ n, n = l.length := ⟨_, rfl⟩
  rw [← hn] at hil x0
  have q0 : (i : Int) < (n : Int) := by omega
  have q1 : (0 : Int) ≤ (i : Int) := by omega
  have e1 : (s.op == [108, 101, 110]) = false := beq_eq_false_iff_ne.2 hop
  clear h hs hv ho hn hR hop
  go_enter Try.func65, Try.ntmps65
  go_wp2_with fail
  go_ret
  unfold RuEnd
  rw [HRN.out]
  exact ⟨rfl, Below.refl _ _⟩
set_option maxRecDepth 100000 in
set_option maxHeartbeats 4000000 in
theorem lenSum_1 (base g gs gu cap i j : Nat) (l : List St) (vs : List Value) (s t : St) (w : World) (h : EdX w base g gs cap l vs (.slice (some ⟨gu, 0, none⟩) l.length l.length)) (hu : Blk w gu 3 (uarr (usesR l))) (hs : l[i]? = some s) (ht : l[j]? = some t) (hj : s.args[0]? = some (j : Int)) (_hji : j < i) (hb : ∀ s ∈ l, s.args.length ≤ 3 ∧ ∀ a ∈ s.args, 0 ≤ a ∧ a ≤ 100000) (hop : s.op = Oz.oLen) (hlt : l.length < 4096) (hno : t.op ≠ Oz.oCat) :
    Calls Try.prog 64 #[.pointer (some ⟨g, 0, none⟩), .int .i64 i] w (RuEnd base g (.slice (some ⟨gu, 0, none⟩) l.length l.length) (Oz.lenSumR l i) w) := by
  have hil := (List.getElem?_eq_some_iff.1 hs).1
  have hjl := (List.getElem?_eq_some_iff.1 ht).1
  have hcap := h.cap
  have hbase := h.base_le
  have x0 := h.ed.cell 0
  simp only [List.getElem?_toArray, List.getElem?_cons_zero] at x0
  obtain ⟨v, hv, ⟨y0, y1, y2, y3, y4⟩, ho⟩ := h.at_ hs
  obtain ⟨A, c, rfl⟩ := own_form ho
  obtain ⟨v2, hv2, ⟨z0, z1, z2, z3, z4⟩, ho2⟩ := h.at_ ht
  obtain ⟨A2, c2, rfl⟩ := own_form ho2
  have hul : (usesR l).length = l.length := usesK_len l _
  have HC := Lib.hid (once_step g gs gu cap i j l (usesR l) s t w h.edAt hu hul hs hj ht Oz.oCat)
  unfold Oz.oCat at HC
  obtain ⟨z, hz⟩ : ∃ z, z = decide (t.op = Oz.oCat ∧ (usesR l).getD j 0 = 1) := ⟨_, rfl⟩
  have hz' := hz
  unfold Oz.oCat at hz'
  rw [← hz'] at HC
  obtain ⟨R, hR⟩ : ∃ R, R = Oz.lenSumR l i := ⟨_, rfl⟩
  rw [← hR]
  unfold Oz.lenSumR Oz.onceR at hR
  have haj : Oz.arg s 0 = (j : Int) := by unfold Oz.arg; rw [List.getD_eq_getElem?_getD, hj]; rfl
  rw [at_get hs] at hR
  dsimp only at hR
  rw [haj, Int.toNat_natCast, at_get ht] at hR
  obtain ⟨n, hn⟩ : ∃ n, n = l.length := ⟨_, rfl⟩
  rw [← hn] at x0
  have HH := Lib.hid h
  have HN := Lib.hid hn
  have HBB := Lib.hid hb
  have HI : Hid (i < l.length) := Lib.hid hil
  have HJ : Hid (j < l.length) := Lib.hid hjl
  have q0 : (i : Int) < (n : Int) := by omega
  have q1 : (0 : Int) ≤ (i : Int) := by omega
  have q2 : (j : Int) < (n : Int) := by omega
  have q3 : (0 : Int) ≤ (j : Int) := by omega
  have q4 : j < n := by omega
  have q5 : i < n := by omega
  have hgl := h.ed.lt
  have hgsl := h.gs_lt
  have HO2 := Lib.hid ho2
  have HDIS := Lib.hid (own_apart h hv2)
  have HT := Lib.hid ht
  have HS := Lib.hid hs
  have HX0 := Lib.hid x0
  obtain ⟨k2, hk2⟩ : ∃ k2, k2 = t.args.length := ⟨_, rfl⟩
  rw [← hk2] at z1
  have HK2 := Lib.hid hk2
  obtain ⟨X, hX⟩ : ∃ X, X = t.text := ⟨_, rfl⟩
  rw [← hX] at z3
  have HXX := Lib.hid hX
  obtain ⟨op2, hop2⟩ : ∃ op2, op2 = t.op := ⟨_, rfl⟩
  rw [← hop2] at z0
  have HOP2 := Lib.hid hop2
  obtain ⟨num2, hnum2⟩ : ∃ num2, num2 = t.num := ⟨_, rfl⟩
  rw [← hnum2] at z2
  have HNUM2 := Lib.hid hnum2
  obtain ⟨ty2, hty2⟩ : ∃ ty2, ty2 = t.ty := ⟨_, rfl⟩
  rw [← hty2] at z4
  have HTY2 := Lib.hid hty2
  have HZ := Lib.hid hz
  rw [hop, if_neg (by simp only [not_or]; exact ⟨by decide, by omega⟩)] at hR
  rw [hop] at y0
  unfold Oz.oLen at y0
  have hn4 : (n : Int) < 4096 := by omega
  have hn5 : n < 4096 := by omega
  obtain rfl : z = false := by rw [hz]; exact decide_eq_false (fun e => hno e.1)
  have HR := Lib.hid hR
  clear h hu hs ht hv ho hv2 ho2 hn hR hz hz' hop haj hj hb hk2 hX hop2 hnum2 hty2 hul
  go_enter Try.func64, Try.ntmps64
  go_wp2_with fail
  refine HC.out.mono ?_
  rintro e w1 ⟨rfl, hb1⟩
  have HB1 := Lib.hid hb1
  clear hb1 HC x0 y0
  have hz := of_decide_eq_false HZ.out.symm
  have HRN : Hid (R = none) := Lib.hid (by rw [HR.out, if_neg hz])
  clear hz
  go_wp2_with fail
  go_ret
  unfold RuEnd
  rw [HRN.out]
  exact ⟨rfl, HB1.out⟩
set_option maxRecDepth 100000 in
theorem lenSum_big (base g gs cap i : Nat) (l : List St) (vs : List Value) (V : Value) (s : St) (w : World) (h : EdX w base g gs cap l vs V) (hs : l[i]? = some s) (hop : s.op = Oz.oLen) (hbig : 4096 ≤ l.length) :
    Calls Try.prog 64 #[.pointer (some ⟨g, 0, none⟩), .int .i64 i] w (RuEnd base g V (Oz.lenSumR l i) w) := by
  have hil := (List.getElem?_eq_some_iff.1 hs).1
  have x0 := h.ed.cell 0
  simp only [List.getElem?_toArray, List.getElem?_cons_zero] at x0
  obtain ⟨v, hv, ⟨y0, y1, y2, y3, y4⟩, ho⟩ := h.at_ hs
  obtain ⟨R, hR⟩ : ∃ R, R = Oz.lenSumR l i := ⟨_, rfl⟩
  rw [← hR]
  unfold Oz.lenSumR at hR
  have HRN : Hid (R = none) := Lib.hid (by rw [hR, if_pos (.inr hbig)])
  rw [hop] at y0
  unfold Oz.oLen at y0
  obtain ⟨n, hn⟩ : ∃ n, n = l.length := ⟨_, rfl⟩
  rw [← hn] at hil x0
  have q0 : (i : Int) < (n : Int) := by omega
  have q1 : (0 : Int) ≤ (i : Int) := by omega
  have q2 : (4096 : Int) ≤ (n : Int) := by omega
  clear h hs hv ho hn hR hop hbig
  go_enter Try.func64, Try.ntmps64
  go_wp2_with fail
  go_ret
  unfold RuEnd
  rw [HRN.out]
  exact ⟨rfl, Below.refl _ _⟩
theorem lenSum_any (base g gs gu cap i : Nat) (l : List St) (vs : List Value) (s : St) (w : World) (h : EdX w base g gs cap l vs (.slice (some ⟨gu, 0, none⟩) l.length l.length)) (hu : Blk w gu 3 (uarr (usesR l))) (hs : l[i]? = some s) (hc : checkR l = 0) :
    Calls Try.prog 64 #[.pointer (some ⟨g, 0, none⟩), .int .i64 i] w (RuEnd base g (.slice (some ⟨gu, 0, none⟩) l.length l.length) (Oz.lenSumR l i) w) := by
  by_cases hop : s.op = Oz.oLen
  · by_cases hbig : 4096 ≤ l.length
    · exact lenSum_big base g gs cap i l vs _ s w h hs hop hbig
    · have hal := ok_arity hc hs 1 (by rw [hop]; kernel_rfl)
      obtain ⟨j, t, hj, hji, ht, _, _⟩ := ok_at hc hs (k := 0) (by omega)
      by_cases hz : t.op = Oz.oCat
      · have hal2 := ok_arity hc ht 2 (by rw [hz]; kernel_rfl)
        obtain ⟨a, _, ha, _⟩ := ok_at hc ht (k := 0) (by omega)
        obtain ⟨b, _, hb, _⟩ := ok_at hc ht (k := 1) (by omega)
        exact lenSum_0 base g gs gu cap i j l vs s t w h hu hs ht hj hji (ok_bd hc) hop (by omega) (fun s hs => ⟨(ok_bd2 hc s hs).1, fun a ha => by have := (ok_bd2 hc s hs).2 a ha; omega⟩) a b ha hb
      · exact lenSum_1 base g gs gu cap i j l vs s t w h hu hs ht hj hji (ok_bd hc) hop (by omega) hz
  · exact lenSum_no base g gs cap i l vs _ s w h hs hop
theorem lenRep_any (base g gs gu cap i : Nat) (l : List St) (vs : List Value) (s : St) (w : World) (h : EdX w base g gs cap l vs (.slice (some ⟨gu, 0, none⟩) l.length l.length)) (hu : Blk w gu 3 (uarr (usesR l))) (hs : l[i]? = some s) (hc : checkR l = 0) :
    Calls Try.prog 65 #[.pointer (some ⟨g, 0, none⟩), .int .i64 i] w (RuEnd base g (.slice (some ⟨gu, 0, none⟩) l.length l.length) (Oz.lenRepR l i) w) := by
  by_cases hop : s.op = Oz.oLen
  · have hal := ok_arity hc hs 1 (by rw [hop]; kernel_rfl)
    obtain ⟨j, t, hj, hji, ht, _, _⟩ := ok_at hc hs (k := 0) (by omega)
    have hle := (checkR_zero hc).2.1
    by_cases hz : t.op = Oz.oRep ∧ (usesR l).getD j 0 = 1
    · have hal2 := ok_arity hc ht 2 (by rw [hz.1]; kernel_rfl)
      obtain ⟨a, _, ha, _⟩ := ok_at hc ht (k := 0) (by omega)
      obtain ⟨jb, tb, hb, _, htb, _, _⟩ := ok_at hc ht (k := 1) (by omega)
      have hbd : ∀ s ∈ l, s.args.length ≤ 3 ∧ ∀ a ∈ s.args, 0 ≤ a ∧ a ≤ 4096 := fun s hs => ⟨(ok_bd2 hc s hs).1, fun a ha => by have := (ok_bd2 hc s hs).2 a ha; omega⟩
      by_cases hnn : tb.op = nNumber
      · exact lenRep_0 base g gs gu cap i j l vs s t w h hu hs ht hj hji (ok_bd hc) hop hle hbd a jb tb ha hb htb hz hnn
      · exact lenRep_2 base g gs gu cap i j l vs s t w h hu hs ht hj hji (ok_bd hc) hop hle hbd a jb tb ha hb htb hz hnn
    · exact lenRep_1 base g gs gu cap i j l vs s t w h hu hs ht hj hji (ok_bd hc) hop hz
  · exact lenRep_no base g gs cap i l vs _ s w h hs hop
end Go.Proofs.Ytniefnjcimempaa
