/- The walks of optimize's rules matches, lenCut, firstFind at any step (printed by gen_ozl.py). -/
import Derived.Test.YtamhdmkolfmmdaaGreatDoorsax
import Derived.Test.YtamhdmkolfmmdaaGreatDoorsaa
set_option linter.unusedVariables false
set_option linter.unusedSimpArgs false
namespace Go.Proofs.YtamhdmkolfmmdaaGreatDoor
open Go.RowKit
set_option maxRecDepth 100000
set_option maxHeartbeats 8000000
theorem z15 {P : Prop} (h : P := by
 have hz := of_decide_eq_false HZ.out.symm
 have HRN : Hid (R = none) := hD (by rw [HR.out, if_neg hz])
 clear hz
 go_wp2_with fail
 go_ret
 unfold RepEnd
 rw [HRN.out]
 exact ⟨rfl, HB1.out⟩) : P := h
theorem z24 {P : Prop} (h : P := by
 have HRN : Hid (R = none) := hD (by rw [HR3.out, if_pos rfl])
 go_wp2_with fail
 go_ret
 unfold RepEnd
 rw [HRN.out]
 exact ⟨rfl, HB2.out⟩) : P := h
theorem y85 {P : Prop} (h : P := by
 have hil := (gH hs).1
 have hjl := (gH ht).1
 have hcap := h.cap
 have hbase := h.base_le
 have x0 := h.ed.cell 0
 simp only [gA, gB, gC] at x0
 obtain ⟨v, hv, ⟨y0, y1, y2, y3, y4⟩, ho⟩ := h.at_ hs
 obtain ⟨A, c, rfl⟩ := kak ho
 obtain ⟨v2, hv2, ⟨z0, z1, z2, z3, z4⟩, ho2⟩ := h.at_ ht
 obtain ⟨A2, c2, rfl⟩ := kak ho2
 have hul : (kag l).length = l.length := kb4 l _
 first
 | guard_hyp t528q0
   first
   | guard_hyp t16q2
     have HC := hD (kcq g gs gu cap i j l (kag l) s t w h.edAt hu hul hs hj ht Oz.oRep)
     unfold Oz.oRep at HC
     obtain ⟨z, hz⟩ := xE (decide (t.op = Oz.oRep ∧ (kag l).getD j 0 = 1))
   | guard_hyp t16q4
     have HC := hD (kcq g gs gu cap i j l (kag l) s t w h.edAt hu hul hs hj ht Oz.oCut)
     unfold Oz.oCut at HC
     obtain ⟨z, hz⟩ := xE (decide (t.op = Oz.oCut ∧ (kag l).getD j 0 = 1))
   | (first | guard_hyp t16q0 | guard_hyp t16q1)
     have HC := hD (kcq g gs gu cap i j l (kag l) s t w h.edAt hu hul hs hj ht Oz.oCat)
     unfold Oz.oCat at HC
     obtain ⟨z, hz⟩ := xE (decide (t.op = Oz.oCat ∧ (kag l).getD j 0 = 1))
   | have HC := hD (kcq g gs gu cap i j l (kag l) s t w h.edAt hu hul hs hj ht Oz.oFind)
     unfold Oz.oFind at HC
     obtain ⟨z, hz⟩ := xE (decide (t.op = Oz.oFind ∧ (kag l).getD j 0 = 1))
   have hz' := hz
   first
   | guard_hyp t16q2
     unfold Oz.oRep at hz'
   | guard_hyp t16q4
     unfold Oz.oCut at hz'
   | (first | guard_hyp t16q0 | guard_hyp t16q1)
     unfold Oz.oCat at hz'
   | unfold Oz.oFind at hz'
   rw [← hz'] at HC
   first
   | guard_hyp t16q2
     obtain ⟨R, hR⟩ := xE (Oz.lenRepR l i)
   | guard_hyp t16q3
     obtain ⟨R, hR⟩ := xE (Oz.firstFindR l i)
   | guard_hyp t16q4
     obtain ⟨R, hR⟩ := xE (Oz.lenCutR l i)
   | guard_hyp t16q5
     obtain ⟨R, hR⟩ := xE (Oz.matchesR l i)
   | obtain ⟨R, hR⟩ := xE (Oz.lenSumR l i)
   rw [← hR]
   first
   | guard_hyp t16q2
     unfold Oz.lenRepR Oz.onceR at hR
   | guard_hyp t16q3
     unfold Oz.firstFindR Oz.onceR at hR
   | guard_hyp t16q4
     unfold Oz.lenCutR Oz.onceR at hR
   | guard_hyp t16q5
     unfold Oz.matchesR Oz.onceR at hR
   | unfold Oz.lenSumR Oz.onceR at hR
   have t498q0 := True.intro
   exact y55
 | have HC := hD (kcq g gs gu cap i j l (kag l) s t w h.edAt hu hul hs hj ht Oz.oRep)
   unfold Oz.oRep at HC
   obtain ⟨z, hz⟩ := xE (decide (t.op = Oz.oRep ∧ (kag l).getD j 0 = 1))
   have hz' := hz
   unfold Oz.oRep at hz'
   rw [← hz'] at HC
   obtain ⟨R, hR⟩ := xE (Oz.lenRepR l i)
   rw [← hR]
   unfold Oz.lenRepR Oz.onceR at hR
   exact y55) : P := h
theorem y55 {P : Prop} (h : P := by
 have haj : Oz.arg s 0 = (j : Int) := by unfold Oz.arg; rw [List.getD_eq_getElem?_getD, hj]; rfl
 rw [kad hs] at hR
 dsimp only at hR
 rw [haj, Int.toNat_natCast, kad ht] at hR
 obtain ⟨n, hn⟩ := xE l.length
 rw [← hn] at x0
 have HH := hD h
 have HN := hD hn
 have HBB := hD hb
 have HI : Hid (i < l.length) := hD hil
 have HJ : Hid (j < l.length) := hD hjl
 have q0 : (i : Int) < (n : Int) := by omega
 have q1 : (0 : Int) ≤ (i : Int) := by omega
 have q2 : (j : Int) < (n : Int) := by omega
 have q3 : (0 : Int) ≤ (j : Int) := by omega
 have q4 : j < n := by omega
 have q5 : i < n := by omega
 have hgl := h.ed.lt
 have hgsl := h.gs_lt
 have HO2 := hD ho2
 have HDIS := hD (kgz h hv2)
 have HT := hD ht
 have HS := hD hs
 have HX0 := hD x0
 obtain ⟨k2, hk2⟩ := xE t.args.length
 rw [← hk2] at z1
 have HK2 := hD hk2
 obtain ⟨X, hX⟩ := xE t.text
 rw [← hX] at z3
 have HXX := hD hX
 obtain ⟨op2, hop2⟩ := xE t.op
 rw [← hop2] at z0
 have HOP2 := hD hop2
 obtain ⟨num2, hnum2⟩ := xE t.num
 rw [← hnum2] at z2
 have HNUM2 := hD hnum2
 obtain ⟨ty2, hty2⟩ := xE t.ty
 rw [← hty2] at z4
 have HTY2 := hD hty2
 have HZ := hD hz
 first
 | guard_hyp t498q0
   first
   | (first | guard_hyp t16q0 | guard_hyp t16q1)
     rw [hop, if_neg (by simp only [not_or]; exact ⟨by decide, by omega⟩)] at hR
   | rw [hop, if_neg (by decide)] at hR
   rw [hop] at y0
   first
   | guard_hyp t16q0
     unfold Oz.oLen at y0
     have hn4 : (n : Int) < 4096 := by omega
     have hn5 : n < 4096 := by omega
     have hk3 : 1 ≤ k2 := by have := (gH ht2).1; omega
     have p3 : (0 : Int) < (k2 : Int) := by omega
     have p5 : 0 < k2 := by omega
     obtain ⟨r, c3, hvr, _, hbr, hrl, hcr⟩ := ka8 ho2 (by omega)
     injection hvr with hA hkk hcc
     clear hkk
     subst hA hcc
     have b0 : w.cell? ⟨r, 0, none⟩ = some (.int .i64 a) := hcr 0 _ (by rw [List.getElem?_map, ht2]; rfl)
     have ea : Oz.arg t 0 = a := by unfold Oz.arg; rw [List.getD_eq_getElem?_getD, ht2]; rfl
     have hk5 : 2 ≤ k2 := by have := (gH ht3).1; omega
     have p6 : (1 : Int) < (k2 : Int) := by omega
     have p7 : 1 < k2 := by omega
     have b1 : w.cell? ⟨r, 1, none⟩ = some (.int .i64 b) := hcr 1 _ (by rw [List.getElem?_map, ht3]; rfl)
     have eb : Oz.arg t 1 = b := by unfold Oz.arg; rw [List.getD_eq_getElem?_getD, ht3]; rfl
     have hab := (hb2 t (List.mem_of_getElem? ht)).2 a (List.mem_of_getElem? ht2)
     have hbb := (hb2 t (List.mem_of_getElem? ht)).2 b (List.mem_of_getElem? ht3)
     have HEA := hD ea
     have HEB := hD eb
     have HHB0 := hD b0
     have HHB1 := hD b1
     have HAB := hD hab
     have HBBB := hD hbb
     have HB2' := hD hb2
     have HZ1 := hD z1
     clear hcr b0 b1 ea eb ht2 ht3 hb2 hab hbb z0 z1 z2 z3 z4 y1 y2 y3 y4
   | guard_hyp t16q1
     unfold Oz.oLen at y0
     have hn4 : (n : Int) < 4096 := by omega
     have hn5 : n < 4096 := by omega
     obtain rfl : z = false := by rw [hz]; exact decide_eq_false (fun e => hno e.1)
   | guard_hyp t16q2
     unfold Oz.oLen at y0
     obtain rfl : z = false := by rw [hz]; exact decide_eq_false hno
   | guard_hyp t16q3
     unfold Oz.oFirst at y0
     obtain rfl : z = false := by rw [hz]; exact decide_eq_false (fun e => hno e.1)
   | guard_hyp t16q4
     unfold Oz.oLen at y0
   | unfold Oz.oSize at y0
   have HR := hD hR
   clear h hu hs ht hv ho hv2 ho2 hn hR hz hz' hop haj hj hb hk2 hX hop2 hnum2 hty2 hul
   first
   | guard_hyp t16q2
     go_enter Tryz.func76, Tryz.ntmps76
   | guard_hyp t16q3
     go_enter Tryz.func73, Tryz.ntmps73
   | guard_hyp t16q4
     go_enter Tryz.func74, Tryz.ntmps74
   | guard_hyp t16q5
     go_enter Tryz.func72, Tryz.ntmps72
   | go_enter Tryz.func75, Tryz.ntmps75
   go_wp2_with fail
   refine HC.out.mono ?_
   rintro e w1 ⟨rfl, hb1⟩
   have HB1 := hD hb1
   clear hb1 HC x0 y0
   first
   | guard_hyp t16q0
     cases z with
     | false =>
      have hz := of_decide_eq_false HZ.out.symm
      have HRN : Hid (R = none) := hD (by rw [HR.out, if_neg hz])
      clear hz
      go_wp2_with fail
      go_ret
      unfold kax
      rw [HRN.out]
      exact ⟨rfl, HB1.out⟩
     | true =>
     have hz := of_decide_eq_true HZ.out.symm
     have HRE : Hid (∀ w, EdAt w g gs cap l (.slice (some ⟨gu, 0, none⟩) l.length l.length) → Calls Tryz.prog 118 #[.pointer (some ⟨g, 0, none⟩), .int .i64 i, .int .i64 j] w fun e w' => e = .returned (.bool (Oz.canR l i j)) ∧ Below w.heap.size w w') := hD (fun w h => kbz g gs cap l _ w h j i hji HI.out)
     obtain ⟨cb, hcb⟩ := xE (Oz.canR l i j)
     rw [← hcb] at HRE
     have HR2 := HR.out
     rw [if_pos hz] at HR2
     dsimp only at HR2
     rw [← hcb, kad HT.out] at HR2
     have HR3 := hD HR2
     have HCB := hD hcb
     clear hz HR2 hcb
     go_wp2_with fail
     refine (HRE.out w1 (HH.out.below HB1.out).edAt).mono ?_
     rintro e w2 ⟨rfl, hb2⟩
     have HB2 := hD (HB1.out.trans (hb2.mono HB1.out.size))
     clear hb2 HRE
     cases cb with
     | false =>
      have HRN : Hid (R = none) := hD (by rw [HR3.out, if_pos rfl])
      go_wp2_with fail
      go_ret
      unfold kax
      rw [HRN.out]
      exact ⟨rfl, HB2.out⟩
     | true =>
     obtain ⟨l1, hl1⟩ := xE (Oz.insertR l j (Oz.mk [108, 101, 110] [a] 0 [] 1))
     obtain ⟨l2, hl2⟩ := xE (Oz.insertR l1 (j + 1) (Oz.mk [108, 101, 110] [b] 0 [] 1))
     obtain ⟨l3, hl3⟩ := xE (l2.set (j + 2) (Oz.mk [43] [(j : Int), (j : Int) + 1] 0 [] 1))
     have hn1 : l1.length = n + 1 := by rw [hl1, kaQ, HN.out]
     have hn2 : l2.length = n + 2 := by rw [hl2, kaQ, hn1]
     have hn3 : l3.length = n + 2 := by rw [hl3, List.length_set, hn2]
     have hc3 : Oz.canR l3 (i + 2) (j + 2) = true := by
      rw [hl3, kb7, hl2, kcO l1 (i + 1) (j + 1) _ (by omega), hl1, kcO l i j _ (Nat.le_of_lt HJ.out)]
      exact HCB.out.symm
     obtain ⟨l9, hl9⟩ := kcm hc3
     have HRN : Hid (R = some l9) := hD (by
      rw [HR3.out, if_neg (by decide), HEA.out, HEB.out]
      rw [hl3, hl2, hl1] at hl9
      exact hl9)
     have HBD1 : Hid (∀ s ∈ l1, s.args.length ≤ 3 ∧ ∀ a ∈ s.args, 0 ≤ a ∧ a ≤ 4096 + 1) := hD (by
      rw [hl1]
      exact kh2 HB2'.out ⟨by show 1 ≤ 3; decide, fun x hx => by have := HAB.out; simp only [Oz.mk, List.mem_cons, List.not_mem_nil, or_false] at hx; omega⟩)
     have HBD2 : Hid (∀ s ∈ l2, s.args.length ≤ 3 ∧ ∀ a ∈ s.args, 0 ≤ a ∧ a ≤ 4096 + 1 + 1) := hD (by
      rw [hl2]
      exact kh2 HBD1.out ⟨by show 1 ≤ 3; decide, fun x hx => by have := HBBB.out; simp only [Oz.mk, List.mem_cons, List.not_mem_nil, or_false] at hx; omega⟩)
     have HBD3 : Hid (∀ s ∈ l3, s.args.length ≤ 3 ∧ ∀ a ∈ s.args, 0 ≤ a ∧ a ≤ 4096 + 1 + 1) := hD (by
      rw [hl3]
      exact set_bd HBD2.out ⟨by show 2 ≤ 3; decide, fun x hx => by simp only [Oz.mk, List.mem_cons, List.not_mem_nil, or_false] at hx; omega⟩)
     have HL1 := hD hl1
     have HL2 := hD hl2
     have HL3 := hD hl3
     have HL9 := hD hl9
     have HN1 := hD hn1
     have HN2 := hD hn2
     have HN3 := hD hn3
     have ej1 : ((j + 1 : Nat) : Int) = (j : Int) + 1 := by omega
     have hwj : IntKind.i64.wrap ((j : Int) + 1) = (j : Int) + 1 := IntWalk.i64_in _ (by omega)
     have hwj2 : IntKind.i64.wrap ((j : Int) + 2) = (j : Int) + 2 := IntWalk.i64_in _ (by omega)
     have hwi2 : IntKind.i64.wrap ((i : Int) + 2) = (i : Int) + 2 := IntWalk.i64_in _ (by omega)
     have HEJ1 := hD ej1
     clear hl1 hl2 hl3 hl9 hn1 hn2 hn3 hc3 ej1
     have HB2N := HB2'
     rw [← HN.out] at HH
     have c0 := (HB2.out.cell (p := ⟨g, 0, none⟩) hgl).trans HX0.out
     have d1 := (HB2.out.cell (p := ⟨gs, _, none⟩) hgsl).trans HZ1.out
     have e0 := (HB2.out.cell (p := ⟨r, 0, none⟩) hrl).trans HHB0.out
     have e1 := (HB2.out.cell (p := ⟨r, 1, none⟩) hrl).trans HHB1.out
     go_wp2_with fail
     go_quiet (fail)
     go_upto_region 7 with (fail)
     obtain ⟨w3, hw3⟩ := xE (w2.drewN nq)
     rw [← hw3]
     have HB3 : Hid (Below w.heap.size w w3) := hD (by rw [hw3]; exact kaf HB2.out _)
     clear hw3 c0 d1 e0 e1
     have HE3 := hD (HH.out.below HB3.out)
     have HF3 := hD ((FrX.refl base w).below HB3.out hbase)
     go_wp2_with fail
     refine (kfw a w3).mono ?_
     rintro e w4 ⟨N3, rfl, ho4, hb4⟩
     have hN := (kaq ho4 rfl).1
     have HEE4 := hD (HE3.out.below hb4)
     have HF4 := hD (HF3.out.below hb4 HE3.out.base_le)
     have HIN := hD (kej base g gs cap j l vs (.slice (some ⟨gu, 0, none⟩) n n) w4 HEE4.out (HJ.out) (by have := HN.out; omega) (kfY HB2'.out (by omega)) [108, 101, 110] [a] 0 [] 1 (.slice (some ⟨N3, 0, none⟩) 1 1) (ho4.mono HE3.out.base_le) (kdU HE3.out hN 1 1))
     clear ho4 hb4 hN
     go_wp2_with fail
     refine HIN.out.mono ?_
     rintro e w5 ⟨rfl, ⟨gs5, cap5, he5⟩, hf5⟩
     have HF5 := hD (HF4.out.trans hf5)
     rw [← HL1.out] at he5
     have HE5 := hD he5
     clear he5 hf5 HIN HEE4 HF4 HE3 HF3
     obtain ⟨vs5, hvs5⟩ := xE (vs.take j ++ .slice (some ⟨N3, 0, none⟩) 1 1 :: vs.drop j)
     rw [← hvs5] at HE5
     clear hvs5
     go_wp2_with fail
     refine (kfw b w5).mono ?_
     rintro e w6 ⟨N5, rfl, ho6, hb6⟩
     have hN := (kaq ho6 rfl).1
     have HEE6 := hD (HE5.out.below hb6)
     have HF6 := hD (HF5.out.below hb6 HE5.out.base_le)
     have HIN := hD (kej base g gs5 cap5 (j + 1) l1 vs5 (.slice (some ⟨gu, 0, none⟩) n n) w6 HEE6.out (by rw [HN1.out]; omega) (by rw [HN1.out]; omega) (kfY HBD1.out (by omega)) [108, 101, 110] [b] 0 [] 1 (.slice (some ⟨N5, 0, none⟩) 1 1) (ho6.mono HE5.out.base_le) (kdU HE5.out hN 1 1))
     clear ho6 hb6 hN
     rw [HEJ1.out] at HIN
     go_wp2_with fail
     refine HIN.out.mono ?_
     rintro e w7 ⟨rfl, ⟨gs7, cap7, he7⟩, hf7⟩
     have HF7 := hD (HF6.out.trans hf7)
     rw [← HL2.out] at he7
     have HE7 := hD he7
     clear he7 hf7 HIN HEE6 HF6 HE5 HF5
     obtain ⟨vs7, hvs7⟩ := xE (vs5.take (j + 1) ++ .slice (some ⟨N5, 0, none⟩) 1 1 :: vs5.drop (j + 1))
     rw [← hvs7] at HE7
     clear hvs7
     obtain ⟨t9, ht9⟩ : ∃ t9, l2[j + 2]? = some t9 := ⟨_, List.getElem?_eq_getElem (by rw [HN2.out]; omega)⟩
     obtain ⟨v9, hv9, ⟨d0, d1, d2, d3, d4⟩, ho9⟩ := HE7.out.at_ ht9
     obtain ⟨A9, c9, rfl⟩ := kak ho9
     have c0 := HE7.out.ed.cell 0
     simp only [gA, gB] at c0
     rw [HN2.out] at c0
     obtain ⟨f0, f1, f2, f3, f4⟩ : w7.frozen? ⟨gs7, (j + 2) * 5, none⟩ = false ∧ w7.frozen? ⟨gs7, (j + 2) * 5 + 1, none⟩ = false ∧ w7.frozen? ⟨gs7, (j + 2) * 5 + 2, none⟩ = false ∧ w7.frozen? ⟨gs7, (j + 2) * 5 + 3, none⟩ = false ∧ w7.frozen? ⟨gs7, (j + 2) * 5 + 4, none⟩ = false := by
      obtain ⟨cs, e1, _⟩ := HE7.out.blk
      exact ⟨e1.frozen _, e1.frozen _, e1.frozen _, e1.frozen _, e1.frozen _⟩
     have hp := HE7.out.putNew (i := j + 2) (by rw [HN2.out]; omega) (Oz.mk [43] [(j : Int), (j : Int) + 1] 0 [] 1) (by show 2 ≤ 100; decide)
     rw [← HL3.out] at hp
     have HP := hD hp.1
     have HF := hD (HF7.out.trans hp.2)
     have hg1 := HE7.out.gs_lt
     have hg2 := HE7.out.ed.lt
     have q6 : (j : Int) + 2 < (n : Int) + 2 := by omega
     have q7 : (0 : Int) ≤ (j : Int) + 2 := by omega
     have q8 : ((j : Int) + 2).toNat = j + 2 := by omega
     clear hp ht9 hv9 ho9
     have HRP := hD (ka5 base g gs7 cap7 (i + 2) (j + 2) l3 _ _ _ HP.out (by omega) (by rw [HN3.out]; have := HI.out; have := HN.out; omega) (kfY HBD3.out (by omega)))
     rw [HL9.out, show ((i + 2 : Nat) : Int) = (i : Int) + 2 by omega, show ((j + 2 : Nat) : Int) = (j : Int) + 2 by omega] at HRP
     go_upto_region 10 with (fail)
     clear c0 d0 d1 d2 d3 d4 f0 f1 f2 f3 f4
     go_wp2_with fail
     refine HRP.out.mono ?_
     intro e w9 h9
     have h9 : e = .returned (.bool true) ∧ (∃ vs9, EdX w9 base g gs7 cap7 l9 vs9 (.slice (some ⟨gu, 0, none⟩) n n)) ∧ FrX base _ w9 := h9
     obtain ⟨rfl, ⟨vs9, he9⟩, hf9⟩ := h9
     have HE9 := hD he9
     have HF9 := hD (HF.out.trans hf9)
     clear he9 hf9 HRP HP HF
     go_wp2_with fail
     go_ret
     unfold kax
     rw [HRN.out, ← HN.out]
     exact ⟨rfl, ⟨_, _, _, HE9.out⟩, HF9.out⟩
   | guard_hyp t16q1
     have hz := of_decide_eq_false HZ.out.symm
     have HRN : Hid (R = none) := hD (by rw [HR.out, if_neg hz])
     clear hz
     go_wp2_with fail
     go_ret
     unfold kax
     rw [HRN.out]
     exact ⟨rfl, HB1.out⟩
   | guard_hyp t16q2
     have hz := of_decide_eq_false HZ.out.symm
     have HRN : Hid (R = none) := hD (by rw [HR.out, if_neg hz])
     clear hz
     go_wp2_with fail
     go_quiet (fail)
     go_wp2_with fail
     go_ret
     unfold kax
     rw [HRN.out]
     exact ⟨rfl, kaf HB1.out _⟩
   | guard_hyp t16q3
     have hz := of_decide_eq_false HZ.out.symm
     have HRN : Hid (R = none) := hD (by rw [HR.out, if_neg hz])
     clear hz
     go_wp2_with fail
     go_ret
     unfold RepEnd
     rw [HRN.out]
     exact ⟨rfl, HB1.out⟩
   | guard_hyp t16q4
     cases z with
     | false =>
      exact z15
     | true =>
     have hz := of_decide_eq_true HZ.out.symm
     have HRE : Hid (∀ w, EdAt w g gs cap l (.slice (some ⟨gu, 0, none⟩) l.length l.length) → Calls Tryz.prog 118 #[.pointer (some ⟨g, 0, none⟩), .int .i64 i, .int .i64 j] w fun e w' => e = .returned (.bool (Oz.canR l i j)) ∧ Below w.heap.size w w') := hD (fun w h => kbz g gs cap l _ w h j i hji HI.out)
     obtain ⟨cb, hcb⟩ := xE (Oz.canR l i j)
     rw [← hcb] at HRE
     have HR2 := HR.out
     rw [if_pos hz] at HR2
     dsimp only at HR2
     rw [← hcb, kad HT.out] at HR2
     have HR3 := hD HR2
     have HCB := hD hcb
     clear hz HR2 hcb
     go_wp2_with fail
     refine (HRE.out w1 (HH.out.below HB1.out).edAt).mono ?_
     rintro e w2 ⟨rfl, hb2⟩
     have HB2 := hD (HB1.out.trans (hb2.mono HB1.out.size))
     clear hb2 HRE
     cases cb with
     | false =>
      exact z24
     | true =>
     obtain ⟨l9, hl9⟩ : ∃ l9, Oz.replaceR (l.set j (Oz.mk kbf t.args 0 [] 1)) i j = some l9 := kcm (by rw [kb7]; exact HCB.out.symm)
     have HRN : Hid (R = some l9) := hD (by rw [HR3.out, if_neg (by decide)]; exact hl9)
     have HL9 := hD hl9
     clear hl9
     have z0' := (HB2.out.cell (p := ⟨gs, _, none⟩) hgsl).trans z0
     have z1' := (HB2.out.cell (p := ⟨gs, _, none⟩) hgsl).trans z1
     have z2' := (HB2.out.cell (p := ⟨gs, _, none⟩) hgsl).trans z2
     have z3' := (HB2.out.cell (p := ⟨gs, _, none⟩) hgsl).trans z3
     have z4' := (HB2.out.cell (p := ⟨gs, _, none⟩) hgsl).trans z4
     have x0' := (HB2.out.cell (p := ⟨g, 0, none⟩) hgl).trans HX0.out
     go_upto_region 6 with (fail)
     obtain ⟨w3, hw3⟩ := xE w2
     rw [← hw3]
     have HB3 : Hid (Below w.heap.size w w3) := hD (by rw [hw3]; exact HB2.out)
     clear hw3 z0' z1' z2' z3' z4' x0'
     have c0 := (HB3.out.cell (p := ⟨g, 0, none⟩) hgl).trans HX0.out
     have d0 := (HB3.out.cell (p := ⟨gs, _, none⟩) hgsl).trans z0
     have d1 := (HB3.out.cell (p := ⟨gs, _, none⟩) hgsl).trans z1
     have d2 := (HB3.out.cell (p := ⟨gs, _, none⟩) hgsl).trans z2
     have d3 := (HB3.out.cell (p := ⟨gs, _, none⟩) hgsl).trans z3
     have d4 := (HB3.out.cell (p := ⟨gs, _, none⟩) hgsl).trans z4
     obtain ⟨f0, f1, f2, f3, f4⟩ : w3.frozen? ⟨gs, j * 5, none⟩ = false ∧ w3.frozen? ⟨gs, j * 5 + 1, none⟩ = false ∧ w3.frozen? ⟨gs, j * 5 + 2, none⟩ = false ∧ w3.frozen? ⟨gs, j * 5 + 3, none⟩ = false ∧ w3.frozen? ⟨gs, j * 5 + 4, none⟩ = false := by
      obtain ⟨cs, e1, _⟩ := (HH.out.below HB3.out).blk
      exact ⟨e1.frozen _, e1.frozen _, e1.frozen _, e1.frozen _, e1.frozen _⟩
     have hp := (HH.out.below HB3.out).put HJ.out (Oz.mk kbf t.args 0 [] 1) (.slice A2 t.args.length c2) (kay HO2.out HB3.out) HDIS.out
     rw [← HK2.out] at hp
     have HP := hD hp.1
     have HF := hD (((FrX.refl base w).below HB3.out hbase).trans hp.2)
     clear hp z0 z1 z2 z3 z4
     have HMB : Hid (∀ s ∈ l.set j (Oz.mk kbf t.args 0 [] 1), s.args.length ≤ 3 ∧ ∀ a ∈ s.args, 0 ≤ a ∧ a ≤ 100000) := hD (fun s' hs' => by
      rcases List.mem_or_eq_of_mem_set hs' with h1 | rfl
      ·
       exact HBB.out s' h1
      ·
       exact HBB.out t (List.mem_of_getElem? HT.out))
     go_region
     have HE4 := hD (HP.out.below ((Below.refl _ _).drew))
     have HF4 := hD (HF.out.below ((Below.refl _ _).drew) HP.out.base_le)
     have HRP := hD (ka5 base g gs cap i j _ _ _ _ HE4.out hji (by rw [List.length_set]; exact HI.out) HMB.out)
     rw [HL9.out] at HRP
     clear HP HF HE4 d0 d1 d2 d3 d4 f0 f1 f2 f3 f4 c0
     go_wp2_with fail
     refine HRP.out.mono ?_
     intro e w5 h5
     have h5 : e = .returned (.bool true) ∧ (∃ vs9, EdX w5 base g gs cap l9 vs9 (.slice (some ⟨gu, 0, none⟩) l.length l.length)) ∧ FrX base _ w5 := h5
     obtain ⟨rfl, ⟨vs9, he9⟩, hf9⟩ := h5
     have HE9 := hD he9
     have HF9 := hD (HF4.out.trans hf9)
     clear he9 hf9 HRP
     go_wp2_with fail
     go_ret
     unfold RepEnd
     rw [HRN.out]
     exact ⟨rfl, ⟨_, HE9.out⟩, HF9.out⟩
   | cases z with
     | false =>
      exact z15
     | true =>
     have hz := of_decide_eq_true HZ.out.symm
     have HRE : Hid (∀ w, EdAt w g gs cap l (.slice (some ⟨gu, 0, none⟩) l.length l.length) → Calls Tryz.prog 118 #[.pointer (some ⟨g, 0, none⟩), .int .i64 i, .int .i64 j] w fun e w' => e = .returned (.bool (Oz.canR l i j)) ∧ Below w.heap.size w w') := hD (fun w h => kbz g gs cap l _ w h j i hji HI.out)
     obtain ⟨cb, hcb⟩ := xE (Oz.canR l i j)
     rw [← hcb] at HRE
     have HR2 := HR.out
     rw [if_pos hz] at HR2
     dsimp only at HR2
     rw [← hcb, kad HT.out] at HR2
     have HR3 := hD HR2
     have HCB := hD hcb
     clear hz HR2 hcb
     go_wp2_with fail
     refine (HRE.out w1 (HH.out.below HB1.out).edAt).mono ?_
     rintro e w2 ⟨rfl, hb2⟩
     have HB2 := hD (HB1.out.trans (hb2.mono HB1.out.size))
     clear hb2 HRE
     cases cb with
     | false =>
      exact z24
     | true =>
     rw [HXX.out] at z3
     obtain ⟨l9, hl9⟩ : ∃ l9, Oz.replaceR (l.set j (Oz.mk ka0 t.args 0 t.text 1)) i j = some l9 := kcm (by rw [kb7]; exact HCB.out.symm)
     have HRN : Hid (R = some l9) := hD (by rw [HR3.out, if_neg (by decide)]; exact hl9)
     have HL9 := hD hl9
     clear hl9
     have z0' := (HB2.out.cell (p := ⟨gs, _, none⟩) hgsl).trans z0
     have z1' := (HB2.out.cell (p := ⟨gs, _, none⟩) hgsl).trans z1
     have z2' := (HB2.out.cell (p := ⟨gs, _, none⟩) hgsl).trans z2
     have z3' := (HB2.out.cell (p := ⟨gs, _, none⟩) hgsl).trans z3
     have z4' := (HB2.out.cell (p := ⟨gs, _, none⟩) hgsl).trans z4
     have x0' := (HB2.out.cell (p := ⟨g, 0, none⟩) hgl).trans HX0.out
     go_upto_region 7 with (fail)
     obtain ⟨w3, hw3⟩ := xE (w2.alloc (.cells #[.string ⟨op2.toArray⟩, .slice A2 k2 c2, .int .i64 num2, .string ⟨t.text.toArray⟩, .int .i64 ty2] 77))
     rw [← hw3]
     have hb3 : Below w2.heap.size w2 w3 := by rw [hw3]; exact kaa _ _
     have HB3 := hD (HB2.out.trans (hb3.mono HB2.out.size))
     have HS3 : Hid (Blk w3 w2.heap.size 77 #[.string ⟨op2.toArray⟩, .slice A2 k2 c2, .int .i64 num2, .string ⟨t.text.toArray⟩, .int .i64 ty2]) := hD (by rw [hw3]; exact Blk.new _ _ _)
     clear hw3 hb3 z0' z1' z2' z3' z4' x0'
     have s1 := HS3.out.cell 1
     have s3 := HS3.out.cell 3
     simp only [gA, gB, gC] at s1 s3
     have c0 := (HB3.out.cell (p := ⟨g, 0, none⟩) hgl).trans HX0.out
     have d0 := (HB3.out.cell (p := ⟨gs, _, none⟩) hgsl).trans z0
     have d1 := (HB3.out.cell (p := ⟨gs, _, none⟩) hgsl).trans z1
     have d2 := (HB3.out.cell (p := ⟨gs, _, none⟩) hgsl).trans z2
     have d3 := (HB3.out.cell (p := ⟨gs, _, none⟩) hgsl).trans z3
     have d4 := (HB3.out.cell (p := ⟨gs, _, none⟩) hgsl).trans z4
     obtain ⟨f0, f1, f2, f3, f4⟩ : w3.frozen? ⟨gs, j * 5, none⟩ = false ∧ w3.frozen? ⟨gs, j * 5 + 1, none⟩ = false ∧ w3.frozen? ⟨gs, j * 5 + 2, none⟩ = false ∧ w3.frozen? ⟨gs, j * 5 + 3, none⟩ = false ∧ w3.frozen? ⟨gs, j * 5 + 4, none⟩ = false := by
      obtain ⟨cs, e1, _⟩ := (HH.out.below HB3.out).blk
      exact ⟨e1.frozen _, e1.frozen _, e1.frozen _, e1.frozen _, e1.frozen _⟩
     have hp := (HH.out.below HB3.out).put HJ.out (Oz.mk ka0 t.args 0 t.text 1) (.slice A2 t.args.length c2) (kay HO2.out HB3.out) HDIS.out
     rw [← HK2.out] at hp
     have HP := hD hp.1
     have HF := hD (((FrX.refl base w).below HB3.out hbase).trans hp.2)
     clear hp z0 z1 z2 z3 z4
     have HMB : Hid (∀ s ∈ l.set j (Oz.mk ka0 t.args 0 t.text 1), s.args.length ≤ 3 ∧ ∀ a ∈ s.args, 0 ≤ a ∧ a ≤ 100000) := hD (fun s' hs' => by
      rcases List.mem_or_eq_of_mem_set hs' with h1 | rfl
      ·
       exact HBB.out s' h1
      ·
       exact HBB.out t (List.mem_of_getElem? HT.out))
     go_region
     have HE4 := hD (HP.out.below ((Below.refl _ _).drew))
     have HF4 := hD (HF.out.below ((Below.refl _ _).drew) HP.out.base_le)
     have HRP := hD (ka5 base g gs cap i j _ _ _ _ HE4.out hji (by rw [List.length_set]; exact HI.out) HMB.out)
     rw [HL9.out] at HRP
     clear HP HF HE4 d0 d1 d2 d3 d4 f0 f1 f2 f3 f4 c0
     go_wp2_with fail
     refine HRP.out.mono ?_
     intro e w5 h5
     have h5 : e = .returned (.bool true) ∧ (∃ vs9, EdX w5 base g gs cap l9 vs9 (.slice (some ⟨gu, 0, none⟩) l.length l.length)) ∧ FrX base _ w5 := h5
     obtain ⟨rfl, ⟨vs9, he9⟩, hf9⟩ := h5
     have HE9 := hD he9
     have HF9 := hD (HF4.out.trans hf9)
     clear he9 hf9 HRP
     go_wp2_with fail
     go_ret
     unfold RepEnd
     rw [HRN.out]
     exact ⟨rfl, ⟨_, HE9.out⟩, HF9.out⟩
 | rw [hop, if_neg (by decide)] at hR
   rw [hop] at y0
   unfold Oz.oLen at y0
   obtain rfl : z = true := by rw [hz]; exact decide_eq_true hyes
   have hjbl := (gH htb).1
   obtain ⟨vb, hvb, ⟨y9, _, _, _, _⟩, _⟩ := h.at_ htb
   have q9 : (jb : Int) < (n : Int) := by omega
   have qa : (0 : Int) ≤ (jb : Int) := by omega
   have qb : jb < n := by omega
   have HTB := hD htb
   have hk3 : 1 ≤ k2 := by have := (gH ht2).1; omega
   have p3 : (0 : Int) < (k2 : Int) := by omega
   have p5 : 0 < k2 := by omega
   obtain ⟨r, c3, hvr, _, hbr, hrl, hcr⟩ := ka8 ho2 (by omega)
   injection hvr with hA hkk hcc
   clear hkk
   subst hA hcc
   have b0 : w.cell? ⟨r, 0, none⟩ = some (.int .i64 a) := hcr 0 _ (by rw [List.getElem?_map, ht2]; rfl)
   have ea : Oz.arg t 0 = a := by unfold Oz.arg; rw [List.getD_eq_getElem?_getD, ht2]; rfl
   have hk5 : 2 ≤ k2 := by have := (gH ht3).1; omega
   have p6 : (1 : Int) < (k2 : Int) := by omega
   have p7 : 1 < k2 := by omega
   have b1 : w.cell? ⟨r, 1, none⟩ = some (.int .i64 jb) := hcr 1 _ (by rw [List.getElem?_map, ht3]; rfl)
   have eb : Oz.arg t 1 = (jb : Int) := by unfold Oz.arg; rw [List.getD_eq_getElem?_getD, ht3]; rfl
   have hab := (hb2 t (List.mem_of_getElem? ht)).2 a (List.mem_of_getElem? ht2)
   have hbb := (hb2 t (List.mem_of_getElem? ht)).2 (jb : Int) (List.mem_of_getElem? ht3)
   have HEA := hD ea
   have HEB := hD eb
   have HHB0 := hD b0
   have HHB1 := hD b1
   have HAB := hD hab
   have HBBB := hD hbb
   have HB2' := hD hb2
   have HZ1 := hD z1
   clear hcr b0 b1 ea eb ht2 ht3 hb2 hab hbb z0 z1 z2 z3 z4 y1 y2 y3 y4
   rw [if_pos hyes] at hR
   dsimp only at hR
   rw [kad HT.out, HEA.out, HEB.out, kad HTB.out] at hR
   first
   | guard_hyp t15q0
     rw [hnn] at y9
     unfold kab at y9
     have hn4 : (n : Int) ≤ 4096 := by omega
     have hn5 : n ≤ 4096 := by omega
     obtain ⟨cb, hcb⟩ := xE (Oz.canR l i j)
     rw [← hcb] at hR
     have hR3 : R = if cb = false then none else Oz.replaceR ((Oz.insertR l j (Oz.mk [108, 101, 110] [a] 0 [] 1)).set (j + 1) (Oz.mk [42] [(j : Int), (jb : Int)] 0 [] 1)) (i + 1) (j + 1) := by
      rw [hR]
      cases cb with
      | false => rw [if_pos (.inr rfl), if_pos rfl]
      | true => rw [if_neg (by simp [hnn]), if_neg (by decide)]; rfl
     have HR3 := hD hR3
     have HCB := hD hcb
     have HRE : Hid (∀ w, EdAt w g gs cap l (.slice (some ⟨gu, 0, none⟩) l.length l.length) → Calls Tryz.prog 118 #[.pointer (some ⟨g, 0, none⟩), .int .i64 i, .int .i64 j] w fun e w' => e = .returned (.bool cb) ∧ Below w.heap.size w w') := hD (fun w h => by rw [hcb]; exact kbz g gs cap l _ w h j i hji hil)
     clear hR3 hnn hcb
   | have HRN : Hid (R = none) := hD (by rw [hR, if_pos (.inl hnn)])
     have e9 : (tb.op == [110, 117, 109, 98, 101, 114]) = false := beq_eq_false_iff_ne.2 hnn
     clear hnn
   have HR := hD hR
   clear htb hvb hyes hjbl h hu hs ht hv ho hv2 ho2 hn hR hz hz' hop haj hj hb hk2 hX hop2 hnum2 hty2 hul
   go_enter Tryz.func76, Tryz.ntmps76
   go_wp2_with fail
   refine HC.out.mono ?_
   rintro e w1 ⟨rfl, hb1⟩
   have HB1 := hD hb1
   clear hb1 HC
   have c0 := (HB1.out.cell (p := ⟨g, 0, none⟩) hgl).trans x0
   have d1 := (HB1.out.cell (p := ⟨gs, _, none⟩) hgsl).trans HZ1.out
   have e1 := (HB1.out.cell (p := ⟨r, 1, none⟩) hrl).trans HHB1.out
   have e2 := (HB1.out.cell (p := ⟨gs, _, none⟩) hgsl).trans y9
   first
   | guard_hyp t15q0
     have HRG : Hid (∀ d os, Calls Tryz.prog 118 #[.pointer (some ⟨g, 0, none⟩), .int .i64 i, .int .i64 j] (Go.Sort.grow (redrawn w1 d) os) fun e w'' => e = .returned (.bool cb) ∧ ∃ p : Regrown, w'' = Go.Sort.grow (redrawn w1 p.d) p.os) := hD (fun d os => Calls.regrown_of (HRE.out _ ((HH.out.below HB1.out).edAt.below (below_regrown w1 d os))))
     have k0 := cell_regrown c0
     have k1 := cell_regrown d1
     have k2' := cell_regrown e1
     have k3 := cell_regrown e2
     cases cb with
     | false =>
      have HRN : Hid (R = none) := hD (by rw [HR3.out, if_pos rfl])
      go_wp2_with fail
      refine wp_region_quiet_below (by kernel_rfl) (by kernel_rfl) ?_
      repeat (go_big_quiet_step ((go_at_call 118; exact HRG.out _ _)))
      refine wpQuiet_nil ?_
      intro _ hw'
      obtain ⟨⟨dq, osq⟩, hw''⟩ := hw'
      subst hw''
      have hq := below_regrown w1 dq osq
      have HB2 := hD (HB1.out.trans (hq.mono HB1.out.size))
      simp only
      generalize Go.Sort.grow (redrawn w1 dq) osq = w2 at *
      clear hq k0 k1 k2' k3 c0 d1 e1 e2
      go_wp2_with fail
      go_ret
      unfold kax
      rw [HRN.out]
      exact ⟨rfl, HB2.out⟩
     | true =>
     obtain ⟨l1, hl1⟩ := xE (Oz.insertR l j (Oz.mk [108, 101, 110] [a] 0 [] 1))
     obtain ⟨l3, hl3⟩ := xE (l1.set (j + 1) (Oz.mk [42] [(j : Int), (jb : Int)] 0 [] 1))
     have hn1 : l1.length = n + 1 := by rw [hl1, kaQ, HN.out]
     have hn3 : l3.length = n + 1 := by rw [hl3, List.length_set, hn1]
     have hc3 : Oz.canR l3 (i + 1) (j + 1) = true := by
      rw [hl3, kb7, hl1, kcO l i j _ (Nat.le_of_lt HJ.out)]
      exact HCB.out.symm
     obtain ⟨l9, hl9⟩ := kcm hc3
     have HRN : Hid (R = some l9) := hD (by
      rw [HR3.out, if_neg (by decide)]
      rw [hl3, hl1] at hl9
      exact hl9)
     have HBD1 : Hid (∀ s ∈ l1, s.args.length ≤ 3 ∧ ∀ a ∈ s.args, 0 ≤ a ∧ a ≤ 4096 + 1) := hD (by
      rw [hl1]
      exact kh2 HB2'.out ⟨by show 1 ≤ 3; decide, fun x hx => by have := HAB.out; simp only [Oz.mk, List.mem_cons, List.not_mem_nil, or_false] at hx; omega⟩)
     have HBD3 : Hid (∀ s ∈ l3, s.args.length ≤ 3 ∧ ∀ a ∈ s.args, 0 ≤ a ∧ a ≤ 4096 + 1) := hD (by
      rw [hl3]
      exact set_bd HBD1.out ⟨by show 2 ≤ 3; decide, fun x hx => by simp only [Oz.mk, List.mem_cons, List.not_mem_nil, or_false] at hx; omega⟩)
     have HL1 := hD hl1
     have HL3 := hD hl3
     have HL9 := hD hl9
     have HN1 := hD hn1
     have HN3 := hD hn3
     have hwj : IntKind.i64.wrap ((j : Int) + 1) = (j : Int) + 1 := IntWalk.i64_in _ (by omega)
     have hwi : IntKind.i64.wrap ((i : Int) + 1) = (i : Int) + 1 := IntWalk.i64_in _ (by omega)
     clear hl1 hl3 hl9 hn1 hn3 hc3
     go_wp2_with fail
     refine wp_region_quiet_below (by kernel_rfl) (by kernel_rfl) ?_
     repeat (go_big_quiet_step ((go_at_call 118; exact HRG.out _ _)))
     refine wpQuiet_nil ?_
     intro _ hw'
     obtain ⟨⟨dq, osq⟩, hw''⟩ := hw'
     subst hw''
     have hq := below_regrown w1 dq osq
     have HB2 := hD (HB1.out.trans (hq.mono HB1.out.size))
     simp only
     generalize Go.Sort.grow (redrawn w1 dq) osq = w2 at *
     clear hq k0 k1 k2' k3 c0 d1 e1 e2
     rw [← HN.out] at HH
     have c0 := (HB2.out.cell (p := ⟨g, 0, none⟩) hgl).trans HX0.out
     have d1 := (HB2.out.cell (p := ⟨gs, _, none⟩) hgsl).trans HZ1.out
     have e0 := (HB2.out.cell (p := ⟨r, 0, none⟩) hrl).trans HHB0.out
     have e1 := (HB2.out.cell (p := ⟨r, 1, none⟩) hrl).trans HHB1.out
     go_wp2_with fail
     go_quiet (fail)
     go_upto_region 7 with (fail)
     obtain ⟨w3, hw3⟩ := xE (w2.drewN nq)
     rw [← hw3]
     have HB3 : Hid (Below w.heap.size w w3) := hD (by rw [hw3]; exact kaf HB2.out _)
     clear hw3 c0 d1 e0 e1
     have HE3 := hD (HH.out.below HB3.out)
     have HF3 := hD ((FrX.refl base w).below HB3.out hbase)
     go_wp2_with fail
     refine (kfw a w3).mono ?_
     rintro e w4 ⟨N3, rfl, ho4, hb4⟩
     have hN := (kaq ho4 rfl).1
     have HEE4 := hD (HE3.out.below hb4)
     have HF4 := hD (HF3.out.below hb4 HE3.out.base_le)
     have HIN := hD (kej base g gs cap j l vs (.slice (some ⟨gu, 0, none⟩) n n) w4 HEE4.out (HJ.out) (by have := HN.out; omega) (kfY HB2'.out (by omega)) [108, 101, 110] [a] 0 [] 1 (.slice (some ⟨N3, 0, none⟩) 1 1) (ho4.mono HE3.out.base_le) (kdU HE3.out hN 1 1))
     clear ho4 hb4 hN
     go_wp2_with fail
     refine HIN.out.mono ?_
     rintro e w5 ⟨rfl, ⟨gs5, cap5, he5⟩, hf5⟩
     have HF5 := hD (HF4.out.trans hf5)
     rw [← HL1.out] at he5
     have HE5 := hD he5
     clear he5 hf5 HIN HEE4 HF4 HE3 HF3
     obtain ⟨vs5, hvs5⟩ := xE (vs.take j ++ .slice (some ⟨N3, 0, none⟩) 1 1 :: vs.drop j)
     rw [← hvs5] at HE5
     clear hvs5
     obtain ⟨t9, ht9⟩ : ∃ t9, l1[j + 1]? = some t9 := ⟨_, List.getElem?_eq_getElem (by rw [HN1.out]; omega)⟩
     obtain ⟨v9, hv9, ⟨d0, d1, d2, d3, d4⟩, ho9⟩ := HE5.out.at_ ht9
     obtain ⟨A9, c9, rfl⟩ := kak ho9
     have c0 := HE5.out.ed.cell 0
     simp only [gA, gB] at c0
     rw [HN1.out] at c0
     obtain ⟨f0, f1, f2, f3, f4⟩ : w5.frozen? ⟨gs5, (j + 1) * 5, none⟩ = false ∧ w5.frozen? ⟨gs5, (j + 1) * 5 + 1, none⟩ = false ∧ w5.frozen? ⟨gs5, (j + 1) * 5 + 2, none⟩ = false ∧ w5.frozen? ⟨gs5, (j + 1) * 5 + 3, none⟩ = false ∧ w5.frozen? ⟨gs5, (j + 1) * 5 + 4, none⟩ = false := by
      obtain ⟨cs, e1, _⟩ := HE5.out.blk
      exact ⟨e1.frozen _, e1.frozen _, e1.frozen _, e1.frozen _, e1.frozen _⟩
     have hp := HE5.out.putNew (i := j + 1) (by rw [HN1.out]; omega) (Oz.mk [42] [(j : Int), (jb : Int)] 0 [] 1) (by show 2 ≤ 100; decide)
     rw [← HL3.out] at hp
     have HP := hD hp.1
     have HF := hD (HF5.out.trans hp.2)
     have hg1 := HE5.out.gs_lt
     have hg2 := HE5.out.ed.lt
     have q6 : (j : Int) + 1 < (n : Int) + 1 := by omega
     have q7 : (0 : Int) ≤ (j : Int) + 1 := by omega
     have q8 : ((j : Int) + 1).toNat = j + 1 := by omega
     clear hp ht9 hv9 ho9
     have HRP := hD (ka5 base g gs5 cap5 (i + 1) (j + 1) l3 _ _ _ HP.out (by omega) (by rw [HN3.out]; have := HI.out; have := HN.out; omega) (kfY HBD3.out (by omega)))
     rw [HL9.out, show ((i + 1 : Nat) : Int) = (i : Int) + 1 by omega, show ((j + 1 : Nat) : Int) = (j : Int) + 1 by omega] at HRP
     go_upto_region 9 with (fail)
     clear c0 d0 d1 d2 d3 d4 f0 f1 f2 f3 f4
     go_wp2_with fail
     refine HRP.out.mono ?_
     intro e w9 h9
     have h9 : e = .returned (.bool true) ∧ (∃ vs9, EdX w9 base g gs5 cap5 l9 vs9 (.slice (some ⟨gu, 0, none⟩) n n)) ∧ FrX base _ w9 := h9
     obtain ⟨rfl, ⟨vs9, he9⟩, hf9⟩ := h9
     have HE9 := hD he9
     have HF9 := hD (HF.out.trans hf9)
     clear he9 hf9 HRP HP HF
     go_wp2_with fail
     go_ret
     unfold kax
     rw [HRN.out, ← HN.out]
     exact ⟨rfl, ⟨_, _, _, HE9.out⟩, HF9.out⟩
   | go_wp2_with fail
     go_quiet (fail)
     go_wp2_with fail
     go_ret
     unfold kax
     rw [HRN.out]
     exact ⟨rfl, kaf HB1.out _⟩) : P := h
theorem y5 {P : Prop} (h : P := by
 have t528q0 := True.intro
 exact y85) : P := h
theorem kb7 (l : List St) (i j : Nat) (t : St) : Oz.canR (l.set j t) i j = Oz.canR l i j := by
 unfold Oz.canR Oz.safeB
 rw [List.length_set]
 congr 2
 apply List.ext_getElem?
 intro q
 rw [List.getElem?_drop, List.getElem?_drop, List.getElem?_take, List.getElem?_take]
 split
 ·
  rw [List.getElem?_set_ne (by omega)]
 ·
  rfl
theorem kcm {l : List St} {i j : Nat} (h : Oz.canR l i j = true) : ∃ l', Oz.replaceR l i j = some l' := by
 unfold Oz.replaceR
 rw [if_neg (by rw [h]; decide)]
 split
 ·
  exact ⟨_, rfl⟩
 ·
  exact ⟨_, rfl⟩
theorem kgz {w : World} {base g gs cap : Nat} {l : List St} {vs : List Value} {V : Value} (h : EdX w base g gs cap l vs V) {j : Nat} {v2 : Value} (hv2 : vs[j]? = some v2) : ∀ (p : Nat) (v : Value), p ≠ j → vs[p]? = some v → v2.ownBlock = none ∨ v.ownBlock ≠ v2.ownBlock := fun p v hp hv => by
 rcases h.dis j p v2 v (fun e => hp e.symm) hv2 hv with h0 | h0
 ·
  exact .inl h0
 ·
  exact .inr (fun e => h0 e.symm)
theorem klL (base g gs gu cap i j : Nat) (l : List St) (vs : List Value) (s t : St) (w : World) (h : EdX w base g gs cap l vs (.slice (some ⟨gu, 0, none⟩) l.length l.length)) (hu : Blk w gu 3 (uarr (kag l))) (hs : l[i]? = some s) (ht : l[j]? = some t) (hj : s.args[0]? = some (j : Int)) (hji : j < i) (hb : ∀ s ∈ l, s.args.length ≤ 3 ∧ ∀ a ∈ s.args, 0 ≤ a ∧ a ≤ 100000) (hop : s.op = Oz.oSize) :
  Calls Tryz.prog 72 #[.pointer (some ⟨g, 0, none⟩), .int .i64 i] w (RepEnd base g gs cap l vs (.slice (some ⟨gu, 0, none⟩) l.length l.length) (Oz.matchesR l i) w) := by
 have t16q5 := True.intro
 exact y5
theorem lenCut_0 (base g gs gu cap i j : Nat) (l : List St) (vs : List Value) (s t : St) (w : World) (h : EdX w base g gs cap l vs (.slice (some ⟨gu, 0, none⟩) l.length l.length)) (hu : Blk w gu 3 (uarr (kag l))) (hs : l[i]? = some s) (ht : l[j]? = some t) (hj : s.args[0]? = some (j : Int)) (hji : j < i) (hb : ∀ s ∈ l, s.args.length ≤ 3 ∧ ∀ a ∈ s.args, 0 ≤ a ∧ a ≤ 100000) (hop : s.op = Oz.oLen) :
  Calls Tryz.prog 74 #[.pointer (some ⟨g, 0, none⟩), .int .i64 i] w (RepEnd base g gs cap l vs (.slice (some ⟨gu, 0, none⟩) l.length l.length) (Oz.lenCutR l i) w) := by
 have t16q4 := True.intro
 exact y5
theorem kjf (base g gs gu cap i j : Nat) (l : List St) (vs : List Value) (s t : St) (w : World) (h : EdX w base g gs cap l vs (.slice (some ⟨gu, 0, none⟩) l.length l.length)) (hu : Blk w gu 3 (uarr (kag l))) (hs : l[i]? = some s) (ht : l[j]? = some t) (hj : s.args[0]? = some (j : Int)) (hji : j < i) (hb : ∀ s ∈ l, s.args.length ≤ 3 ∧ ∀ a ∈ s.args, 0 ≤ a ∧ a ≤ 100000) (hop : s.op = Oz.oFirst) (a b : Int) (ht2 : t.args[0]? = some a) (hs2 : s.args[1]? = some b) :
  Calls Tryz.prog 73 #[.pointer (some ⟨g, 0, none⟩), .int .i64 i] w (RepEnd base g gs cap l vs (.slice (some ⟨gu, 0, none⟩) l.length l.length) (Oz.firstFindR l i) w) := by
 have hil := (gH hs).1
 have hjl := (gH ht).1
 have hcap := h.cap
 have hbase := h.base_le
 have x0 := h.ed.cell 0
 simp only [gA, gB, gC] at x0
 obtain ⟨v, hv, ⟨y0, y1, y2, y3, y4⟩, ho⟩ := h.at_ hs
 obtain ⟨A, c, rfl⟩ := kak ho
 obtain ⟨v2, hv2, ⟨z0, z1, z2, z3, z4⟩, ho2⟩ := h.at_ ht
 obtain ⟨A2, c2, rfl⟩ := kak ho2
 have hul : (kag l).length = l.length := kb4 l _
 have HC := hD (kcq g gs gu cap i j l (kag l) s t w h.edAt hu hul hs hj ht Oz.oFind)
 unfold Oz.oFind at HC
 obtain ⟨z, hz⟩ := xE (decide (t.op = Oz.oFind ∧ (kag l).getD j 0 = 1))
 have hz' := hz
 unfold Oz.oFind at hz'
 rw [← hz'] at HC
 obtain ⟨R, hR⟩ := xE (Oz.firstFindR l i)
 rw [← hR]
 unfold Oz.firstFindR Oz.onceR at hR
 have haj : Oz.arg s 0 = (j : Int) := by unfold Oz.arg; rw [List.getD_eq_getElem?_getD, hj]; rfl
 rw [kad hs] at hR
 dsimp only at hR
 rw [haj, Int.toNat_natCast, kad ht] at hR
 obtain ⟨n, hn⟩ := xE l.length
 rw [← hn] at x0
 have HH := hD h
 have HN := hD hn
 have HBB := hD hb
 have HI : Hid (i < l.length) := hD hil
 have HJ : Hid (j < l.length) := hD hjl
 have q0 : (i : Int) < (n : Int) := by omega
 have q1 : (0 : Int) ≤ (i : Int) := by omega
 have q2 : (j : Int) < (n : Int) := by omega
 have q3 : (0 : Int) ≤ (j : Int) := by omega
 have q4 : j < n := by omega
 have q5 : i < n := by omega
 have hgl := h.ed.lt
 have hgsl := h.gs_lt
 have HO2 := hD ho2
 have HDIS := hD (kgz h hv2)
 have HT := hD ht
 have HS := hD hs
 have HX0 := hD x0
 obtain ⟨k2, hk2⟩ := xE t.args.length
 rw [← hk2] at z1
 have HK2 := hD hk2
 obtain ⟨X, hX⟩ := xE t.text
 rw [← hX] at z3
 have HXX := hD hX
 obtain ⟨op2, hop2⟩ := xE t.op
 rw [← hop2] at z0
 have HOP2 := hD hop2
 obtain ⟨num2, hnum2⟩ := xE t.num
 rw [← hnum2] at z2
 have HNUM2 := hD hnum2
 obtain ⟨ty2, hty2⟩ := xE t.ty
 rw [← hty2] at z4
 have HTY2 := hD hty2
 have HZ := hD hz
 rw [hop, if_neg (by decide)] at hR
 rw [hop] at y0
 unfold Oz.oFirst at y0
 have ea : Oz.arg t 0 = a := by unfold Oz.arg; rw [List.getD_eq_getElem?_getD, ht2]; rfl
 have eb : Oz.arg s 1 = b := by unfold Oz.arg; rw [List.getD_eq_getElem?_getD, hs2]; rfl
 have hk3 : 1 ≤ k2 := by have := (gH ht2).1; omega
 have p3 : (0 : Int) < (k2 : Int) := by omega
 have p5 : 0 < k2 := by omega
 obtain ⟨k, hk⟩ := xE s.args.length
 rw [← hk] at y1
 have hk4 : 2 ≤ k := by have := (gH hs2).1; omega
 have p6 : (1 : Int) < (k : Int) := by omega
 have p7 : 1 < k := by omega
 obtain ⟨r, c3, hvr, _, hbr, hrl, hcr⟩ := ka8 ho2 (by omega)
 injection hvr with hA hkk hcc
 clear hkk
 subst hA hcc
 have b0 : w.cell? ⟨r, 0, none⟩ = some (.int .i64 a) := hcr 0 _ (by rw [List.getElem?_map, ht2]; rfl)
 obtain ⟨q, c4, hvq, _, hbq, hql, hcq⟩ := ka8 ho (by omega)
 injection hvq with hA hkk hcc
 clear hkk
 subst hA hcc
 have b1 : w.cell? ⟨q, 1, none⟩ = some (.int .i64 b) := hcq 1 _ (by rw [List.getElem?_map, hs2]; rfl)
 have HY : Hid (w.cell? ⟨gs, i * 5, none⟩ = some (.string ⟨#[102, 105, 114, 115, 116]⟩) ∧ w.cell? ⟨gs, i * 5 + 1, none⟩ = some (.slice (some ⟨q, 0, none⟩) k c) ∧ w.cell? ⟨gs, i * 5 + 2, none⟩ = some (.int .i64 s.num) ∧ w.cell? ⟨gs, i * 5 + 3, none⟩ = some (.string ⟨s.text.toArray⟩) ∧ w.cell? ⟨gs, i * 5 + 4, none⟩ = some (.int .i64 s.ty)) := hD ⟨y0, y1, y2, y3, y4⟩
 have HMB : Hid (∀ s ∈ l.set i (Oz.mk kaF [a, b] 0 t.text 4), s.args.length ≤ 3 ∧ ∀ a ∈ s.args, 0 ≤ a ∧ a ≤ 100000) := hD (fun s' hs' => by
  rcases List.mem_or_eq_of_mem_set hs' with h1 | rfl
  ·
   exact hb s' h1
  ·
   refine ⟨by show 2 ≤ 3; decide, fun x hx => ?_⟩
   have h3 := (hb t (List.mem_of_getElem? ht)).2 a (List.mem_of_getElem? ht2)
   have h4 := (hb s (List.mem_of_getElem? hs)).2 b (List.mem_of_getElem? hs2)
   simp only [Oz.mk, List.mem_cons, List.not_mem_nil, or_false] at hx
   rcases hx with rfl | rfl <;> assumption)
 rw [eb] at hR
 have HEA := hD ea
 have HHB0 := hD b0
 have HHB1 := hD b1
 have HJ1 : Hid (j + 1 < l.length) := hD (by omega)
 clear y1 y2 y3 y4 ea eb hcr hcq hk b0 b1 ht2 hs2
 have HR := hD hR
 clear h hu hs ht hv ho hv2 ho2 hn hR hz hz' hop haj hj hb hk2 hX hop2 hnum2 hty2 hul
 go_enter Tryz.func73, Tryz.ntmps73
 go_wp2_with fail
 refine HC.out.mono ?_
 rintro e w1 ⟨rfl, hb1⟩
 have HB1 := hD hb1
 clear hb1 HC x0 y0
 cases z with
 | false =>
  exact z15
 | true =>
 have hz := of_decide_eq_true HZ.out.symm
 have HRE : Hid (∀ w, EdAt w g gs cap l (.slice (some ⟨gu, 0, none⟩) l.length l.length) → Calls Tryz.prog 119 #[.pointer (some ⟨g, 0, none⟩), .int .i64 j, .int .i64 i] w fun e w' => e = .returned (.bool (Oz.safeB l j i)) ∧ Below w.heap.size w w') := hD (fun w h => kdE g gs cap l _ w h j i hji (Nat.le_of_lt HI.out))
 obtain ⟨cb, hcb⟩ := xE (Oz.safeB l j i)
 rw [← hcb] at HRE
 have HR2 := HR.out
 rw [if_pos hz] at HR2
 dsimp only at HR2
 rw [← hcb, kad HT.out] at HR2
 have HR3 := hD HR2
 have HCB := hD hcb
 clear hz HR2 hcb
 go_wp2_with fail
 refine (HRE.out w1 (HH.out.below HB1.out).edAt).mono ?_
 rintro e w2 ⟨rfl, hb2⟩
 have HB2 := hD (HB1.out.trans (hb2.mono HB1.out.size))
 clear hb2 HRE
 cases cb with
 | false =>
  exact z24
 | true =>
 have HRN : Hid (R = some (Oz.removeR (l.set i (Oz.mk kaF [a, b] 0 t.text 4)) j)) := hD (by rw [HR3.out, if_neg (by decide), HEA.out])
 have z0' := (HB2.out.cell (p := ⟨gs, _, none⟩) hgsl).trans z0
 have z1' := (HB2.out.cell (p := ⟨gs, _, none⟩) hgsl).trans z1
 have z2' := (HB2.out.cell (p := ⟨gs, _, none⟩) hgsl).trans z2
 have z3' := (HB2.out.cell (p := ⟨gs, _, none⟩) hgsl).trans z3
 have z4' := (HB2.out.cell (p := ⟨gs, _, none⟩) hgsl).trans z4
 have x0' := (HB2.out.cell (p := ⟨g, 0, none⟩) hgl).trans HX0.out
 go_upto_region 7 with (fail)
 obtain ⟨w3, hw3⟩ := xE (w2.alloc (.cells #[.string ⟨op2.toArray⟩, .slice (some ⟨r, 0, none⟩) k2 c2, .int .i64 num2, .string ⟨X.toArray⟩, .int .i64 ty2] 77))
 rw [← hw3]
 have hb3 : Below w2.heap.size w2 w3 := by rw [hw3]; exact kaa _ _
 have HB3 := hD (HB2.out.trans (hb3.mono HB2.out.size))
 have HS3 : Hid (Blk w3 w2.heap.size 77 #[.string ⟨op2.toArray⟩, .slice (some ⟨r, 0, none⟩) k2 c2, .int .i64 num2, .string ⟨X.toArray⟩, .int .i64 ty2]) := hD (by rw [hw3]; exact Blk.new _ _ _)
 clear hw3 hb3 z0' z1' z2' z3' z4' x0' z0 z1 z2 z3 z4
 have s1 := HS3.out.cell 1
 simp only [gA, gB, gC] at s1
 have e0 := (HB3.out.cell (p := ⟨r, 0, none⟩) hrl).trans HHB0.out
 have e1 := (HB3.out.cell (p := ⟨q, 1, none⟩) hql).trans HHB1.out
 have c0 := (HB3.out.cell (p := ⟨g, 0, none⟩) hgl).trans HX0.out
 have d1 := (HB3.out.cell (p := ⟨gs, _, none⟩) hgsl).trans HY.out.2.1
 have l1 := HS3.out.lt
 have l2 : g < w3.heap.size := Nat.lt_of_lt_of_le hgl HB3.out.size
 have l3 : gs < w3.heap.size := Nat.lt_of_lt_of_le hgsl HB3.out.size
 have l4 : q < w3.heap.size := Nat.lt_of_lt_of_le hql HB3.out.size
 have l5 : r < w3.heap.size := Nat.lt_of_lt_of_le hrl HB3.out.size
 go_region
 clear s1 e0 e1 c0 d1 l1 l2 l3 l4 l5
 obtain ⟨w4, hw4⟩ := xE ((w3.alloc (.cells #[.int .i64 a, .int .i64 b] 3)).drew)
 rw [← hw4]
 have hb4 : Below w3.heap.size w3 w4 := by rw [hw4]; exact (kaa _ _).drew
 have HB4 := hD (HB3.out.trans (hb4.mono HB3.out.size))
 have HS4 := hD (HS3.out.below hb4 HS3.out.lt)
 have HO4 : Hid (w4.ownsRow w.heap.size 3 1 (.slice (some ⟨w3.heap.size, 0, none⟩) 2 2) 2 [.int .i64 a, .int .i64 b]) := hD (by rw [hw4]; exact ((kd1 w3 [a, b] (by show 2 ≤ 100; decide)).mono HB3.out.size).drew)
 clear hw4 hb4
 have s3 := HS4.out.cell 3
 simp only [gA, gB, gC] at s3
 have c0 := (HB4.out.cell (p := ⟨g, 0, none⟩) hgl).trans HX0.out
 have hc2 := fun m => HB4.out.cell (p := ⟨gs, m, none⟩) hgsl
 have d0 := (hc2 _).trans HY.out.1
 have d1 := (hc2 _).trans HY.out.2.1
 have d2 := (hc2 _).trans HY.out.2.2.1
 have d3 := (hc2 _).trans HY.out.2.2.2.1
 have d4 := (hc2 _).trans HY.out.2.2.2.2
 obtain ⟨f0, f1, f2, f3, f4⟩ : w4.frozen? ⟨gs, i * 5, none⟩ = false ∧ w4.frozen? ⟨gs, i * 5 + 1, none⟩ = false ∧ w4.frozen? ⟨gs, i * 5 + 2, none⟩ = false ∧ w4.frozen? ⟨gs, i * 5 + 3, none⟩ = false ∧ w4.frozen? ⟨gs, i * 5 + 4, none⟩ = false := by
  obtain ⟨cs, e1, _⟩ := (HH.out.below HB4.out).blk
  exact ⟨e1.frozen _, e1.frozen _, e1.frozen _, e1.frozen _, e1.frozen _⟩
 have hp := HH.out.putFresh HB4.out HI.out (Oz.mk kaF [a, b] 0 X 4) _ HO4.out
 have HP := hD hp.1
 have HF := hD hp.2
 rw [← HXX.out] at HMB HRN
 clear hp hc2
 go_wp2_with fail
 go_region
 have HRM := hD (kde base g gs cap j _ _ _ _ (HP.out.below (Below.refl _ _).drew) (by rw [List.length_set]; exact HJ1.out) HMB.out)
 have HF3 := hD (HF.out.below (Below.refl _ _).drew HP.out.base_le)
 clear HP HF d0 d1 d2 d3 d4 f0 f1 f2 f3 f4 c0 s3
 go_wp2_with fail
 refine HRM.out.mono ?_
 rintro e w5 ⟨rfl, he5, hf5⟩
 have HE5 := hD he5
 have HF5 := hD (HF3.out.trans hf5)
 clear he5 hf5 HRM
 go_wp2_with fail
 go_ret
 unfold RepEnd
 rw [HRN.out]
 exact ⟨rfl, ⟨_, HE5.out⟩, HF5.out⟩
theorem kje (base g gs gu cap i j : Nat) (l : List St) (vs : List Value) (s t : St) (w : World) (h : EdX w base g gs cap l vs (.slice (some ⟨gu, 0, none⟩) l.length l.length)) (hu : Blk w gu 3 (uarr (kag l))) (hs : l[i]? = some s) (ht : l[j]? = some t) (hj : s.args[0]? = some (j : Int)) (hji : j < i) (hb : ∀ s ∈ l, s.args.length ≤ 3 ∧ ∀ a ∈ s.args, 0 ≤ a ∧ a ≤ 100000) (hop : s.op = Oz.oFirst) (hno : t.op ≠ Oz.oFind) :
  Calls Tryz.prog 73 #[.pointer (some ⟨g, 0, none⟩), .int .i64 i] w (RepEnd base g gs cap l vs (.slice (some ⟨gu, 0, none⟩) l.length l.length) (Oz.firstFindR l i) w) := by
 have t16q3 := True.intro
 exact y5
theorem kkx (base g gs cap i : Nat) (l : List St) (vs : List Value) (V : Value) (s : St) (w : World) (h : EdX w base g gs cap l vs V) (hs : l[i]? = some s) (hop : s.op ≠ Oz.oSize) :
  Calls Tryz.prog 72 #[.pointer (some ⟨g, 0, none⟩), .int .i64 i] w (RepEnd base g gs cap l vs V (Oz.matchesR l i) w) := by
 have t121q3 := True.intro
 exact y26
theorem ki3 (base g gs gu cap i : Nat) (l : List St) (vs : List Value) (s : St) (w : World) (h : EdX w base g gs cap l vs (.slice (some ⟨gu, 0, none⟩) l.length l.length)) (hu : Blk w gu 3 (uarr (kag l))) (hs : l[i]? = some s) (hc : kac l = 0) :
  Calls Tryz.prog 72 #[.pointer (some ⟨g, 0, none⟩), .int .i64 i] w (RepEnd base g gs cap l vs (.slice (some ⟨gu, 0, none⟩) l.length l.length) (Oz.matchesR l i) w) := by
 by_cases hop : s.op = Oz.oSize
 ·
  have hal := kae hc hs 1 (by rw [hop]; kernel_rfl)
  obtain ⟨j, t, hj, hji, ht, _, _⟩ := kah hc hs (k := 0) (by omega)
  exact klL base g gs gu cap i j l vs s t w h hu hs ht hj hji (kcc hc) hop
 ·
  exact kkx base g gs cap i l vs _ s w h hs hop
theorem klP (base g gs cap i : Nat) (l : List St) (vs : List Value) (V : Value) (s : St) (w : World) (h : EdX w base g gs cap l vs V) (hs : l[i]? = some s) (hop : s.op ≠ Oz.oLen) :
  Calls Tryz.prog 74 #[.pointer (some ⟨g, 0, none⟩), .int .i64 i] w (RepEnd base g gs cap l vs V (Oz.lenCutR l i) w) := by
 have t121q2 := True.intro
 exact y26
theorem kkH (base g gs gu cap i : Nat) (l : List St) (vs : List Value) (s : St) (w : World) (h : EdX w base g gs cap l vs (.slice (some ⟨gu, 0, none⟩) l.length l.length)) (hu : Blk w gu 3 (uarr (kag l))) (hs : l[i]? = some s) (hc : kac l = 0) :
  Calls Tryz.prog 74 #[.pointer (some ⟨g, 0, none⟩), .int .i64 i] w (RepEnd base g gs cap l vs (.slice (some ⟨gu, 0, none⟩) l.length l.length) (Oz.lenCutR l i) w) := by
 by_cases hop : s.op = Oz.oLen
 ·
  have hal := kae hc hs 1 (by rw [hop]; kernel_rfl)
  obtain ⟨j, t, hj, hji, ht, _, _⟩ := kah hc hs (k := 0) (by omega)
  exact lenCut_0 base g gs gu cap i j l vs s t w h hu hs ht hj hji (kcc hc) hop
 ·
  exact klP base g gs cap i l vs _ s w h hs hop
theorem kh6 (base g gs cap i : Nat) (l : List St) (vs : List Value) (V : Value) (s : St) (w : World) (h : EdX w base g gs cap l vs V) (hs : l[i]? = some s) (hop : s.op ≠ Oz.oFirst) :
  Calls Tryz.prog 73 #[.pointer (some ⟨g, 0, none⟩), .int .i64 i] w (RepEnd base g gs cap l vs V (Oz.firstFindR l i) w) := by
 have t121q4 := True.intro
 exact y26
theorem kha (base g gs gu cap i : Nat) (l : List St) (vs : List Value) (s : St) (w : World) (h : EdX w base g gs cap l vs (.slice (some ⟨gu, 0, none⟩) l.length l.length)) (hu : Blk w gu 3 (uarr (kag l))) (hs : l[i]? = some s) (hc : kac l = 0) :
  Calls Tryz.prog 73 #[.pointer (some ⟨g, 0, none⟩), .int .i64 i] w (RepEnd base g gs cap l vs (.slice (some ⟨gu, 0, none⟩) l.length l.length) (Oz.firstFindR l i) w) := by
 by_cases hop : s.op = Oz.oFirst
 ·
  have hal := kae hc hs 2 (by rw [hop]; kernel_rfl)
  obtain ⟨j, t, hj, hji, ht, _, _⟩ := kah hc hs (k := 0) (by omega)
  obtain ⟨b, _, hb, _⟩ := kah hc hs (k := 1) (by omega)
  by_cases hz : t.op = Oz.oFind
  ·
   have hal2 := kae hc ht 1 (by rw [hz]; kernel_rfl)
   obtain ⟨a, _, ha, _⟩ := kah hc ht (k := 0) (by omega)
   exact kjf base g gs gu cap i j l vs s t w h hu hs ht hj hji (kcc hc) hop a b ha hb
  ·
   exact kje base g gs gu cap i j l vs s t w h hu hs ht hj hji (kcc hc) hop hz
 ·
  exact kh6 base g gs cap i l vs _ s w h hs hop
end Go.Proofs.YtamhdmkolfmmdaaGreatDoor
