/- The walks of optimize's rules matches, lenCut, firstFind at any step (printed by gen_ozl.py). optimize's lenOf; what an inserted step leaves of the questions (plain Lean). -/
import Derived.Test.YtniefnjcimempaarRz2
import Derived.Test.YtniefnjcimempaarRz3
namespace Go.Proofs.Ytniefnjcimempaa
open Go.RowKit
theorem canR_set (l : List St) (i j : Nat) (t : St) : Oz.canR (l.set j t) i j = Oz.canR l i j := by
  unfold Oz.canR Oz.safeB
  rw [List.length_set]
  congr 2
  apply List.ext_getElem?
  intro q
  rw [List.getElem?_drop, List.getElem?_drop, List.getElem?_take, List.getElem?_take]
  split
  · rw [List.getElem?_set_ne (by omega)]
  · rfl
theorem replaceR_some {l : List St} {i j : Nat} (h : Oz.canR l i j = true) : ∃ l', Oz.replaceR l i j = some l' := by
  unfold Oz.replaceR
  rw [if_neg (by rw [h]; decide)]
  split
  · exact ⟨_, rfl⟩
  · exact ⟨_, rfl⟩
theorem own_apart {w : World} {base g gs cap : Nat} {l : List St} {vs : List Value} {V : Value} (h : EdX w base g gs cap l vs V) {j : Nat} {v2 : Value} (hv2 : vs[j]? = some v2) : ∀ (p : Nat) (v : Value), p ≠ j → vs[p]? = some v → v2.ownBlock = none ∨ v.ownBlock ≠ v2.ownBlock := fun p v hp hv => by
  rcases h.dis j p v2 v (fun e => hp e.symm) hv2 hv with h0 | h0
  · exact .inl h0
  · exact .inr (fun e => h0 e.symm)
set_option maxRecDepth 100000 in
set_option maxHeartbeats 8000000 in
theorem matches_0 (base g gs gu cap i j : Nat) (l : List St) (vs : List Value) (s t : St) (w : World) (h : EdX w base g gs cap l vs (.slice (some ⟨gu, 0, none⟩) l.length l.length)) (hu : Blk w gu 3 (uarr (usesR l))) (hs : l[i]? = some s) (ht : l[j]? = some t) (hj : s.args[0]? = some (j : Int)) (hji : j < i) (hb : ∀ s ∈ l, s.args.length ≤ 3 ∧ ∀ a ∈ s.args, 0 ≤ a ∧ a ≤ 100000) (hop : s.op = Oz.oSize) :
    Calls Try.prog 61 #[.pointer (some ⟨g, 0, none⟩), .int .i64 i] w (RepEnd base g gs cap l vs (.slice (some ⟨gu, 0, none⟩) l.length l.length) (Oz.matchesR l i) w) := by
  have hil := (List.getElem?_eq_some_iff.1 hs).1
  have hjl := (List.getElem?_eq_some_iff.1 ht).1
  have hcap := h.cap
  have hbase := h.base_le
  have x0 := h.ed.cell 0
  simp only [List.getElem?_toArray, List.getElem?_cons_zero] at x0
  obtain ⟨v, hv, ⟨y0, y1, y2, y3, y4⟩, ho⟩ := h.at_ hs
  obtain ⟨A, c, rfl⟩ := own_form ho
  obtain ⟨v2, hv2, ⟨z0, z1, z2, z3, z4⟩, ho2⟩ := h.at_ ht
  obtain ⟨A2, c2, rfl⟩ := own_form ho2
  have hul : (usesR l).length = l.length := usesK_len l _
  have HC := Lib.hid (once_step g gs gu cap i j l (usesR l) s t w h.edAt hu hul hs hj ht Oz.oFind)
  unfold Oz.oFind at HC
  obtain ⟨z, hz⟩ : ∃ z, z = decide (t.op = Oz.oFind ∧ (usesR l).getD j 0 = 1) := ⟨_, rfl⟩
  have hz' := hz
  unfold Oz.oFind at hz'
  rw [← hz'] at HC
  obtain ⟨R, hR⟩ : ∃ R, R = Oz.matchesR l i := ⟨_, rfl⟩
  rw [← hR]
  unfold Oz.matchesR Oz.onceR at hR
  have haj : Oz.arg s 0 = (j : Int) := by unfold Oz.arg; rw [List.getD_eq_getElem?_getD, hj]; rfl
  rw [at_get hs] at hR
  dsimp only at hR
  rw [haj, Int.toNat_natCast, at_get ht] at hR
  obtain ⟨n, hn⟩ : ∃ n, n = l.length := ⟨_, rfl⟩
  rw [← hn] at x0
  have HH := Lib.hid h
  have HN := Lib.hid hn
  have HBB := Lib.hid hb
  have HI : Hid (i < l.length) := Lib.hid hil
  have HJ : Hid (j < l.length) := Lib.hid hjl
  have q0 : (i : Int) < (n : Int) := by omega
  have q1 : (0 : Int) ≤ (i : Int) := by omega
  have q2 : (j : Int) < (n : Int) := by omega
  have q3 : (0 : Int) ≤ (j : Int) := by omega
  have q4 : j < n := by omega
  have q5 : i < n := by omega
  have hgl := h.ed.lt
  have hgsl := h.gs_lt
  have HO2 := Lib.hid ho2
  have HDIS := Lib.hid (own_apart h hv2)
  have HT := Lib.hid ht
  have HS := Lib.hid hs
  have HX0 := Lib.hid x0
  obtain ⟨k2, hk2⟩ : ∃ k2, k2 = t.args.length := ⟨_, rfl⟩
  rw [← hk2] at z1
  have HK2 := Lib.hid hk2
  obtain ⟨X, hX⟩ : ∃ X, X = t.text := ⟨_, rfl⟩
  rw [← hX] at z3
  have HXX := Lib.hid hX
  obtain ⟨op2, hop2⟩ : ∃ op2, op2 = t.op := ⟨_, rfl⟩
  rw [← hop2] at z0
  have HOP2 := Lib.hid hop2
  obtain ⟨num2, hnum2⟩ : ∃ num2, num2 = t.num := ⟨_, rfl⟩
  rw [← hnum2] at z2
  have HNUM2 := Lib.hid hnum2
  obtain ⟨ty2, hty2⟩ : ∃ ty2, ty2 = t.ty := ⟨_, rfl⟩
  rw [← hty2] at z4
  have HTY2 := Lib.hid hty2
  have HZ := Lib.hid hz
  rw [hop, if_neg (by decide)] at hR
  rw [hop] at y0
  unfold Oz.oSize at y0
  have HR := Lib.hid hR
  clear h hu hs ht hv ho hv2 ho2 hn hR hz hz' hop haj hj hb hk2 hX hop2 hnum2 hty2 hul
  go_enter Try.func61, Try.ntmps61
  go_wp2_with fail
  refine HC.out.mono ?_
  rintro e w1 ⟨rfl, hb1⟩
  have HB1 := Lib.hid hb1
  clear hb1 HC x0 y0
  cases z with
  | false =>
    have hz := of_decide_eq_false HZ.out.symm
    have HRN : Hid (R = none) := Lib.hid (by rw [HR.out, if_neg hz])
    clear hz
    go_wp2_with fail
    go_ret
    unfold RepEnd
    rw [HRN.out]
    exact ⟨rfl, HB1.out⟩
  | true =>
  have hz := of_decide_eq_true HZ.out.symm
  have HRE : Hid (∀ w, EdAt w g gs cap l (.slice (some ⟨gu, 0, none⟩) l.length l.length) → Calls Try.prog 82 #[.pointer (some ⟨g, 0, none⟩), .int .i64 i, .int .i64 j] w fun e w' => e = .returned (.bool (Oz.canR l i j)) ∧ Below w.heap.size w w') := Lib.hid (fun w h => replaceable_any g gs cap l _ w h j i hji HI.out)
  obtain ⟨cb, hcb⟩ : ∃ cb, cb = Oz.canR l i j := ⟨_, rfl⟩
  rw [← hcb] at HRE
  have HR2 := HR.out
  rw [if_pos hz] at HR2
  dsimp only at HR2
  rw [← hcb, at_get HT.out] at HR2
  have HR3 := Lib.hid HR2
  have HCB := Lib.hid hcb
  clear hz HR2 hcb
  go_wp2_with fail
  refine (HRE.out w1 (HH.out.below HB1.out).edAt).mono ?_
  rintro e w2 ⟨rfl, hb2⟩
  have HB2 := Lib.hid (HB1.out.trans (hb2.mono HB1.out.size))
  clear hb2 HRE
  cases cb with
  | false =>
    have HRN : Hid (R = none) := Lib.hid (by rw [HR3.out, if_pos rfl])
    go_wp2_with fail
    go_ret
    unfold RepEnd
    rw [HRN.out]
    exact ⟨rfl, HB2.out⟩
  | true =>
  rw [HXX.out] at z3
  obtain ⟨l9, hl9⟩ : ∃ l9, Oz.replaceR (l.set j (Oz.mk nMatches t.args 0 t.text 1)) i j = some l9 := replaceR_some (by rw [canR_set]; exact HCB.out.symm)
  have HRN : Hid (R = some l9) := Lib.hid (by rw [HR3.out, if_neg (by decide)]; exact hl9)
  have HL9 := Lib.hid hl9
  clear hl9
  have z0' := (HB2.out.cell (p := ⟨gs, _, none⟩) hgsl).trans z0
  have z1' := (HB2.out.cell (p := ⟨gs, _, none⟩) hgsl).trans z1
  have z2' := (HB2.out.cell (p := ⟨gs, _, none⟩) hgsl).trans z2
  have z3' := (HB2.out.cell (p := ⟨gs, _, none⟩) hgsl).trans z3
  have z4' := (HB2.out.cell (p := ⟨gs, _, none⟩) hgsl).trans z4
  have x0' := (HB2.out.cell (p := ⟨g, 0, none⟩) hgl).trans HX0.out
  go_upto_region 7 with (fail)
  obtain ⟨w3, hw3⟩ : ∃ w3, w3 = w2.alloc (.cells #[.string ⟨op2.toArray⟩, .slice A2 k2 c2, .int .i64 num2, .string ⟨t.text.toArray⟩, .int .i64 ty2] 25) := ⟨_, rfl⟩
  rw [← hw3]
  have hb3 : Below w2.heap.size w2 w3 := by rw [hw3]; exact below_alloc _ _
  have HB3 := Lib.hid (HB2.out.trans (hb3.mono HB2.out.size))
  have HS3 : Hid (Blk w3 w2.heap.size 25 #[.string ⟨op2.toArray⟩, .slice A2 k2 c2, .int .i64 num2, .string ⟨t.text.toArray⟩, .int .i64 ty2]) := Lib.hid (by rw [hw3]; exact Blk.new _ _ _)
  clear hw3 hb3 z0' z1' z2' z3' z4' x0'
  have s1 := HS3.out.cell 1
  have s3 := HS3.out.cell 3
  simp only [List.getElem?_toArray, List.getElem?_cons_zero, List.getElem?_cons_succ] at s1 s3
  have c0 := (HB3.out.cell (p := ⟨g, 0, none⟩) hgl).trans HX0.out
  have d0 := (HB3.out.cell (p := ⟨gs, _, none⟩) hgsl).trans z0
  have d1 := (HB3.out.cell (p := ⟨gs, _, none⟩) hgsl).trans z1
  have d2 := (HB3.out.cell (p := ⟨gs, _, none⟩) hgsl).trans z2
  have d3 := (HB3.out.cell (p := ⟨gs, _, none⟩) hgsl).trans z3
  have d4 := (HB3.out.cell (p := ⟨gs, _, none⟩) hgsl).trans z4
  obtain ⟨f0, f1, f2, f3, f4⟩ : w3.frozen? ⟨gs, j * 5, none⟩ = false ∧ w3.frozen? ⟨gs, j * 5 + 1, none⟩ = false ∧ w3.frozen? ⟨gs, j * 5 + 2, none⟩ = false ∧ w3.frozen? ⟨gs, j * 5 + 3, none⟩ = false ∧ w3.frozen? ⟨gs, j * 5 + 4, none⟩ = false := by
    obtain ⟨cs, e1, _⟩ := (HH.out.below HB3.out).blk
    exact ⟨e1.frozen _, e1.frozen _, e1.frozen _, e1.frozen _, e1.frozen _⟩
  have hp := (HH.out.below HB3.out).put HJ.out (Oz.mk nMatches t.args 0 t.text 1) (.slice A2 t.args.length c2) (own_below HO2.out HB3.out) HDIS.out
  rw [← HK2.out] at hp
  have HP := Lib.hid hp.1
  have HF := Lib.hid (((FrX.refl base w).below HB3.out hbase).trans hp.2)
  clear hp z0 z1 z2 z3 z4
  have HMB : Hid (∀ s ∈ l.set j (Oz.mk nMatches t.args 0 t.text 1), s.args.length ≤ 3 ∧ ∀ a ∈ s.args, 0 ≤ a ∧ a ≤ 100000) := Lib.hid (fun s' hs' => by
    rcases List.mem_or_eq_of_mem_set hs' with h1 | rfl
    · exact HBB.out s' h1
    · exact HBB.out t (List.mem_of_getElem? HT.out))
  go_region
  have HE4 := Lib.hid (HP.out.below ((Below.refl _ _).drew))
  have HF4 := Lib.hid (HF.out.below ((Below.refl _ _).drew) HP.out.base_le)
  have HRP := Lib.hid (replace_any base g gs cap i j _ _ _ _ HE4.out hji (by rw [List.length_set]; exact HI.out) HMB.out)
  rw [HL9.out] at HRP
  clear HP HF HE4 d0 d1 d2 d3 d4 f0 f1 f2 f3 f4 c0
  go_wp2_with fail
  refine HRP.out.mono ?_
  intro e w5 h5
  have h5 : e = .returned (.bool true) ∧ (∃ vs9, EdX w5 base g gs cap l9 vs9 (.slice (some ⟨gu, 0, none⟩) l.length l.length)) ∧ FrX base _ w5 := h5
  obtain ⟨rfl, ⟨vs9, he9⟩, hf9⟩ := h5
  have HE9 := Lib.hid he9
  have HF9 := Lib.hid (HF4.out.trans hf9)
  clear he9 hf9 HRP
  go_wp2_with fail
  go_ret
  unfold RepEnd
  rw [HRN.out]
  exact ⟨rfl, ⟨_, HE9.out⟩, HF9.out⟩
set_option maxRecDepth 100000 in
set_option maxHeartbeats 8000000 in
theorem lenCut_0 (base g gs gu cap i j : Nat) (l : List St) (vs : List Value) (s t : St) (w : World) (h : EdX w base g gs cap l vs (.slice (some ⟨gu, 0, none⟩) l.length l.length)) (hu : Blk w gu 3 (uarr (usesR l))) (hs : l[i]? = some s) (ht : l[j]? = some t) (hj : s.args[0]? = some (j : Int)) (hji : j < i) (hb : ∀ s ∈ l, s.args.length ≤ 3 ∧ ∀ a ∈ s.args, 0 ≤ a ∧ a ≤ 100000) (hop : s.op = Oz.oLen) :
    Calls Try.prog 63 #[.pointer (some ⟨g, 0, none⟩), .int .i64 i] w (RepEnd base g gs cap l vs (.slice (some ⟨gu, 0, none⟩) l.length l.length) (Oz.lenCutR l i) w) := by
  have hil := (List.getElem?_eq_some_iff.1 hs).1
  have hjl := (List.getElem?_eq_some_iff.1 ht).1
  have hcap := h.cap
  have hbase := h.base_le
  have x0 := h.ed.cell 0
  simp only [List.getElem?_toArray, List.getElem?_cons_zero] at x0
  obtain ⟨v, hv, ⟨y0, y1, y2, y3, y4⟩, ho⟩ := h.at_ hs
  obtain ⟨A, c, rfl⟩ := own_form ho
  obtain ⟨v2, hv2, ⟨z0, z1, z2, z3, z4⟩, ho2⟩ := h.at_ ht
  obtain ⟨A2, c2, rfl⟩ := own_form ho2
  have hul : (usesR l).length = l.length := usesK_len l _
  have HC := Lib.hid (once_step g gs gu cap i j l (usesR l) s t w h.edAt hu hul hs hj ht Oz.oCut)
  unfold Oz.oCut at HC
  obtain ⟨z, hz⟩ : ∃ z, z = decide (t.op = Oz.oCut ∧ (usesR l).getD j 0 = 1) := ⟨_, rfl⟩
  have hz' := hz
  unfold Oz.oCut at hz'
  rw [← hz'] at HC
  obtain ⟨R, hR⟩ : ∃ R, R = Oz.lenCutR l i := ⟨_, rfl⟩
  rw [← hR]
  unfold Oz.lenCutR Oz.onceR at hR
  have haj : Oz.arg s 0 = (j : Int) := by unfold Oz.arg; rw [List.getD_eq_getElem?_getD, hj]; rfl
  rw [at_get hs] at hR
  dsimp only at hR
  rw [haj, Int.toNat_natCast, at_get ht] at hR
  obtain ⟨n, hn⟩ : ∃ n, n = l.length := ⟨_, rfl⟩
  rw [← hn] at x0
  have HH := Lib.hid h
  have HN := Lib.hid hn
  have HBB := Lib.hid hb
  have HI : Hid (i < l.length) := Lib.hid hil
  have HJ : Hid (j < l.length) := Lib.hid hjl
  have q0 : (i : Int) < (n : Int) := by omega
  have q1 : (0 : Int) ≤ (i : Int) := by omega
  have q2 : (j : Int) < (n : Int) := by omega
  have q3 : (0 : Int) ≤ (j : Int) := by omega
  have q4 : j < n := by omega
  have q5 : i < n := by omega
  have hgl := h.ed.lt
  have hgsl := h.gs_lt
  have HO2 := Lib.hid ho2
  have HDIS := Lib.hid (own_apart h hv2)
  have HT := Lib.hid ht
  have HS := Lib.hid hs
  have HX0 := Lib.hid x0
  obtain ⟨k2, hk2⟩ : ∃ k2, k2 = t.args.length := ⟨_, rfl⟩
  rw [← hk2] at z1
  have HK2 := Lib.hid hk2
  obtain ⟨X, hX⟩ : ∃ X, X = t.text := ⟨_, rfl⟩
  rw [← hX] at z3
  have HXX := Lib.hid hX
  obtain ⟨op2, hop2⟩ : ∃ op2, op2 = t.op := ⟨_, rfl⟩
  rw [← hop2] at z0
  have HOP2 := Lib.hid hop2
  obtain ⟨num2, hnum2⟩ : ∃ num2, num2 = t.num := ⟨_, rfl⟩
  rw [← hnum2] at z2
  have HNUM2 := Lib.hid hnum2
  obtain ⟨ty2, hty2⟩ : ∃ ty2, ty2 = t.ty := ⟨_, rfl⟩
  rw [← hty2] at z4
  have HTY2 := Lib.hid hty2
  have HZ := Lib.hid hz
  rw [hop, if_neg (by decide)] at hR
  rw [hop] at y0
  unfold Oz.oLen at y0
  have HR := Lib.hid hR
  clear h hu hs ht hv ho hv2 ho2 hn hR hz hz' hop haj hj hb hk2 hX hop2 hnum2 hty2 hul
  go_enter Try.func63, Try.ntmps63
  go_wp2_with fail
  refine HC.out.mono ?_
  rintro e w1 ⟨rfl, hb1⟩
  have HB1 := Lib.hid hb1
  clear hb1 HC x0 y0
  cases z with
  | false =>
    have hz := of_decide_eq_false HZ.out.symm
    have HRN : Hid (R = none) := Lib.hid (by rw [HR.out, if_neg hz])
    clear hz
    go_wp2_with fail
    go_ret
    unfold RepEnd
    rw [HRN.out]
    exact ⟨rfl, HB1.out⟩
  | true =>
  have hz := of_decide_eq_true HZ.out.symm
  have HRE : Hid (∀ w, EdAt w g gs cap l (.slice (some ⟨gu, 0, none⟩) l.length l.length) → Calls Try.prog 82 #[.pointer (some ⟨g, 0, none⟩), .int .i64 i, .int .i64 j] w fun e w' => e = .returned (.bool (Oz.canR l i j)) ∧ Below w.heap.size w w') := Lib.hid (fun w h => replaceable_any g gs cap l _ w h j i hji HI.out)
  obtain ⟨cb, hcb⟩ : ∃ cb, cb = Oz.canR l i j := ⟨_, rfl⟩
  rw [← hcb] at HRE
  have HR2 := HR.out
  rw [if_pos hz] at HR2
  dsimp only at HR2
  rw [← hcb, at_get HT.out] at HR2
  have HR3 := Lib.hid HR2
  have HCB := Lib.hid hcb
  clear hz HR2 hcb
  go_wp2_with fail
  refine (HRE.out w1 (HH.out.below HB1.out).edAt).mono ?_
  rintro e w2 ⟨rfl, hb2⟩
  have HB2 := Lib.hid (HB1.out.trans (hb2.mono HB1.out.size))
  clear hb2 HRE
  cases cb with
  | false =>
    have HRN : Hid (R = none) := Lib.hid (by rw [HR3.out, if_pos rfl])
    go_wp2_with fail
    go_ret
    unfold RepEnd
    rw [HRN.out]
    exact ⟨rfl, HB2.out⟩
  | true =>
  obtain ⟨l9, hl9⟩ : ∃ l9, Oz.replaceR (l.set j (Oz.mk nLencut t.args 0 [] 1)) i j = some l9 := replaceR_some (by rw [canR_set]; exact HCB.out.symm)
  have HRN : Hid (R = some l9) := Lib.hid (by rw [HR3.out, if_neg (by decide)]; exact hl9)
  have HL9 := Lib.hid hl9
  clear hl9
  have z0' := (HB2.out.cell (p := ⟨gs, _, none⟩) hgsl).trans z0
  have z1' := (HB2.out.cell (p := ⟨gs, _, none⟩) hgsl).trans z1
  have z2' := (HB2.out.cell (p := ⟨gs, _, none⟩) hgsl).trans z2
  have z3' := (HB2.out.cell (p := ⟨gs, _, none⟩) hgsl).trans z3
  have z4' := (HB2.out.cell (p := ⟨gs, _, none⟩) hgsl).trans z4
  have x0' := (HB2.out.cell (p := ⟨g, 0, none⟩) hgl).trans HX0.out
  go_upto_region 6 with (fail)
  obtain ⟨w3, hw3⟩ : ∃ w3, w3 = w2 := ⟨_, rfl⟩
  rw [← hw3]
  have HB3 : Hid (Below w.heap.size w w3) := Lib.hid (by rw [hw3]; exact HB2.out)
  clear hw3 z0' z1' z2' z3' z4' x0'
  have c0 := (HB3.out.cell (p := ⟨g, 0, none⟩) hgl).trans HX0.out
  have d0 := (HB3.out.cell (p := ⟨gs, _, none⟩) hgsl).trans z0
  have d1 := (HB3.out.cell (p := ⟨gs, _, none⟩) hgsl).trans z1
  have d2 := (HB3.out.cell (p := ⟨gs, _, none⟩) hgsl).trans z2
  have d3 := (HB3.out.cell (p := ⟨gs, _, none⟩) hgsl).trans z3
  have d4 := (HB3.out.cell (p := ⟨gs, _, none⟩) hgsl).trans z4
  obtain ⟨f0, f1, f2, f3, f4⟩ : w3.frozen? ⟨gs, j * 5, none⟩ = false ∧ w3.frozen? ⟨gs, j * 5 + 1, none⟩ = false ∧ w3.frozen? ⟨gs, j * 5 + 2, none⟩ = false ∧ w3.frozen? ⟨gs, j * 5 + 3, none⟩ = false ∧ w3.frozen? ⟨gs, j * 5 + 4, none⟩ = false := by
    obtain ⟨cs, e1, _⟩ := (HH.out.below HB3.out).blk
    exact ⟨e1.frozen _, e1.frozen _, e1.frozen _, e1.frozen _, e1.frozen _⟩
  have hp := (HH.out.below HB3.out).put HJ.out (Oz.mk nLencut t.args 0 [] 1) (.slice A2 t.args.length c2) (own_below HO2.out HB3.out) HDIS.out
  rw [← HK2.out] at hp
  have HP := Lib.hid hp.1
  have HF := Lib.hid (((FrX.refl base w).below HB3.out hbase).trans hp.2)
  clear hp z0 z1 z2 z3 z4
  have HMB : Hid (∀ s ∈ l.set j (Oz.mk nLencut t.args 0 [] 1), s.args.length ≤ 3 ∧ ∀ a ∈ s.args, 0 ≤ a ∧ a ≤ 100000) := Lib.hid (fun s' hs' => by
    rcases List.mem_or_eq_of_mem_set hs' with h1 | rfl
    · exact HBB.out s' h1
    · exact HBB.out t (List.mem_of_getElem? HT.out))
  go_region
  have HE4 := Lib.hid (HP.out.below ((Below.refl _ _).drew))
  have HF4 := Lib.hid (HF.out.below ((Below.refl _ _).drew) HP.out.base_le)
  have HRP := Lib.hid (replace_any base g gs cap i j _ _ _ _ HE4.out hji (by rw [List.length_set]; exact HI.out) HMB.out)
  rw [HL9.out] at HRP
  clear HP HF HE4 d0 d1 d2 d3 d4 f0 f1 f2 f3 f4 c0
  go_wp2_with fail
  refine HRP.out.mono ?_
  intro e w5 h5
  have h5 : e = .returned (.bool true) ∧ (∃ vs9, EdX w5 base g gs cap l9 vs9 (.slice (some ⟨gu, 0, none⟩) l.length l.length)) ∧ FrX base _ w5 := h5
  obtain ⟨rfl, ⟨vs9, he9⟩, hf9⟩ := h5
  have HE9 := Lib.hid he9
  have HF9 := Lib.hid (HF4.out.trans hf9)
  clear he9 hf9 HRP
  go_wp2_with fail
  go_ret
  unfold RepEnd
  rw [HRN.out]
  exact ⟨rfl, ⟨_, HE9.out⟩, HF9.out⟩
set_option maxRecDepth 100000 in
set_option maxHeartbeats 8000000 in
theorem firstFind_0 (base g gs gu cap i j : Nat) (l : List St) (vs : List Value) (s t : St) (w : World) (h : EdX w base g gs cap l vs (.slice (some ⟨gu, 0, none⟩) l.length l.length)) (hu : Blk w gu 3 (uarr (usesR l))) (hs : l[i]? = some s) (ht : l[j]? = some t) (hj : s.args[0]? = some (j : Int)) (hji : j < i) (hb : ∀ s ∈ l, s.args.length ≤ 3 ∧ ∀ a ∈ s.args, 0 ≤ a ∧ a ≤ 100000) (hop : s.op = Oz.oFirst) (a b : Int) (ht2 : t.args[0]? = some a) (hs2 : s.args[1]? = some b) :
    Calls Try.prog 62 #[.pointer (some ⟨g, 0, none⟩), .int .i64 i] w (RepEnd base g gs cap l vs (.slice (some ⟨gu, 0, none⟩) l.length l.length) (Oz.firstFindR l i) w) := by
  have hil := (List.getElem?_eq_some_iff.1 hs).1
  have hjl := (List.getElem?_eq_some_iff.1 ht).1
  have hcap := h.cap
  have hbase := h.base_le
  have x0 := h.ed.cell 0
  simp only [List.getElem?_toArray, List.getElem?_cons_zero] at x0
  obtain ⟨v, hv, ⟨y0, y1, y2, y3, y4⟩, ho⟩ := h.at_ hs
  obtain ⟨A, c, rfl⟩ := own_form ho
  obtain ⟨v2, hv2, ⟨z0, z1, z2, z3, z4⟩, ho2⟩ := h.at_ ht
  obtain ⟨A2, c2, rfl⟩ := own_form ho2
  have hul : (usesR l).length = l.length := usesK_len l _
  have HC := Lib.hid (once_step g gs gu cap i j l (usesR l) s t w h.edAt hu hul hs hj ht Oz.oFind)
  unfold Oz.oFind at HC
  obtain ⟨z, hz⟩ : ∃ z, z = decide (t.op = Oz.oFind ∧ (usesR l).getD j 0 = 1) := ⟨_, rfl⟩
  have hz' := hz
  unfold Oz.oFind at hz'
  rw [← hz'] at HC
  obtain ⟨R, hR⟩ : ∃ R, R = Oz.firstFindR l i := ⟨_, rfl⟩
  rw [← hR]
  unfold Oz.firstFindR Oz.onceR at hR
  have haj : Oz.arg s 0 = (j : Int) := by unfold Oz.arg; rw [List.getD_eq_getElem?_getD, hj]; rfl
  rw [at_get hs] at hR
  dsimp only at hR
  rw [haj, Int.toNat_natCast, at_get ht] at hR
  obtain ⟨n, hn⟩ : ∃ n, n = l.length := ⟨_, rfl⟩
  rw [← hn] at x0
  have HH := Lib.hid h
  have HN := Lib.hid hn
  have HBB := Lib.hid hb
  have HI : Hid (i < l.length) := Lib.hid hil
  have HJ : Hid (j < l.length) := Lib.hid hjl
  have q0 : (i : Int) < (n : Int) := by omega
  have q1 : (0 : Int) ≤ (i : Int) := by omega
  have q2 : (j : Int) < (n : Int) := by omega
  have q3 : (0 : Int) ≤ (j : Int) := by omega
  have q4 : j < n := by omega
  have q5 : i < n := by omega
  have hgl := h.ed.lt
  have hgsl := h.gs_lt
  have HO2 := Lib.hid ho2
  have HDIS := Lib.hid (own_apart h hv2)
  have HT := Lib.hid ht
  have HS := Lib.hid hs
  have HX0 := Lib.hid x0
  obtain ⟨k2, hk2⟩ : ∃ k2, k2 = t.args.length := ⟨_, rfl⟩
  rw [← hk2] at z1
  have HK2 := Lib.hid hk2
  obtain ⟨X, hX⟩ : ∃ X, X = t.text := ⟨_, rfl⟩
  rw [← hX] at z3
  have HXX := Lib.hid hX
  obtain ⟨op2, hop2⟩ : ∃ op2, op2 = t.op := ⟨_, rfl⟩
  rw [← hop2] at z0
  have HOP2 := Lib.hid hop2
  obtain ⟨num2, hnum2⟩ : ∃ num2, num2 = t.num := ⟨_, rfl⟩
  rw [← hnum2] at z2
  have HNUM2 := Lib.hid hnum2
  obtain ⟨ty2, hty2⟩ : ∃ ty2, ty2 = t.ty := ⟨_, rfl⟩
  rw [← hty2] at z4
  have HTY2 := Lib.hid hty2
  have HZ := Lib.hid hz
  rw [hop, if_neg (by decide)] at hR
  rw [hop] at y0
  unfold Oz.oFirst at y0
  have ea : Oz.arg t 0 = a := by unfold Oz.arg; rw [List.getD_eq_getElem?_getD, ht2]; rfl
  have eb : Oz.arg s 1 = b := by unfold Oz.arg; rw [List.getD_eq_getElem?_getD, hs2]; rfl
  have hk3 : 1 ≤ k2 := by have := (List.getElem?_eq_some_iff.1 ht2).1; omega
  have p3 : (0 : Int) < (k2 : Int) := by omega
  have p5 : 0 < k2 := by omega
  obtain ⟨k, hk⟩ : ∃ k, k = s.args.length := ⟨_, rfl⟩
  rw [← hk] at y1
  have hk4 : 2 ≤ k := by have := (List.getElem?_eq_some_iff.1 hs2).1; omega
  have p6 : (1 : Int) < (k : Int) := by omega
  have p7 : 1 < k := by omega
  obtain ⟨r, c3, hvr, _, hbr, hrl, hcr⟩ := own_at ho2 (by omega)
  injection hvr with hA hkk hcc
  clear hkk
  subst hA hcc
  have b0 : w.cell? ⟨r, 0, none⟩ = some (.int .i64 a) := hcr 0 _ (by rw [List.getElem?_map, ht2]; rfl)
  obtain ⟨q, c4, hvq, _, hbq, hql, hcq⟩ := own_at ho (by omega)
  injection hvq with hA hkk hcc
  clear hkk
  subst hA hcc
  have b1 : w.cell? ⟨q, 1, none⟩ = some (.int .i64 b) := hcq 1 _ (by rw [List.getElem?_map, hs2]; rfl)
  have HY : Hid (w.cell? ⟨gs, i * 5, none⟩ = some (.string ⟨#[102, 105, 114, 115, 116]⟩) ∧ w.cell? ⟨gs, i * 5 + 1, none⟩ = some (.slice (some ⟨q, 0, none⟩) k c) ∧ w.cell? ⟨gs, i * 5 + 2, none⟩ = some (.int .i64 s.num) ∧ w.cell? ⟨gs, i * 5 + 3, none⟩ = some (.string ⟨s.text.toArray⟩) ∧ w.cell? ⟨gs, i * 5 + 4, none⟩ = some (.int .i64 s.ty)) := Lib.hid ⟨y0, y1, y2, y3, y4⟩
  have HMB : Hid (∀ s ∈ l.set i (Oz.mk nFirstfind [a, b] 0 t.text 4), s.args.length ≤ 3 ∧ ∀ a ∈ s.args, 0 ≤ a ∧ a ≤ 100000) := Lib.hid (fun s' hs' => by
    rcases List.mem_or_eq_of_mem_set hs' with h1 | rfl
    · exact hb s' h1
    · refine ⟨by show 2 ≤ 3; decide, fun x hx => ?_⟩
      have h3 := (hb t (List.mem_of_getElem? ht)).2 a (List.mem_of_getElem? ht2)
      have h4 := (hb s (List.mem_of_getElem? hs)).2 b (List.mem_of_getElem? hs2)
      simp only [Oz.mk, List.mem_cons, List.not_mem_nil, or_false] at hx
      rcases hx with rfl | rfl <;> assumption)
  rw [eb] at hR
  have HEA := Lib.hid ea
  have HHB0 := Lib.hid b0
  have HHB1 := Lib.hid b1
  have HJ1 : Hid (j + 1 < l.length) := Lib.hid (by omega)
  clear y1 y2 y3 y4 ea eb hcr hcq hk b0 b1 ht2 hs2
  have HR := Lib.hid hR
  clear h hu hs ht hv ho hv2 ho2 hn hR hz hz' hop haj hj hb hk2 hX hop2 hnum2 hty2 hul
  go_enter Try.func62, Try.ntmps62
  go_wp2_with fail
  refine HC.out.mono ?_
  rintro e w1 ⟨rfl, hb1⟩
  have HB1 := Lib.hid hb1
  clear hb1 HC x0 y0
  cases z with
  | false =>
    have hz := of_decide_eq_false HZ.out.symm
    have HRN : Hid (R = none) := Lib.hid (by rw [HR.out, if_neg hz])
    clear hz
    go_wp2_with fail
    go_ret
    unfold RepEnd
    rw [HRN.out]
    exact ⟨rfl, HB1.out⟩
  | true =>
  have hz := of_decide_eq_true HZ.out.symm
  have HRE : Hid (∀ w, EdAt w g gs cap l (.slice (some ⟨gu, 0, none⟩) l.length l.length) → Calls Try.prog 83 #[.pointer (some ⟨g, 0, none⟩), .int .i64 j, .int .i64 i] w fun e w' => e = .returned (.bool (Oz.safeB l j i)) ∧ Below w.heap.size w w') := Lib.hid (fun w h => safeBetween_any g gs cap l _ w h j i hji (Nat.le_of_lt HI.out))
  obtain ⟨cb, hcb⟩ : ∃ cb, cb = Oz.safeB l j i := ⟨_, rfl⟩
  rw [← hcb] at HRE
  have HR2 := HR.out
  rw [if_pos hz] at HR2
  dsimp only at HR2
  rw [← hcb, at_get HT.out] at HR2
  have HR3 := Lib.hid HR2
  have HCB := Lib.hid hcb
  clear hz HR2 hcb
  go_wp2_with fail
  refine (HRE.out w1 (HH.out.below HB1.out).edAt).mono ?_
  rintro e w2 ⟨rfl, hb2⟩
  have HB2 := Lib.hid (HB1.out.trans (hb2.mono HB1.out.size))
  clear hb2 HRE
  cases cb with
  | false =>
    have HRN : Hid (R = none) := Lib.hid (by rw [HR3.out, if_pos rfl])
    go_wp2_with fail
    go_ret
    unfold RepEnd
    rw [HRN.out]
    exact ⟨rfl, HB2.out⟩
  | true =>
  have HRN : Hid (R = some (Oz.removeR (l.set i (Oz.mk nFirstfind [a, b] 0 t.text 4)) j)) := Lib.hid (by rw [HR3.out, if_neg (by decide), HEA.out])
  have z0' := (HB2.out.cell (p := ⟨gs, _, none⟩) hgsl).trans z0
  have z1' := (HB2.out.cell (p := ⟨gs, _, none⟩) hgsl).trans z1
  have z2' := (HB2.out.cell (p := ⟨gs, _, none⟩) hgsl).trans z2
  have z3' := (HB2.out.cell (p := ⟨gs, _, none⟩) hgsl).trans z3
  have z4' := (HB2.out.cell (p := ⟨gs, _, none⟩) hgsl).trans z4
  have x0' := (HB2.out.cell (p := ⟨g, 0, none⟩) hgl).trans HX0.out
  go_upto_region 7 with (fail)
  obtain ⟨w3, hw3⟩ : ∃ w3, w3 = w2.alloc (.cells #[.string ⟨op2.toArray⟩, .slice (some ⟨r, 0, none⟩) k2 c2, .int .i64 num2, .string ⟨X.toArray⟩, .int .i64 ty2] 25) := ⟨_, rfl⟩
  rw [← hw3]
  have hb3 : Below w2.heap.size w2 w3 := by rw [hw3]; exact below_alloc _ _
  have HB3 := Lib.hid (HB2.out.trans (hb3.mono HB2.out.size))
  have HS3 : Hid (Blk w3 w2.heap.size 25 #[.string ⟨op2.toArray⟩, .slice (some ⟨r, 0, none⟩) k2 c2, .int .i64 num2, .string ⟨X.toArray⟩, .int .i64 ty2]) := Lib.hid (by rw [hw3]; exact Blk.new _ _ _)
  clear hw3 hb3 z0' z1' z2' z3' z4' x0' z0 z1 z2 z3 z4
  have s1 := HS3.out.cell 1
  simp only [List.getElem?_toArray, List.getElem?_cons_zero, List.getElem?_cons_succ] at s1
  have e0 := (HB3.out.cell (p := ⟨r, 0, none⟩) hrl).trans HHB0.out
  have e1 := (HB3.out.cell (p := ⟨q, 1, none⟩) hql).trans HHB1.out
  have c0 := (HB3.out.cell (p := ⟨g, 0, none⟩) hgl).trans HX0.out
  have d1 := (HB3.out.cell (p := ⟨gs, _, none⟩) hgsl).trans HY.out.2.1
  have l1 := HS3.out.lt
  have l2 : g < w3.heap.size := Nat.lt_of_lt_of_le hgl HB3.out.size
  have l3 : gs < w3.heap.size := Nat.lt_of_lt_of_le hgsl HB3.out.size
  have l4 : q < w3.heap.size := Nat.lt_of_lt_of_le hql HB3.out.size
  have l5 : r < w3.heap.size := Nat.lt_of_lt_of_le hrl HB3.out.size
  go_region
  clear s1 e0 e1 c0 d1 l1 l2 l3 l4 l5
  obtain ⟨w4, hw4⟩ : ∃ w4, w4 = (w3.alloc (.cells #[.int .i64 a, .int .i64 b] 3)).drew := ⟨_, rfl⟩
  rw [← hw4]
  have hb4 : Below w3.heap.size w3 w4 := by rw [hw4]; exact (below_alloc _ _).drew
  have HB4 := Lib.hid (HB3.out.trans (hb4.mono HB3.out.size))
  have HS4 := Lib.hid (HS3.out.below hb4 HS3.out.lt)
  have HO4 : Hid (w4.ownsRow w.heap.size 3 1 (.slice (some ⟨w3.heap.size, 0, none⟩) 2 2) 2 [.int .i64 a, .int .i64 b]) := Lib.hid (by rw [hw4]; exact ((own_new w3 [a, b] (by show 2 ≤ 100; decide)).mono HB3.out.size).drew)
  clear hw4 hb4
  have s3 := HS4.out.cell 3
  simp only [List.getElem?_toArray, List.getElem?_cons_zero, List.getElem?_cons_succ] at s3
  have c0 := (HB4.out.cell (p := ⟨g, 0, none⟩) hgl).trans HX0.out
  have hc2 := fun m => HB4.out.cell (p := ⟨gs, m, none⟩) hgsl
  have d0 := (hc2 _).trans HY.out.1
  have d1 := (hc2 _).trans HY.out.2.1
  have d2 := (hc2 _).trans HY.out.2.2.1
  have d3 := (hc2 _).trans HY.out.2.2.2.1
  have d4 := (hc2 _).trans HY.out.2.2.2.2
  obtain ⟨f0, f1, f2, f3, f4⟩ : w4.frozen? ⟨gs, i * 5, none⟩ = false ∧ w4.frozen? ⟨gs, i * 5 + 1, none⟩ = false ∧ w4.frozen? ⟨gs, i * 5 + 2, none⟩ = false ∧ w4.frozen? ⟨gs, i * 5 + 3, none⟩ = false ∧ w4.frozen? ⟨gs, i * 5 + 4, none⟩ = false := by
    obtain ⟨cs, e1, _⟩ := (HH.out.below HB4.out).blk
    exact ⟨e1.frozen _, e1.frozen _, e1.frozen _, e1.frozen _, e1.frozen _⟩
  have hp := HH.out.putFresh HB4.out HI.out (Oz.mk nFirstfind [a, b] 0 X 4) _ HO4.out
  have HP := Lib.hid hp.1
  have HF := Lib.hid hp.2
  rw [← HXX.out] at HMB HRN
  clear hp hc2
  go_wp2_with fail
  go_region
  have HRM := Lib.hid (remove_any base g gs cap j _ _ _ _ (HP.out.below (Below.refl _ _).drew) (by rw [List.length_set]; exact HJ1.out) HMB.out)
  have HF3 := Lib.hid (HF.out.below (Below.refl _ _).drew HP.out.base_le)
  clear HP HF d0 d1 d2 d3 d4 f0 f1 f2 f3 f4 c0 s3
  go_wp2_with fail
  refine HRM.out.mono ?_
  rintro e w5 ⟨rfl, he5, hf5⟩
  have HE5 := Lib.hid he5
  have HF5 := Lib.hid (HF3.out.trans hf5)
  clear he5 hf5 HRM
  go_wp2_with fail
  go_ret
  unfold RepEnd
  rw [HRN.out]
  exact ⟨rfl, ⟨_, HE5.out⟩, HF5.out⟩
set_option maxRecDepth 100000 in
set_option maxHeartbeats 4000000 in
theorem firstFind_1 (base g gs gu cap i j : Nat) (l : List St) (vs : List Value) (s t : St) (w : World) (h : EdX w base g gs cap l vs (.slice (some ⟨gu, 0, none⟩) l.length l.length)) (hu : Blk w gu 3 (uarr (usesR l))) (hs : l[i]? = some s) (ht : l[j]? = some t) (hj : s.args[0]? = some (j : Int)) (_hji : j < i) (hb : ∀ s ∈ l, s.args.length ≤ 3 ∧ ∀ a ∈ s.args, 0 ≤ a ∧ a ≤ 100000) (hop : s.op = Oz.oFirst) (hno : t.op ≠ Oz.oFind) :
    Calls Try.prog 62 #[.pointer (some ⟨g, 0, none⟩), .int .i64 i] w (RepEnd base g gs cap l vs (.slice (some ⟨gu, 0, none⟩) l.length l.length) (Oz.firstFindR l i) w) := by
  have hil := (List.getElem?_eq_some_iff.1 hs).1
  have hjl := (List.getElem?_eq_some_iff.1 ht).1
  have hcap := h.cap
  have hbase := h.base_le
  have x0 := h.ed.cell 0
  simp only [List.getElem?_toArray, List.getElem?_cons_zero] at x0
  obtain ⟨v, hv, ⟨y0, y1, y2, y3, y4⟩, ho⟩ := h.at_ hs
  obtain ⟨A, c, rfl⟩ := own_form ho
  obtain ⟨v2, hv2, ⟨z0, z1, z2, z3, z4⟩, ho2⟩ := h.at_ ht
  obtain ⟨A2, c2, rfl⟩ := own_form ho2
  have hul : (usesR l).length = l.length := usesK_len l _
  have HC := Lib.hid (once_step g gs gu cap i j l (usesR l) s t w h.edAt hu hul hs hj ht Oz.oFind)
  unfold Oz.oFind at HC
  obtain ⟨z, hz⟩ : ∃ z, z = decide (t.op = Oz.oFind ∧ (usesR l).getD j 0 = 1) := ⟨_, rfl⟩
  have hz' := hz
  unfold Oz.oFind at hz'
  rw [← hz'] at HC
  obtain ⟨R, hR⟩ : ∃ R, R = Oz.firstFindR l i := ⟨_, rfl⟩
  rw [← hR]
  unfold Oz.firstFindR Oz.onceR at hR
  have haj : Oz.arg s 0 = (j : Int) := by unfold Oz.arg; rw [List.getD_eq_getElem?_getD, hj]; rfl
  rw [at_get hs] at hR
  dsimp only at hR
  rw [haj, Int.toNat_natCast, at_get ht] at hR
  obtain ⟨n, hn⟩ : ∃ n, n = l.length := ⟨_, rfl⟩
  rw [← hn] at x0
  have HH := Lib.hid h
  have HN := Lib.hid hn
  have HBB := Lib.hid hb
  have HI : Hid (i < l.length) := Lib.hid hil
  have HJ : Hid (j < l.length) := Lib.hid hjl
  have q0 : (i : Int) < (n : Int) := by omega
  have q1 : (0 : Int) ≤ (i : Int) := by omega
  have q2 : (j : Int) < (n : Int) := by omega
  have q3 : (0 : Int) ≤ (j : Int) := by omega
  have q4 : j < n := by omega
  have q5 : i < n := by omega
  have hgl := h.ed.lt
  have hgsl := h.gs_lt
  have HO2 := Lib.hid ho2
  have HDIS := Lib.hid (own_apart h hv2)
  have HT := Lib.hid ht
  have HS := Lib.hid hs
  have HX0 := Lib.hid x0
  obtain ⟨k2, hk2⟩ : ∃ k2, k2 = t.args.length := ⟨_, rfl⟩
  rw [← hk2] at z1
  have HK2 := Lib.hid hk2
  obtain ⟨X, hX⟩ : ∃ X, X = t.text := ⟨_, rfl⟩
  rw [← hX] at z3
  have HXX := Lib.hid hX
  obtain ⟨op2, hop2⟩ : ∃ op2, op2 = t.op := ⟨_, rfl⟩
  rw [← hop2] at z0
  have HOP2 := Lib.hid hop2
  obtain ⟨num2, hnum2⟩ : ∃ num2, num2 = t.num := ⟨_, rfl⟩
  rw [← hnum2] at z2
  have HNUM2 := Lib.hid hnum2
  obtain ⟨ty2, hty2⟩ : ∃ ty2, ty2 = t.ty := ⟨_, rfl⟩
  rw [← hty2] at z4
  have HTY2 := Lib.hid hty2
  have HZ := Lib.hid hz
  rw [hop, if_neg (by decide)] at hR
  rw [hop] at y0
  unfold Oz.oFirst at y0
  obtain rfl : z = false := by rw [hz]; exact decide_eq_false (fun e => hno e.1)
  have HR := Lib.hid hR
  clear h hu hs ht hv ho hv2 ho2 hn hR hz hz' hop haj hj hb hk2 hX hop2 hnum2 hty2 hul
  go_enter Try.func62, Try.ntmps62
  go_wp2_with fail
  refine HC.out.mono ?_
  rintro e w1 ⟨rfl, hb1⟩
  have HB1 := Lib.hid hb1
  clear hb1 HC x0 y0
  have hz := of_decide_eq_false HZ.out.symm
  have HRN : Hid (R = none) := Lib.hid (by rw [HR.out, if_neg hz])
  clear hz
  go_wp2_with fail
  go_ret
  unfold RepEnd
  rw [HRN.out]
  exact ⟨rfl, HB1.out⟩
set_option maxRecDepth 100000 in
theorem matches_no (base g gs cap i : Nat) (l : List St) (vs : List Value) (V : Value) (s : St) (w : World) (h : EdX w base g gs cap l vs V) (hs : l[i]? = some s) (hop : s.op ≠ Oz.oSize) :
    Calls Try.prog 61 #[.pointer (some ⟨g, 0, none⟩), .int .i64 i] w (RepEnd base g gs cap l vs V (Oz.matchesR l i) w) := by
  have hil := (List.getElem?_eq_some_iff.1 hs).1
  have x0 := h.ed.cell 0
  simp only [List.getElem?_toArray, List.getElem?_cons_zero] at x0
  obtain ⟨v, hv, ⟨y0, y1, y2, y3, y4⟩, ho⟩ := h.at_ hs
  obtain ⟨R, hR⟩ : ∃ R, R = Oz.matchesR l i := ⟨_, rfl⟩
  rw [← hR]
  unfold Oz.matchesR at hR
  rw [at_get hs] at hR
  have HRN : Hid (R = none) := Lib.hid (by rw [hR, if_pos hop])
  obtain ⟨n, hn⟩ : ∃ n, n = l.length := ⟨_, rfl⟩
  rw [← hn] at hil x0
  have q0 : (i : Int) < (n : Int) := by omega
  have q1 : (0 : Int) ≤ (i : Int) := by omega
  have e1 : (s.op == [115, 105, 122, 101]) = false := beq_eq_false_iff_ne.2 hop
  clear h hs hv ho hn hR hop
  go_enter Try.func61, Try.ntmps61
  go_wp2_with fail
  go_ret
  unfold RepEnd
  rw [HRN.out]
  exact ⟨rfl, Below.refl _ _⟩
theorem matches_any (base g gs gu cap i : Nat) (l : List St) (vs : List Value) (s : St) (w : World) (h : EdX w base g gs cap l vs (.slice (some ⟨gu, 0, none⟩) l.length l.length)) (hu : Blk w gu 3 (uarr (usesR l))) (hs : l[i]? = some s) (hc : checkR l = 0) :
    Calls Try.prog 61 #[.pointer (some ⟨g, 0, none⟩), .int .i64 i] w (RepEnd base g gs cap l vs (.slice (some ⟨gu, 0, none⟩) l.length l.length) (Oz.matchesR l i) w) := by
  by_cases hop : s.op = Oz.oSize
  · have hal := ok_arity hc hs 1 (by rw [hop]; kernel_rfl)
    obtain ⟨j, t, hj, hji, ht, _, _⟩ := ok_at hc hs (k := 0) (by omega)
    exact matches_0 base g gs gu cap i j l vs s t w h hu hs ht hj hji (ok_bd hc) hop
  · exact matches_no base g gs cap i l vs _ s w h hs hop
set_option maxRecDepth 100000 in
theorem lenCut_no (base g gs cap i : Nat) (l : List St) (vs : List Value) (V : Value) (s : St) (w : World) (h : EdX w base g gs cap l vs V) (hs : l[i]? = some s) (hop : s.op ≠ Oz.oLen) :
    Calls Try.prog 63 #[.pointer (some ⟨g, 0, none⟩), .int .i64 i] w (RepEnd base g gs cap l vs V (Oz.lenCutR l i) w) := by
  have hil := (List.getElem?_eq_some_iff.1 hs).1
  have x0 := h.ed.cell 0
  simp only [List.getElem?_toArray, List.getElem?_cons_zero] at x0
  obtain ⟨v, hv, ⟨y0, y1, y2, y3, y4⟩, ho⟩ := h.at_ hs
  obtain ⟨R, hR⟩ : ∃ R, R = Oz.lenCutR l i := ⟨_, rfl⟩
  rw [← hR]
  unfold Oz.lenCutR at hR
  rw [at_get hs] at hR
  have HRN : Hid (R = none) := Lib.hid (by rw [hR, if_pos hop])
  obtain ⟨n, hn⟩ : ∃ n, n = l.length := ⟨_, rfl⟩
  rw [← hn] at hil x0
  have q0 : (i : Int) < (n : Int) := by omega
  have q1 : (0 : Int) ≤ (i : Int) := by omega
  have e1 : (s.op == [108, 101, 110]) = false := beq_eq_false_iff_ne.2 hop
  clear h hs hv ho hn hR hop
  go_enter Try.func63, Try.ntmps63
  go_wp2_with fail
  go_ret
  unfold RepEnd
  rw [HRN.out]
  exact ⟨rfl, Below.refl _ _⟩
theorem lenCut_any (base g gs gu cap i : Nat) (l : List St) (vs : List Value) (s : St) (w : World) (h : EdX w base g gs cap l vs (.slice (some ⟨gu, 0, none⟩) l.length l.length)) (hu : Blk w gu 3 (uarr (usesR l))) (hs : l[i]? = some s) (hc : checkR l = 0) :
    Calls Try.prog 63 #[.pointer (some ⟨g, 0, none⟩), .int .i64 i] w (RepEnd base g gs cap l vs (.slice (some ⟨gu, 0, none⟩) l.length l.length) (Oz.lenCutR l i) w) := by
  by_cases hop : s.op = Oz.oLen
  · have hal := ok_arity hc hs 1 (by rw [hop]; kernel_rfl)
    obtain ⟨j, t, hj, hji, ht, _, _⟩ := ok_at hc hs (k := 0) (by omega)
    exact lenCut_0 base g gs gu cap i j l vs s t w h hu hs ht hj hji (ok_bd hc) hop
  · exact lenCut_no base g gs cap i l vs _ s w h hs hop
set_option maxRecDepth 100000 in
theorem firstFind_no (base g gs cap i : Nat) (l : List St) (vs : List Value) (V : Value) (s : St) (w : World) (h : EdX w base g gs cap l vs V) (hs : l[i]? = some s) (hop : s.op ≠ Oz.oFirst) :
    Calls Try.prog 62 #[.pointer (some ⟨g, 0, none⟩), .int .i64 i] w (RepEnd base g gs cap l vs V (Oz.firstFindR l i) w) := by
  have hil := (List.getElem?_eq_some_iff.1 hs).1
  have x0 := h.ed.cell 0
  simp only [List.getElem?_toArray, List.getElem?_cons_zero] at x0
  obtain ⟨v, hv, ⟨y0, y1, y2, y3, y4⟩, ho⟩ := h.at_ hs
  obtain ⟨R, hR⟩ : ∃ R, R = Oz.firstFindR l i := ⟨_, rfl⟩
  rw [← hR]
  unfold Oz.firstFindR at hR
  rw [at_get hs] at hR
  have HRN : Hid (R = none) := Lib.hid (by rw [hR, if_pos hop])
  obtain ⟨n, hn⟩ : ∃ n, n = l.length := ⟨_, rfl⟩
  rw [← hn] at hil x0
  have q0 : (i : Int) < (n : Int) := by omega
  have q1 : (0 : Int) ≤ (i : Int) := by omega
  have e1 : (s.op == [102, 105, 114, 115, 116]) = false := beq_eq_false_iff_ne.2 hop
  clear h hs hv ho hn hR hop
  go_enter Try.func62, Try.ntmps62
  go_wp2_with fail
  go_ret
  unfold RepEnd
  rw [HRN.out]
  exact ⟨rfl, Below.refl _ _⟩
theorem firstFind_any (base g gs gu cap i : Nat) (l : List St) (vs : List Value) (s : St) (w : World) (h : EdX w base g gs cap l vs (.slice (some ⟨gu, 0, none⟩) l.length l.length)) (hu : Blk w gu 3 (uarr (usesR l))) (hs : l[i]? = some s) (hc : checkR l = 0) :
    Calls Try.prog 62 #[.pointer (some ⟨g, 0, none⟩), .int .i64 i] w (RepEnd base g gs cap l vs (.slice (some ⟨gu, 0, none⟩) l.length l.length) (Oz.firstFindR l i) w) := by
  by_cases hop : s.op = Oz.oFirst
  · have hal := ok_arity hc hs 2 (by rw [hop]; kernel_rfl)
    obtain ⟨j, t, hj, hji, ht, _, _⟩ := ok_at hc hs (k := 0) (by omega)
    obtain ⟨b, _, hb, _⟩ := ok_at hc hs (k := 1) (by omega)
    by_cases hz : t.op = Oz.oFind
    · have hal2 := ok_arity hc ht 1 (by rw [hz]; kernel_rfl)
      obtain ⟨a, _, ha, _⟩ := ok_at hc ht (k := 0) (by omega)
      exact firstFind_0 base g gs gu cap i j l vs s t w h hu hs ht hj hji (ok_bd hc) hop a b ha hb
    · exact firstFind_1 base g gs gu cap i j l vs s t w h hu hs ht hj hji (ok_bd hc) hop hz
  · exact firstFind_no base g gs cap i l vs _ s w h hs hop
end Go.Proofs.Ytniefnjcimempaa
namespace Go.Proofs.Ytniefnjcimempaa
open Go.RowKit
set_option maxRecDepth 100000 in
theorem lenOf_ok (a : Int) (w : World) : Calls Try.prog 85 #[.int .i64 a] w fun e w' => ∃ N, e = .returned (.agg #[.string ⟨#[108, 101, 110]⟩, .slice (some ⟨N, 0, none⟩) 1 1, .int .i64 0, .string ⟨#[]⟩, .int .i64 1]) ∧ w'.ownsRow w.heap.size 3 1 (.slice (some ⟨N, 0, none⟩) 1 1) 1 [.int .i64 a] ∧ Below w.heap.size w w' := by
  go_enter Try.func85, Try.ntmps85
  go_wp2_with fail
  obtain ⟨w1, hw1⟩ : ∃ w1, w1 = w.alloc (.cells #[.string ⟨#[108, 101, 110]⟩, .slice (some ⟨w.heap.size + 1, 0, none⟩) 1 1, .int .i64 0, .string ⟨#[]⟩, .int .i64 1] 25) := ⟨_, rfl⟩
  rw [← hw1]
  have hsz : w1.heap.size = w.heap.size + 1 := by rw [hw1]; simp
  have hb1 : Blk w1 w.heap.size 25 #[.string ⟨#[108, 101, 110]⟩, .slice (some ⟨w.heap.size + 1, 0, none⟩) 1 1, .int .i64 0, .string ⟨#[]⟩, .int .i64 1] := by rw [hw1]; exact Blk.new _ _ _
  have hB : Below w.heap.size w w1 := by rw [hw1]; exact below_alloc _ _
  have ho := own_new w1 [a] (by show 1 ≤ 100; decide)
  rw [hsz] at ho
  have hb2 := hb1.alloc (.cells #[.int .i64 a] 3)
  have hB2 := hB.alloc (by omega) (.cells #[.int .i64 a] 3)
  obtain ⟨w2, hw2⟩ : ∃ w2, w2 = w1.alloc (.cells #[.int .i64 a] 3) := ⟨_, rfl⟩
  have ho2 : w2.ownsRow (w.heap.size + 1) 3 1 (.slice (some ⟨w.heap.size + 1, 0, none⟩) 1 1) 1 [.int .i64 a] := by rw [hw2]; exact ho
  rw [← hw2] at hb2 hB2 ⊢
  have f0 := hb2.cell 0
  have f1 := hb2.cell 1
  have f2 := hb2.cell 2
  have f3 := hb2.cell 3
  have f4 := hb2.cell 4
  simp only [List.getElem?_toArray, List.getElem?_cons_zero, List.getElem?_cons_succ] at f0 f1 f2 f3 f4
  refine bodyPost_ret (v := .agg #[.string ⟨#[108, 101, 110]⟩, .slice (some ⟨w.heap.size + 1, 0, none⟩) 1 1, .int .i64 0, .string ⟨#[]⟩, .int .i64 1]) (by simp [results, Try.results85, go_sem, f0, f1, f2, f3, f4]) rfl ?_
  exact ⟨w.heap.size + 1, rfl, ho2.mono (by omega), hB2⟩
theorem insertR_len (l : List St) (j : Nat) (s : St) : (Oz.insertR l j s).length = l.length + 1 := by
  unfold Oz.insertR
  simp only [List.length_append, List.length_take, List.length_cons, List.length_map, List.length_drop]
  omega
theorem insertR_get (l : List St) (j : Nat) (s : St) (hj : j ≤ l.length) (q : Nat) : (Oz.insertR l j s)[q]? = if q < j then l[q]? else if q = j then some s else (l[q - 1]?).map (Oz.mapA (fIn j)) := by
  have hl : (l.take j).length = j := by rw [List.length_take]; omega
  unfold Oz.insertR
  by_cases h : q < j
  · rw [if_pos h, List.getElem?_append_left (by omega), List.getElem?_take, if_pos h]
  · rw [if_neg h, List.getElem?_append_right (by omega), hl]
    by_cases h2 : q = j
    · subst h2
      rw [if_pos rfl, Nat.sub_self, List.getElem?_cons_zero]
    · rw [if_neg h2]
      obtain ⟨m, hm⟩ : ∃ m, q - j = m + 1 := ⟨q - j - 1, by omega⟩
      rw [hm, List.getElem?_cons_succ, List.getElem?_map, List.getElem?_drop, show j + m = q - 1 by omega]
      rfl
theorem canR_ins (l : List St) (i j : Nat) (s : St) (hj : j ≤ l.length) : Oz.canR (Oz.insertR l j s) (i + 1) (j + 1) = Oz.canR l i j := by
  unfold Oz.canR
  rw [insertR_len]
  congr 1
  · congr 1
    simp
  · unfold Oz.safeB
    have : ((Oz.insertR l j s).take (i + 1)).drop (j + 1 + 1) = ((l.take i).drop (j + 1)).map (Oz.mapA (fIn j)) := by
      apply List.ext_getElem?
      intro q
      rw [List.getElem?_drop, List.getElem?_take, List.getElem?_map, List.getElem?_drop, List.getElem?_take]
      by_cases h : j + 1 + q < i
      · rw [if_pos (by omega), if_pos h, insertR_get l j s hj, if_neg (by omega), if_neg (by omega)]
        congr 2
        omega
      · rw [if_neg (by omega), if_neg h]
        rfl
    rw [this, List.all_map]
    rfl
theorem ins_bd {l : List St} {j : Nat} {s : St} {B : Int} (hb : ∀ s ∈ l, s.args.length ≤ 3 ∧ ∀ a ∈ s.args, 0 ≤ a ∧ a ≤ B) (hs : s.args.length ≤ 3 ∧ ∀ a ∈ s.args, 0 ≤ a ∧ a ≤ B + 1) : ∀ s' ∈ Oz.insertR l j s, s'.args.length ≤ 3 ∧ ∀ a ∈ s'.args, 0 ≤ a ∧ a ≤ B + 1 := fun s' hs' => by
  unfold Oz.insertR at hs'
  rcases List.mem_append.1 hs' with h | h
  · have := hb s' (List.mem_of_mem_take h)
    exact ⟨this.1, fun a ha => by have := this.2 a ha; omega⟩
  · rcases List.mem_cons.1 h with rfl | h
    · exact hs
    · obtain ⟨t, ht, rfl⟩ := List.mem_map.1 h
      have := hb t (List.mem_of_mem_drop ht)
      refine ⟨by unfold Oz.mapA; simpa using this.1, fun a ha => ?_⟩
      unfold Oz.mapA at ha
      obtain ⟨b, hb', rfl⟩ := List.mem_map.1 ha
      have := this.2 b hb'
      split <;> omega
theorem set_bd {l : List St} {j : Nat} {s : St} {B : Int} (hb : ∀ s ∈ l, s.args.length ≤ 3 ∧ ∀ a ∈ s.args, 0 ≤ a ∧ a ≤ B) (hs : s.args.length ≤ 3 ∧ ∀ a ∈ s.args, 0 ≤ a ∧ a ≤ B) : ∀ s' ∈ l.set j s, s'.args.length ≤ 3 ∧ ∀ a ∈ s'.args, 0 ≤ a ∧ a ≤ B := fun s' hs' => by
  rcases List.mem_or_eq_of_mem_set hs' with h | rfl
  · exact hb s' h
  · exact hs
theorem bd_le {l : List St} {B C : Int} (hb : ∀ s ∈ l, s.args.length ≤ 3 ∧ ∀ a ∈ s.args, 0 ≤ a ∧ a ≤ B) (h : B ≤ C) : ∀ s ∈ l, s.args.length ≤ 3 ∧ ∀ a ∈ s.args, 0 ≤ a ∧ a ≤ C := fun s hs => ⟨(hb s hs).1, fun a ha => by have := (hb s hs).2 a ha; omega⟩
theorem fresh_apart {w : World} {base g gs cap : Nat} {l : List St} {vs : List Value} {V : Value} (h : EdX w base g gs cap l vs V) {N : Nat} (hN : w.heap.size ≤ N) (n c : Nat) : ∀ (j : Nat) (v : Value), vs[j]? = some v → (Value.slice (some ⟨N, 0, none⟩) n c).ownBlock = none ∨ v.ownBlock ≠ (Value.slice (some ⟨N, 0, none⟩) n c).ownBlock := fun j v hv => by
  refine .inr (fun e => ?_)
  have hjl := (List.getElem?_eq_some_iff.1 hv).1
  rw [h.len] at hjl
  have := own_lt (h.own j _ v (List.getElem?_eq_getElem hjl) hv) N (by rw [e]; rfl)
  omega
end Go.Proofs.Ytniefnjcimempaa
