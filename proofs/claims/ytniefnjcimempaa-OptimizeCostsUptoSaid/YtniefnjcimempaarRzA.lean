/- The walks of optimize.Step and optimize.Of at any plan without an error. The rules of optimize leave texts that fit (plain Lean). -/
import Derived.Test.YtniefnjcimempaarRz8
import Derived.Test.YtniefnjcimempaarRz9
import Derived.Test.YtniefnjcimempaarRzC
namespace Go.Proofs.Ytniefnjcimempaa
open Go.RowKit
-- the editor's steps as a plan
def edCells : List St → List Value → List Value
  | s :: l, v :: vs => [.string ⟨s.op.toArray⟩, v, .int .i64 s.num, .string ⟨s.text.toArray⟩, .int .i64 s.ty] ++ edCells l vs
  | _, _ => []
theorem edCells_len : ∀ (l : List St) (vs : List Value), vs.length = l.length → (edCells l vs).length = l.length * 5
  | [], vs, h => by cases vs <;> rfl
  | s :: l, [], h => by simp at h
  | s :: l, v :: vs, h => by
    have ih := edCells_len l vs (by simpa using h)
    unfold edCells
    rw [List.length_append, ih]
    simp only [List.length_cons, List.length_nil]
    omega
theorem edCells_get : ∀ (l : List St) (vs : List Value) (j : Nat) (u : Value), (edCells l vs)[j]? = some u → ∃ (i r : Nat) (s : St) (v : Value), j = i * 5 + r ∧ r < 5 ∧ l[i]? = some s ∧ vs[i]? = some v ∧ [Value.string ⟨s.op.toArray⟩, v, .int .i64 s.num, .string ⟨s.text.toArray⟩, .int .i64 s.ty][r]? = some u
  | [], vs, j, u, h => by cases vs <;> simp [edCells] at h
  | s :: l, [], j, u, h => by simp [edCells] at h
  | s :: l, v :: vs, j, u, h => by
    unfold edCells at h
    by_cases hj : j < 5
    · rw [List.getElem?_append_left (by simpa using hj)] at h
      exact ⟨0, j, s, v, by omega, hj, rfl, rfl, h⟩
    · rw [List.getElem?_append_right (by simp; omega)] at h
      obtain ⟨i, r, s', v', e, hr, h1, h2, h3⟩ := edCells_get l vs _ u h
      simp only [List.length_cons, List.length_nil] at e
      exact ⟨i + 1, r, s', v', by omega, hr, h1, h2, h3⟩
theorem edCells_st {w : World} {F : Nat → Prop} : ∀ (l : List St) (vs : List Value), vs.length = l.length → (∀ (i : Nat) (s : St) (v : Value), l[i]? = some s → vs[i]? = some v → ∃ A c, v = .slice A s.args.length c ∧ RdF w F 1 A s.args.length (s.args.map (Value.int .i64))) → StVs w F l (edCells l vs)
  | [], vs, h, _ => by cases vs <;> rfl
  | s :: l, [], h, _ => by simp at h
  | s :: l, v :: vs, h, hv => by
    obtain ⟨A, c, rfl, hr⟩ := hv 0 s v rfl rfl
    exact ⟨_, _, rfl, ⟨A, c, rfl, hr⟩, edCells_st l vs (by simpa using h) (fun i s v h1 h2 => hv (i + 1) s v h1 h2)⟩
theorem EdX.plAt {w : World} {base g gs cap : Nat} {l : List St} {vs : List Value} {V : Value} (h : EdX w base g gs cap l vs V) : PlAt w (fun i => base ≤ i ∧ i < w.heap.size) (some ⟨gs, 0, none⟩) l := by
  have hgsl := h.gs_lt
  refine ⟨edCells l vs, ⟨edCells_len l vs h.len, fun _ => ⟨gs, 0, rfl, ⟨h.hgs, hgsl⟩, hgsl, fun j u hj => ?_⟩⟩, edCells_st l vs h.len (fun i s v hs hv => ?_)⟩
  · obtain ⟨i, r, s, v, rfl, hr, hs, hv, hu⟩ := edCells_get l vs j u hj
    obtain ⟨x0, x1, x2, x3, x4⟩ := h.cells i s v hs hv
    rw [Nat.zero_add]
    have hc : r = 0 ∨ r = 1 ∨ r = 2 ∨ r = 3 ∨ r = 4 := by omega
    rcases hc with rfl | rfl | rfl | rfl | rfl
    · exact x0.trans hu
    · exact x1.trans hu
    · exact x2.trans hu
    · exact x3.trans hu
    · exact x4.trans hu
  · have ho := h.own i s v hs hv
    obtain ⟨A, c, rfl⟩ := own_form ho
    refine ⟨A, c, rfl, by simp, fun hn => ?_⟩
    obtain ⟨q, c', hvq, _, hbq, hql, hc⟩ := own_at ho hn
    injection hvq with hA
    subst hA
    exact ⟨q, 0, rfl, ⟨hbq, hql⟩, hql, fun j u hj => by rw [Nat.zero_add]; exact hc j u hj⟩
theorem ok_modest {l : List St} (hc : checkR l = 0) (ht : ∀ s ∈ l, s.text.length ≤ 9223372036854775807) : Modest l :=
  ⟨by have := (check_fit.1 hc).2.1; omega, fun s hs => ⟨by have := (ok_bd2 hc s hs).1; omega, ht s hs⟩⟩
def doR (k : Nat) (l : List St) : List St := (Oz.applyR k l).getD l
theorem doR_check {k : Nat} {l : List St} (hc : checkR l = 0) : checkR (doR k l) = 0 := by
  unfold doR
  cases h : Oz.applyR k l with
  | none => exact hc
  | some l' => exact (applyR_done hc h).check
def StepX (w : World) (l' : List St) (b : Bool) (e : Ending) (w' : World) : Prop := Below w.heap.size w w' ∧ ∃ gs cap, e = .returned (.tuple #[.agg #[.slice (some ⟨gs, 0, none⟩) l'.length cap], .bool b, .nilIface]) ∧ PlAt w' (fun i => w.heap.size ≤ i ∧ i < w'.heap.size) (some ⟨gs, 0, none⟩) l'
set_option maxRecDepth 100000 in
set_option maxHeartbeats 4000000 in
theorem step_x (A : Option Addr) (c : Nat) (l : List St) (k : Nat) (name : List UInt8) (w : World) (hp : PlAt w (fun i => i < w.heap.size) A l) (hc : checkR l = 0) (hm : Modest l) (hk : namesR[k]? = some name) :
    Calls Try.prog 21 #[.agg #[.slice A l.length c], .string ⟨name.toArray⟩] w (StepX w (doR k l) (Oz.applyR k l).isSome) := by
  obtain ⟨r, hr⟩ : ∃ r, r = Oz.applyR k l := ⟨_, rfl⟩
  rw [← hr]
  have HRR := Lib.hid hr
  clear hr
  obtain ⟨wa, hwa⟩ : ∃ wa, wa = (w.alloc (.cells #[.slice A l.length c] 28)).alloc (.cells #[.slice none 0 0] 28) := ⟨_, rfl⟩
  have hba : Below w.heap.size w wa := by rw [hwa]; exact (below_alloc w _).alloc (by simp) _
  have HXA := Lib.hid (show Blk wa w.heap.size 28 #[.slice A l.length c] by rw [hwa]; exact (Blk.new _ _ _).alloc _)
  have HRA := Lib.hid (show Blk wa (w.heap.size + 1) 28 #[.slice none 0 0] by
    rw [hwa]
    have := Blk.new (w.alloc (.cells #[.slice A l.length c] 28)) 28 #[.slice none 0 0]
    simpa using this)
  have HPA := Lib.hid (hp.below hba)
  have hck := Check_any A c l wa HPA.out hm
  rw [hc] at hck
  have HCK := Lib.hid (show Calls Try.prog 17 #[.agg #[.slice A l.length c]] wa fun e w' => e = .returned .nilIface ∧ Below wa.heap.size wa w' from hck)
  have HBA := Lib.hid hba
  have HWA := Lib.hid hwa
  have HKN := Lib.hid hk
  have HKT : Hid (known name = true) := Lib.hid ((known_iff name).2 (List.mem_of_getElem? hk))
  have HC := Lib.hid hc
  have HM := Lib.hid hm
  obtain ⟨n, hn⟩ : ∃ n, n = l.length := ⟨_, rfl⟩
  have HN := Lib.hid hn
  rw [← hn] at HXA HCK HWA
  rw [← hn]
  clear hp hba hck hwa hc hm hk hn
  go_enter Try.func21, Try.ntmps21
  go_wp2_with fail
  rw [← HWA.out]
  refine HCK.out.mono ?_
  rintro e w1 ⟨rfl, hb1⟩
  have hza := HBA.out.size
  have HB1 := Lib.hid (HBA.out.trans (hb1.mono hza))
  have hz1 := HB1.out.size
  have HR1 := Lib.hid (HRA.out.below hb1 HRA.out.lt)
  have HX1 := Lib.hid (HXA.out.below hb1 HXA.out.lt)
  have HP1 := Lib.hid (HPA.out.below hb1)
  clear hb1 HCK
  go_wp2_with fail
  refine (rules_any _).mono ?_
  rintro e w2 ⟨rfl, hn2, hb2⟩
  have HB2 := Lib.hid (HB1.out.trans (hb2.mono hz1))
  have hz2 := HB2.out.size
  have HR2 := Lib.hid (HR1.out.below hb2 HR1.out.lt)
  have HX2 := Lib.hid (HX1.out.below hb2 HX1.out.lt)
  have HP2 := Lib.hid (HP1.out.below hb2)
  have HCT := Lib.hid (Try.slices_Contains_string w1.heap.size 0 11 11 namesB ⟨name.toArray⟩ w2 (by decide) (by decide) (fun j hj => by
    have hj : j < 11 := hj
    rw [Nat.zero_add, hn2.cell]
    have hc : j = 0 ∨ j = 1 ∨ j = 2 ∨ j = 3 ∨ j = 4 ∨ j = 5 ∨ j = 6 ∨ j = 7 ∨ j = 8 ∨ j = 9 ∨ j = 10 := by omega
    rcases hc with rfl | rfl | rfl | rfl | rfl | rfl | rfl | rfl | rfl | rfl | rfl <;> rfl))
  have hrl1 := HR1.out.lt
  clear hb2 hn2
  go_wp2_with fail
  refine HCT.out.mono ?_
  rintro e w3 ⟨rfl, rfl⟩
  have x2 := HX2.out.cell 0
  simp only [List.getElem?_toArray, List.getElem?_cons_zero] at x2
  change _
  have hkb : Lib.containsS (namesB.take 11) ⟨name.toArray⟩ = true := HKT.out
  rw [hkb]
  have hne := newEditor_x A c l w3 HP2.out (check_fit.1 HC.out).1 HM.out.1 (ok_bd2 HC.out)
  rw [← HN.out] at hne
  have HNE := Lib.hid hne
  clear hkb HCT hne
  go_wp2_with fail
  refine HNE.out.mono ?_
  rintro e w4 ⟨g, gs, cap, gu, vs, rfl, he4, hu4, hb4⟩
  have HB4 := Lib.hid (HB2.out.trans (hb4.mono hz2))
  have HR4 := Lib.hid (HR2.out.below hb4 HR2.out.lt)
  have hrl2 := HR2.out.lt
  rw [HN.out] at he4
  have HAP := Lib.hid (apply_any he4 hu4 HC.out k name HKN.out)
  have HE4 := Lib.hid he4
  rw [← HRR.out] at HAP
  clear he4 hu4 hb4 HNE x2
  go_wp2_with fail
  refine HAP.out.mono ?_
  intro e w5 h5
  have hz4 := HB4.out.size
  cases r with
  | none =>
    have h5 : e = .returned (.bool false) ∧ Below w4.heap.size w4 w5 := h5
    obtain ⟨rfl, hb5⟩ := h5
    have HB5 := Lib.hid (HB4.out.trans (hb5.mono hz4))
    have HE5 := Lib.hid (HE4.out.below hb5)
    have hR5 := HR4.out.below hb5 HR4.out.lt
    have r0 := hR5.cell 0
    have r1 := hR5.frozen 0
    have x0 := HE5.out.ed.cell 0
    simp only [List.getElem?_toArray, List.getElem?_cons_zero] at r0 x0
    rw [← HN.out] at x0
    have HLL : Hid (doR k l = l) := Lib.hid (by unfold doR; rw [← HRR.out]; rfl)
    have HPX : Hid (PlAt (w5.setCell ⟨w.heap.size + 1, 0, none⟩ (.slice (some ⟨gs, 0, none⟩) n cap)) (fun i => w.heap.size ≤ i ∧ i < (w5.setCell ⟨w.heap.size + 1, 0, none⟩ (.slice (some ⟨gs, 0, none⟩) n cap)).heap.size) (some ⟨gs, 0, none⟩) l) := Lib.hid (HE5.out.plAt.keep (fun i hi _ => Below.heap_setCell w5 ⟨w.heap.size + 1, 0, none⟩ _ i (by have := hi.1; show i ≠ w.heap.size + 1; omega)) (by simp) (fun i hi _ => by have := hi.1; have := hi.2; simp; omega))
    have HBX := Lib.hid (HB5.out.setCell (p := ⟨w.heap.size + 1, 0, none⟩) (by show w.heap.size ≤ w.heap.size + 1; omega) (.slice (some ⟨gs, 0, none⟩) n cap))
    clear hb5 hR5 HAP
    go_wp2_with fail
    refine bodyPost_ret (v := .tuple #[.agg #[.slice (some ⟨gs, 0, none⟩) n cap], .bool false, .nilIface]) (by simp [results, Try.results21, go_sem, r0]) rfl ?_
    exact ⟨HBX.out, gs, cap, by rw [HLL.out, ← HN.out]; rfl, by rw [HLL.out]; exact HPX.out⟩
  | some l' =>
    have h5 : e = .returned (.bool true) ∧ (∃ gs' cap' vs', EdX w5 w3.heap.size g gs' cap' l' vs' (.slice (some ⟨gu, 0, none⟩) l.length l.length)) ∧ FrX w3.heap.size w4 w5 := h5
    obtain ⟨rfl, ⟨gs', cap', vs', he5⟩, hf5⟩ := h5
    have HE5 := Lib.hid he5
    have HB5 := Lib.hid (HB4.out.trans (hf5.bel.mono hz2))
    have hR5 := HR4.out.below hf5.bel hrl2
    have r0 := hR5.cell 0
    have r1 := hR5.frozen 0
    have x0 := he5.ed.cell 0
    simp only [List.getElem?_toArray, List.getElem?_cons_zero] at r0 x0
    have HLL : Hid (doR k l = l') := Lib.hid (by unfold doR; rw [← HRR.out]; rfl)
    obtain ⟨m, hm⟩ : ∃ m, m = l'.length := ⟨_, rfl⟩
    rw [← hm] at x0
    have HMM := Lib.hid hm
    have HPX : Hid (PlAt (w5.setCell ⟨w.heap.size + 1, 0, none⟩ (.slice (some ⟨gs', 0, none⟩) m cap')) (fun i => w.heap.size ≤ i ∧ i < (w5.setCell ⟨w.heap.size + 1, 0, none⟩ (.slice (some ⟨gs', 0, none⟩) m cap')).heap.size) (some ⟨gs', 0, none⟩) l') := Lib.hid (HE5.out.plAt.keep (fun i hi _ => Below.heap_setCell w5 ⟨w.heap.size + 1, 0, none⟩ _ i (by have := hi.1; show i ≠ w.heap.size + 1; omega)) (by simp) (fun i hi _ => by have := hi.1; have := hi.2; simp; omega))
    have HBX := Lib.hid (HB5.out.setCell (p := ⟨w.heap.size + 1, 0, none⟩) (by show w.heap.size ≤ w.heap.size + 1; omega) (.slice (some ⟨gs', 0, none⟩) m cap'))
    clear he5 hf5 hR5 HAP hm
    go_wp2_with fail
    refine bodyPost_ret (v := .tuple #[.agg #[.slice (some ⟨gs', 0, none⟩) m cap'], .bool true, .nilIface]) (by simp [results, Try.results21, go_sem, r0]) rfl ?_
    exact ⟨HBX.out, gs', cap', by rw [HLL.out, ← HMM.out]; rfl, by rw [HLL.out]; exact HPX.out⟩
-- Of
theorem ofN_stop {l : List St} (h : Oz.anyR l = none) : ∀ n, Oz.ofN n l = l
  | 0 => rfl
  | n + 1 => by unfold Oz.ofN; rw [h]
theorem ofN_more {l : List St} (hc : checkR l = 0) : ∀ (n m : Nat), costL l ≤ n → costL l ≤ m → Oz.ofN n l = Oz.ofN m l := by
  intro n
  induction n generalizing l with
  | zero =>
    intro m hn _
    have h1 := (check_fit.1 hc).1
    have : 0 < costL l := by
      cases l with
      | nil => simp at h1
      | cons s l =>
        rw [costL_cons]
        have := costR_pos s.op
        have := costL_nonneg l
        omega
    omega
  | succ n ih =>
    intro m hn hm
    cases ha : Oz.anyR l with
    | none => rw [ofN_stop ha, ofN_stop ha]
    | some l' =>
      have d := anyR_done hc ha
      have := d.cost
      have := costL_nonneg l'
      obtain ⟨m', rfl⟩ : ∃ m', m = m' + 1 := ⟨m - 1, by omega⟩
      show (match Oz.anyR l with | none => l | some l' => Oz.ofN n l') = (match Oz.anyR l with | none => l | some l' => Oz.ofN m' l')
      rw [ha]
      exact ih d.check m' (by omega) (by omega)
def ofR (l : List St) : List St := Oz.ofN (costL l).toNat l
theorem ofR_stop {l : List St} (h : Oz.anyR l = none) : ofR l = l := ofN_stop h _
theorem ofR_step {l l' : List St} (hc : checkR l = 0) (h : Oz.anyR l = some l') : ofR l = ofR l' := by
  have d := anyR_done hc h
  have h1 := d.cost
  have h2 := costL_nonneg l'
  unfold ofR
  obtain ⟨n, hn⟩ : ∃ n, (costL l).toNat = n + 1 := ⟨(costL l).toNat - 1, by omega⟩
  rw [hn]
  show (match Oz.anyR l with | none => l | some l' => Oz.ofN n l') = _
  rw [h]
  exact ofN_more d.check n _ (by omega) (by omega)
theorem ofR_ok {l : List St} (hc : checkR l = 0) : checkR (ofR l) = 0 ∧ costL (ofR l) ≤ costL l ∧ lastTy (ofR l) = lastTy l ∧ Oz.anyR (ofR l) = none := by
  obtain ⟨n, hn⟩ : ∃ n, n = (costL l).toNat := ⟨_, rfl⟩
  induction n using Nat.strongRecOn generalizing l with
  | ind n ih =>
    cases ha : Oz.anyR l with
    | none => rw [ofR_stop ha]; exact ⟨hc, Int.le_refl _, rfl, ha⟩
    | some l' =>
      have d := anyR_done hc ha
      have h1 := d.cost
      have h2 := costL_nonneg l'
      rw [ofR_step hc ha]
      obtain ⟨g1, g2, g3, g4⟩ := ih (costL l').toNat (by omega) d.check rfl
      exact ⟨g1, by omega, g3.trans d.last, g4⟩
def OfX (w : World) (l' : List St) (e : Ending) (w' : World) : Prop := Below w.heap.size w w' ∧ ∃ gs cap, e = .returned (.tuple #[.agg #[.slice (some ⟨gs, 0, none⟩) l'.length cap], .nilIface]) ∧ PlAt w' (fun i => w.heap.size ≤ i ∧ i < w'.heap.size) (some ⟨gs, 0, none⟩) l'
def OgX (w0 : World) (base g gr : Nat) (l : List St) (f : Nat) (wr : World) : Prop := ∃ (lc : List St) (gs cap gu : Nat) (vs : List Value), costL lc < f ∧ Hid (checkR lc = 0) ∧ Hid (ofR lc = ofR l) ∧ Hid (EdX wr base g gs cap lc vs (.slice (some ⟨gu, 0, none⟩) lc.length lc.length)) ∧ Hid (Blk wr gu 3 (uarr (usesR lc))) ∧ Hid (FrX base w0 wr) ∧ Hid (Blk wr gr 9 namesC)
set_option maxRecDepth 100000 in
set_option maxHeartbeats 8000000 in
theorem of_x (A : Option Addr) (c : Nat) (l : List St) (w : World) (hp : PlAt w (fun i => i < w.heap.size) A l) (hc : checkR l = 0) (hm : Modest l) :
    Calls Try.prog 19 #[.agg #[.slice A l.length c]] w (OfX w (ofR l)) := by
  obtain ⟨wa, hwa⟩ : ∃ wa, wa = (w.alloc (.cells #[.slice A l.length c] 28)).alloc (.cells #[.slice none 0 0] 28) := ⟨_, rfl⟩
  have hba : Below w.heap.size w wa := by rw [hwa]; exact (below_alloc w _).alloc (by simp) _
  have HXA := Lib.hid (show Blk wa w.heap.size 28 #[.slice A l.length c] by rw [hwa]; exact (Blk.new _ _ _).alloc _)
  have HRA := Lib.hid (show Blk wa (w.heap.size + 1) 28 #[.slice none 0 0] by
    rw [hwa]
    have := Blk.new (w.alloc (.cells #[.slice A l.length c] 28)) 28 #[.slice none 0 0]
    simpa using this)
  have HPA := Lib.hid (hp.below hba)
  have hck := Check_any A c l wa HPA.out hm
  rw [hc] at hck
  have HCK := Lib.hid (show Calls Try.prog 17 #[.agg #[.slice A l.length c]] wa fun e w' => e = .returned .nilIface ∧ Below wa.heap.size wa w' from hck)
  have HBA := Lib.hid hba
  have HWA := Lib.hid hwa
  have HC := Lib.hid hc
  have HM := Lib.hid hm
  obtain ⟨n, hn⟩ : ∃ n, n = l.length := ⟨_, rfl⟩
  have HN := Lib.hid hn
  rw [← hn] at HXA HCK HWA
  rw [← hn]
  clear hp hba hck hwa hc hm hn
  go_enter Try.func19, Try.ntmps19
  go_wp2_with fail
  rw [← HWA.out]
  refine HCK.out.mono ?_
  rintro e w1 ⟨rfl, hb1⟩
  have hza := HBA.out.size
  have HB1 := Lib.hid (HBA.out.trans (hb1.mono hza))
  have hz1 := HB1.out.size
  have HR1 := Lib.hid (HRA.out.below hb1 HRA.out.lt)
  have HX1 := Lib.hid (HXA.out.below hb1 HXA.out.lt)
  have x1 := HX1.out.cell 0
  simp only [List.getElem?_toArray, List.getElem?_cons_zero] at x1
  have hne := newEditor_x A c l w1 (HPA.out.below hb1) (check_fit.1 HC.out).1 HM.out.1 (ok_bd2 HC.out)
  rw [← HN.out] at hne
  have HNE := Lib.hid hne
  clear hb1 HCK hne
  go_wp2_with fail
  refine HNE.out.mono ?_
  rintro e w2 ⟨g, gs, cap, gu, vs, rfl, he2, hu2, hb2⟩
  have HB2 := Lib.hid (HB1.out.trans (hb2.mono hz1))
  have hz2 := HB2.out.size
  rw [HN.out] at he2
  have HE2 := Lib.hid he2
  have HU2 := Lib.hid hu2
  have HR2 := Lib.hid (HR1.out.below hb2 HR1.out.lt)
  have hrl1 := HR1.out.lt
  clear he2 hu2 hb2 HNE x1
  go_wp2_with fail
  refine (rules_any _).mono ?_
  rintro e w3 ⟨rfl, hn3, hb3⟩
  have HB3 := Lib.hid (HB2.out.trans (hb3.mono hz2))
  have HE3 := Lib.hid (HE2.out.below hb3)
  have HU3 := Lib.hid (HU2.out.below hb3 HU2.out.lt)
  have HR3 := Lib.hid (HR2.out.below hb3 HR2.out.lt)
  have HN3 := Lib.hid hn3
  have HC0 := Lib.hid (Int.le_refl (costL l))
  have hmf : ∀ (fn : Fn) (first cap : Array Value) (w : World), (Instr.makeFunc fn first cap).run Try.prog w = .ok (.func fn first cap) w := fun _ _ _ _ => rfl
  obtain ⟨B, hB⟩ : ∃ B, B = (costL l).toNat := ⟨_, rfl⟩
  have HBB := Lib.hid hB
  clear hn3 hb3 hB
  go_wp2_with fail
  go_loopg [] (B + 1) (fun f wr => OgX w3 w1.heap.size g w2.heap.size l f wr)
  case atStart => exact ⟨l, gs, cap, gu, vs, by have := HBB.out; omega, HC, Lib.hid rfl, HE3, HU3, Lib.hid (FrX.refl _ _), HN3⟩
  case round =>
    clear HE3 HU3 HN3
    obtain ⟨lc, gs', cap', gu', vs', hf, HCC, HOF, HE, HU, HFR, HNM⟩ := hrel
    have hcp : 0 ≤ costL lc := costL_nonneg lc
    obtain ⟨f, rfl⟩ : ∃ f, gk = f + 1 := ⟨gk - 1, by omega⟩
    have HRD := Lib.hid (round_any HE.out HU.out HCC.out w2.heap.size 11 HNM.out)
    obtain ⟨r, hr⟩ : ∃ r, r = Oz.anyR lc := ⟨_, rfl⟩
    rw [← hr] at HRD
    have HRR := Lib.hid hr
    have HF0 := Lib.hid hf
    clear hr hf hcp
    go_wp2_with fail
    refine HRD.out.mono ?_
    intro e w4 h4
    cases r with
    | none =>
      have h4 : e = .returned (.bool false) ∧ Below wr.heap.size wr w4 := h4
      obtain ⟨rfl, hb4⟩ := h4
      have HE4 := Lib.hid (HE.out.below hb4)
      have HF4 := Lib.hid (HFR.out.below hb4 HE.out.base_le)
      have hR4 := HR3.out.below HF4.out.bel hrl1
      have r0 := hR4.cell 0
      have r1 := hR4.frozen 0
      have x0 := HE4.out.ed.cell 0
      simp only [List.getElem?_toArray, List.getElem?_cons_zero] at r0 x0
      have HLL : Hid (ofR l = lc) := Lib.hid (by rw [← HOF.out]; exact ofR_stop HRR.out.symm)
      obtain ⟨m, hm⟩ : ∃ m, m = lc.length := ⟨_, rfl⟩
      rw [← hm] at x0
      have HMM := Lib.hid hm
      have HB4 := Lib.hid (HB3.out.trans (HF4.out.bel.mono hz1))
      have HPX : Hid (PlAt (w4.setCell ⟨w.heap.size + 1, 0, none⟩ (.slice (some ⟨gs', 0, none⟩) m cap')) (fun i => w.heap.size ≤ i ∧ i < (w4.setCell ⟨w.heap.size + 1, 0, none⟩ (.slice (some ⟨gs', 0, none⟩) m cap')).heap.size) (some ⟨gs', 0, none⟩) lc) := Lib.hid (HE4.out.plAt.keep (fun i hi _ => Below.heap_setCell w4 ⟨w.heap.size + 1, 0, none⟩ _ i (by have := hi.1; show i ≠ w.heap.size + 1; omega)) (by simp) (fun i hi _ => by have := hi.1; have := hi.2; simp; omega))
      have HBX := Lib.hid (HB4.out.setCell (p := ⟨w.heap.size + 1, 0, none⟩) (by show w.heap.size ≤ w.heap.size + 1; omega) (.slice (some ⟨gs', 0, none⟩) m cap'))
      clear hb4 hR4 HRD hm
      go_wp2_with fail
      refine bodyPost_ret (v := .tuple #[.agg #[.slice (some ⟨gs', 0, none⟩) m cap'], .nilIface]) (by simp [results, Try.results19, go_sem, r0]) rfl ?_
      exact ⟨HBX.out, gs', cap', by rw [HLL.out, ← HMM.out], by rw [HLL.out]; exact HPX.out⟩
    | some l' =>
      have h4 : e = .returned (.bool true) ∧ (∃ gs9 cap9 vs9, EdX w4 w1.heap.size g gs9 cap9 l' vs9 (.slice (some ⟨gu', 0, none⟩) lc.length lc.length)) ∧ FrX w1.heap.size wr w4 := h4
      obtain ⟨rfl, ⟨gs9, cap9, vs9, he4⟩, hf4⟩ := h4
      have hd := anyR_done HCC.out HRR.out.symm
      have HD := Lib.hid hd
      have HCT := Lib.hid (count_x w1.heap.size g gs9 cap9 l' vs9 _ w4 he4 (ok_bd2 hd.check))
      have HF4 := Lib.hid (HFR.out.trans hf4)
      have HN4 := Lib.hid (hf4.str _ _ HNM.out)
      clear he4 hf4 HRD hd
      go_wp2_with fail
      refine HCT.out.mono ?_
      rintro e w5 ⟨rfl, gu9, he5, hu5, hf5⟩
      have HE5 := Lib.hid he5
      have HU5 := Lib.hid hu5
      have HF5 := Lib.hid (HF4.out.trans hf5)
      have HN5 := Lib.hid (hf5.str _ _ HN4.out)
      have HO5 : Hid (ofR l' = ofR l) := Lib.hid (by rw [← HOF.out]; exact (ofR_step HCC.out HRR.out.symm).symm)
      have HC5 := Lib.hid HD.out.check
      clear he5 hu5 hf5 HCT
      go_wp2_with fail
      go_roundg f
      case measure => omega
      case rel => exact ⟨l', gs9, cap9, gu9, vs9, by have := HD.out.cost; have := HF0.out; omega, HC5, HO5, HE5, HU5, HF5, HN5⟩
end Go.Proofs.Ytniefnjcimempaa
namespace Go.Proofs.Ytniefnjcimempaa
open Go.RowKit
def TxOk (l : List St) : Prop := ∀ s ∈ l, s.text.length ≤ 9223372036854775807
theorem tx_map {f : Int → Int} {l : List St} (h : TxOk l) : TxOk (l.map (Oz.mapA f)) := fun s hs => by
  obtain ⟨t, ht, rfl⟩ := List.mem_map.1 hs
  exact h t ht
theorem tx_app {a b : List St} (h : TxOk a) (k : TxOk b) : TxOk (a ++ b) := fun s hs => (List.mem_append.1 hs).elim (h s) (k s)
theorem tx_take {l : List St} (h : TxOk l) (k : Nat) : TxOk (l.take k) := fun s hs => h s (List.mem_of_mem_take hs)
theorem tx_drop {l : List St} (h : TxOk l) (k : Nat) : TxOk (l.drop k) := fun s hs => h s (List.mem_of_mem_drop hs)
theorem tx_remove {l : List St} (h : TxOk l) (i : Nat) : TxOk (Oz.removeR l i) := tx_app (tx_take h i) (tx_map (tx_drop h (i + 1)))
theorem tx_insert {l : List St} (h : TxOk l) (i : Nat) {s : St} (hs : s.text.length ≤ 9223372036854775807) : TxOk (Oz.insertR l i s) := tx_app (tx_take h i) (fun t ht => by
  rcases List.mem_cons.1 ht with rfl | ht
  · exact hs
  · exact tx_map (tx_drop h i) t ht)
theorem tx_set {l : List St} (h : TxOk l) (i : Nat) {s : St} (hs : s.text.length ≤ 9223372036854775807) : TxOk (l.set i s) := fun t ht => by
  rcases List.mem_or_eq_of_mem_set ht with h1 | rfl
  · exact h t h1
  · exact hs
theorem tx_replace {l l' : List St} (h : TxOk l) {i j : Nat} (hr : Oz.replaceR l i j = some l') : TxOk l' := by
  unfold Oz.replaceR at hr
  split at hr
  · cases hr
  split at hr
  · injection hr with hr
    subst hr
    exact tx_take h _
  · injection hr with hr
    subst hr
    exact tx_remove (tx_app (tx_take h _) (tx_map (tx_drop h _))) i
theorem tx_at {l : List St} (h : TxOk l) (a : Int) : (Oz.at_ l a).text.length ≤ 9223372036854775807 := by
  unfold Oz.at_
  cases e : l[a.toNat]? with
  | none => show (0 : Nat) ≤ _; omega
  | some s => exact h s (List.mem_of_getElem? e)
section
variable {l l' : List St} (h : TxOk l) {i : Nat}
include h
theorem tx_share (hr : Oz.shareAt l i = some l') : TxOk l' := by
  unfold Oz.shareAt at hr
  split at hr
  · cases hr
  · exact tx_replace h hr
theorem tx_fold (hr : Oz.foldR l i = some l') : TxOk l' := by
  unfold Oz.foldR at hr
  dsimp only at hr
  split at hr
  · split at hr
    · rename_i a b _ _
      cases hcp : Oz.computeR (Oz.at_ l i).op a b with
      | none => rw [hcp] at hr; cases hr
      | some n =>
        rw [hcp] at hr
        injection hr with hr
        subst hr
        exact tx_set h i (Nat.zero_le _)
    · cases hr
  split at hr
  · obtain ⟨_, hr⟩ := ite_some hr
    injection hr with hr
    subst hr
    exact tx_set h i (Nat.zero_le _)
  split at hr
  · obtain ⟨_, hr⟩ := ite_some hr
    injection hr with hr
    subst hr
    exact tx_set h i (Nat.zero_le _)
  split at hr
  · obtain ⟨hcd, hr⟩ := ite_some hr
    injection hr with hr
    subst hr
    simp only [Bool.and_eq_true, decide_eq_true_eq] at hcd
    refine tx_set h i ?_
    show (_ ++ _ : List UInt8).length ≤ _
    rw [List.length_append]
    omega
  · cases hr
theorem tx_neutral (hr : Oz.neutralR l i = some l') : TxOk l' := by
  unfold Oz.neutralR at hr
  dsimp only at hr
  split at hr
  · rcases orElse_some hr with hr | hr <;> exact tx_replace h (ite_some hr).2
  split at hr
  · exact tx_replace h (ite_some hr).2
  split at hr
  · rcases orElse_some hr with hr | hr <;> exact tx_replace h (ite_some hr).2
  split at hr
  · exact tx_replace h (ite_some' hr).2
  split at hr
  · rcases orElse_some hr with hr | hr <;> exact tx_replace h (ite_some hr).2
  split at hr
  · exact tx_replace h (ite_some hr).2
  split at hr
  · exact tx_replace h (ite_some hr).2
  split at hr
  · exact tx_replace h (ite_some' hr).2
  · cases hr
theorem tx_negate (hr : Oz.negateR l i = some l') : TxOk l' := by
  unfold Oz.negateR at hr
  dsimp only at hr
  split at hr
  · cases hr
  · cases hx : Oz.negR (Oz.at_ l (Oz.arg (Oz.at_ l i) 0).toNat).op (Oz.arg (Oz.at_ l (Oz.arg (Oz.at_ l i) 0).toNat) 0) (Oz.arg (Oz.at_ l (Oz.arg (Oz.at_ l i) 0).toNat) 1) with
    | none => rw [hx] at hr; cases hr
    | some x =>
      rw [hx] at hr
      injection hr with hr
      subst hr
      refine tx_remove (tx_set h i ?_) _
      unfold Oz.negR at hx
      split at hx
      · injection hx with hx; subst hx; exact Nat.zero_le _
      split at hx
      · injection hx with hx; subst hx; exact Nat.zero_le _
      split at hx
      · injection hx with hx; subst hx; exact Nat.zero_le _
      split at hx
      · injection hx with hx; subst hx; exact Nat.zero_le _
      · cases hx
theorem tx_common (hr : Oz.commonR l i = some l') : TxOk l' := by
  unfold Oz.commonR at hr
  dsimp only at hr
  obtain ⟨_, hr⟩ := ite_some' hr
  injection hr with hr
  subst hr
  exact tx_set h i (Nat.zero_le _)
theorem tx_matches (hr : Oz.matchesR l i = some l') : TxOk l' := by
  unfold Oz.matchesR at hr
  split at hr
  · cases hr
  split at hr
  · cases hr
  split at hr
  · cases hr
  · exact tx_replace (tx_set h _ (by exact tx_at h _)) hr
theorem tx_firstFind (hr : Oz.firstFindR l i = some l') : TxOk l' := by
  unfold Oz.firstFindR at hr
  split at hr
  · cases hr
  split at hr
  · cases hr
  split at hr
  · cases hr
  · injection hr with hr
    subst hr
    exact tx_remove (tx_set h _ (by exact tx_at h _)) _
theorem tx_lenCut (hr : Oz.lenCutR l i = some l') : TxOk l' := by
  unfold Oz.lenCutR at hr
  split at hr
  · cases hr
  split at hr
  · cases hr
  split at hr
  · cases hr
  · exact tx_replace (tx_set h _ (Nat.zero_le _)) hr
theorem tx_lenSum (hr : Oz.lenSumR l i = some l') : TxOk l' := by
  unfold Oz.lenSumR at hr
  split at hr
  · cases hr
  split at hr
  · cases hr
  split at hr
  · cases hr
  · exact tx_replace (tx_set (tx_insert (tx_insert h _ (Nat.zero_le _)) _ (Nat.zero_le _)) _ (Nat.zero_le _)) hr
theorem tx_lenRep (hr : Oz.lenRepR l i = some l') : TxOk l' := by
  unfold Oz.lenRepR at hr
  split at hr
  · cases hr
  split at hr
  · cases hr
  split at hr
  · cases hr
  · exact tx_replace (tx_set (tx_insert h _ (Nat.zero_le _)) _ (Nat.zero_le _)) hr
theorem tx_unused (hr : Oz.unusedR l i = some l') : TxOk l' := by
  unfold Oz.unusedR at hr
  split at hr
  · cases hr
  · injection hr with hr
    subst hr
    exact tx_remove h _
end
theorem firstOf_tx {f : List St → Nat → Option (List St)} {l l' : List St} (hf : ∀ i, f l i = some l' → TxOk l') (h : Oz.firstOf f l = some l') : TxOk l' := by
  unfold Oz.firstOf at h
  obtain ⟨i, _, hfi⟩ := List.exists_of_findSome?_eq_some h
  exact hf i hfi
theorem applyR_tx {l l' : List St} (ht : TxOk l) {k : Nat} (h : Oz.applyR k l = some l') : TxOk l' := by
  unfold Oz.applyR at h
  cases hk : Oz.rulesR[k]? with
  | none => rw [hk] at h; cases h
  | some f =>
    rw [hk] at h
    have hk11 : k < 11 := (List.getElem?_eq_some_iff.1 hk).1
    have hcs : k = 0 ∨ k = 1 ∨ k = 2 ∨ k = 3 ∨ k = 4 ∨ k = 5 ∨ k = 6 ∨ k = 7 ∨ k = 8 ∨ k = 9 ∨ k = 10 := by omega
    rcases hcs with rfl | rfl | rfl | rfl | rfl | rfl | rfl | rfl | rfl | rfl | rfl <;> (injection hk with hk; subst hk)
    · exact firstOf_tx (fun i hr => tx_share ht hr) h
    · exact firstOf_tx (fun i hr => tx_fold ht hr) h
    · exact firstOf_tx (fun i hr => tx_neutral ht hr) h
    · exact firstOf_tx (fun i hr => tx_negate ht hr) h
    · exact firstOf_tx (fun i hr => tx_common ht hr) h
    · exact firstOf_tx (fun i hr => tx_matches ht hr) h
    · exact firstOf_tx (fun i hr => tx_firstFind ht hr) h
    · exact firstOf_tx (fun i hr => tx_lenCut ht hr) h
    · exact firstOf_tx (fun i hr => tx_lenSum ht hr) h
    · exact firstOf_tx (fun i hr => tx_lenRep ht hr) h
    · exact firstOf_tx (fun i hr => tx_unused ht hr) h
theorem doR_tx {l : List St} (ht : TxOk l) (k : Nat) : TxOk (doR k l) := by
  unfold doR
  cases h : Oz.applyR k l with
  | none => exact ht
  | some l' => exact applyR_tx ht h
theorem ofN_tx : ∀ (n : Nat) {l : List St}, TxOk l → TxOk (Oz.ofN n l)
  | 0, _, h => h
  | n + 1, l, h => by
    show TxOk (match Oz.anyR l with | none => l | some l' => Oz.ofN n l')
    cases ha : Oz.anyR l with
    | none => exact h
    | some l' =>
      unfold Oz.anyR at ha
      obtain ⟨k, _, hk⟩ := List.exists_of_findSome?_eq_some ha
      exact ofN_tx n (applyR_tx h hk)
theorem ofR_tx {l : List St} (h : TxOk l) : TxOk (ofR l) := ofN_tx _ h
structure Sound (l : List St) : Prop where
  check : checkR l = 0
  tx : TxOk l
theorem Sound.modest {l : List St} (h : Sound l) : Modest l := ok_modest h.check h.tx
theorem Sound.step {l : List St} (h : Sound l) (k : Nat) : Sound (doR k l) := ⟨doR_check h.check, doR_tx h.tx k⟩
theorem Sound.of {l : List St} (h : Sound l) : Sound (ofR l) := ⟨(ofR_ok h.check).1, ofR_tx h.tx⟩
end Go.Proofs.Ytniefnjcimempaa
