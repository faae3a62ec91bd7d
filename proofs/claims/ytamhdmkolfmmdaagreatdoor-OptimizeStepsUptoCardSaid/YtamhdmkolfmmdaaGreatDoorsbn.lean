/- The walks of optimize.Step and optimize.Of at any plan without an error. The rules of optimize leave texts that fit (plain Lean). The document's Step and Of of optimize as functions on a plan's steps are the program's (plain Lean). The walks of optimize.Step and optimize.Of at a plan that is refused. The walk of rule of the laws on optimize (printed by gen_lws.py). -/
import Derived.Test.YtamhdmkolfmmdaaGreatDoorsbm
import Derived.Test.YtamhdmkolfmmdaaGreatDoorsbc
import Derived.Test.YtamhdmkolfmmdaaGreatDoorsbj
import Derived.Test.YtamhdmkolfmmdaaGreatDoorsaa
import Derived.Test.YtamhdmkolfmmdaaGreatDoorsbd
set_option linter.unusedVariables false
set_option linter.unusedSimpArgs false
namespace Go.Proofs.YtamhdmkolfmmdaaGreatDoor
open Go.RowKit
set_option maxRecDepth 100000
set_option maxHeartbeats 8000000
def kce : List St → List Value → List Value
 | s :: l, v :: vs => [.string ⟨s.op.toArray⟩, v, .int .i64 s.num, .string ⟨s.text.toArray⟩, .int .i64 s.ty] ++ kce l vs
 | _, _ => []
theorem kfh : ∀ (l : List St) (vs : List Value), vs.length = l.length → (kce l vs).length = l.length * 5
 | [], vs, h => by cases vs <;> rfl
 | s :: l, [], h => by simp at h
 | s :: l, v :: vs, h => by
  have ih := kfh l vs (by simpa using h)
  unfold kce
  rw [List.length_append, ih]
  simp only [List.length_cons, List.length_nil]
  omega
theorem kfi : ∀ (l : List St) (vs : List Value) (j : Nat) (u : Value), (kce l vs)[j]? = some u → ∃ (i r : Nat) (s : St) (v : Value), j = i * 5 + r ∧ r < 5 ∧ l[i]? = some s ∧ vs[i]? = some v ∧ [Value.string ⟨s.op.toArray⟩, v, .int .i64 s.num, .string ⟨s.text.toArray⟩, .int .i64 s.ty][r]? = some u
 | [], vs, j, u, h => by cases vs <;> simp [kce] at h
 | s :: l, [], j, u, h => by simp [kce] at h
 | s :: l, v :: vs, j, u, h => by
  unfold kce at h
  by_cases hj : j < 5
  ·
   rw [List.getElem?_append_left (by simpa using hj)] at h
   exact ⟨0, j, s, v, by omega, hj, rfl, rfl, h⟩
  ·
   rw [List.getElem?_append_right (by simp; omega)] at h
   obtain ⟨i, r, s', v', e, hr, h1, h2, h3⟩ := kfi l vs _ u h
   simp only [List.length_cons, List.length_nil] at e
   exact ⟨i + 1, r, s', v', by omega, hr, h1, h2, h3⟩
theorem kfV {w : World} {F : Nat → Prop} : ∀ (l : List St) (vs : List Value), vs.length = l.length → (∀ (i : Nat) (s : St) (v : Value), l[i]? = some s → vs[i]? = some v → ∃ A c, v = .slice A s.args.length c ∧ RdF w F 1 A s.args.length (s.args.map (Value.int .i64))) → StVs w F l (kce l vs)
 | [], vs, h, _ => by cases vs <;> rfl
 | s :: l, [], h, _ => by simp at h
 | s :: l, v :: vs, h, hv => by
  obtain ⟨A, c, rfl, hr⟩ := hv 0 s v rfl rfl
  exact ⟨_, _, rfl, ⟨A, c, rfl, hr⟩, kfV l vs (by simpa using h) (fun i s v h1 h2 => hv (i + 1) s v h1 h2)⟩
theorem EdX.plAt {w : World} {base g gs cap : Nat} {l : List St} {vs : List Value} {V : Value} (h : EdX w base g gs cap l vs V) : PlAt w (fun i => base ≤ i ∧ i < w.heap.size) (some ⟨gs, 0, none⟩) l := by
 have hgsl := h.gs_lt
 refine ⟨kce l vs, ⟨kfh l vs h.len, fun _ => ⟨gs, 0, rfl, ⟨h.hgs, hgsl⟩, hgsl, fun j u hj => ?_⟩⟩, kfV l vs h.len (fun i s v hs hv => ?_)⟩
 ·
  obtain ⟨i, r, s, v, rfl, hr, hs, hv, hu⟩ := kfi l vs j u hj
  obtain ⟨x0, x1, x2, x3, x4⟩ := h.cells i s v hs hv
  rw [Nat.zero_add]
  have hc : r = 0 ∨ r = 1 ∨ r = 2 ∨ r = 3 ∨ r = 4 := by omega
  rcases hc with rfl | rfl | rfl | rfl | rfl
  ·
   exact x0.trans hu
  ·
   exact x1.trans hu
  ·
   exact x2.trans hu
  ·
   exact x3.trans hu
  ·
   exact x4.trans hu
 ·
  have ho := h.own i s v hs hv
  obtain ⟨A, c, rfl⟩ := kak ho
  refine ⟨A, c, rfl, by simp, fun hn => ?_⟩
  obtain ⟨q, c', hvq, _, hbq, hql, hc⟩ := ka8 ho hn
  injection hvq with hA
  subst hA
  exact ⟨q, 0, rfl, ⟨hbq, hql⟩, hql, fun j u hj => by rw [Nat.zero_add]; exact hc j u hj⟩
def doR (k : Nat) (l : List St) : List St := (Oz.applyR k l).getD l
theorem kgI {k : Nat} {l : List St} (hc : kac l = 0) : kac (doR k l) = 0 := by
 unfold doR
 cases h : Oz.applyR k l with
 | none => exact hc
 | some l' => exact (kdY hc h).check
def StepX (w : World) (l' : List St) (b : Bool) (e : Ending) (w' : World) : Prop := Below w.heap.size w w' ∧ ∃ gs cap, e = .returned (.tuple #[.agg #[.slice (some ⟨gs, 0, none⟩) l'.length cap], .bool b, .nilIface]) ∧ PlAt w' (fun i => w.heap.size ≤ i ∧ i < w'.heap.size) (some ⟨gs, 0, none⟩) l'
theorem step_x (A : Option Addr) (c : Nat) (l : List St) (k : Nat) (name : List UInt8) (w : World) (hp : PlAt w (fun i => i < w.heap.size) A l) (hc : kac l = 0) (hm : kc7 l) (hk : namesR[k]? = some name) :
  Calls Tryz.prog 34 #[.agg #[.slice A l.length c], .string ⟨name.toArray⟩] w (StepX w (doR k l) (Oz.applyR k l).isSome) := by
 obtain ⟨r, hr⟩ := xE (Oz.applyR k l)
 rw [← hr]
 have HRR := hD hr
 clear hr
 obtain ⟨wa, hwa⟩ := xE ((w.alloc (.cells #[.slice A l.length c] 26)).alloc (.cells #[.slice none 0 0] 26))
 have hba : Below w.heap.size w wa := by rw [hwa]; exact (kaa w _).alloc (by simp) _
 have HXA := hD (show Blk wa w.heap.size 26 #[.slice A l.length c] by rw [hwa]; exact (Blk.new _ _ _).alloc _)
 have HRA := hD (show Blk wa (w.heap.size + 1) 26 #[.slice none 0 0] by
  rw [hwa]
  have := Blk.new (w.alloc (.cells #[.slice A l.length c] 26)) 26 #[.slice none 0 0]
  simpa using this)
 have HPA := hD (hp.below hba)
 have hck := kbS A c l wa HPA.out hm
 rw [hc] at hck
 have HCK := hD (show Calls Tryz.prog 11 #[.agg #[.slice A l.length c]] wa fun e w' => e = .returned .nilIface ∧ Below wa.heap.size wa w' from hck)
 have HBA := hD hba
 have HWA := hD hwa
 have HKN := hD hk
 have HKT : Hid (known name = true) := hD ((klT name).2 (List.mem_of_getElem? hk))
 have HC := hD hc
 have HM := hD hm
 obtain ⟨n, hn⟩ := xE l.length
 have HN := hD hn
 rw [← hn] at HXA HCK HWA
 rw [← hn]
 clear hp hba hck hwa hc hm hk hn
 go_enter Tryz.func34, Tryz.ntmps34
 go_wp2_with fail
 rw [← HWA.out]
 refine HCK.out.mono ?_
 rintro e w1 ⟨rfl, hb1⟩
 have hza := HBA.out.size
 have HB1 := hD (HBA.out.trans (hb1.mono hza))
 have hz1 := HB1.out.size
 have HR1 := hD (HRA.out.below hb1 HRA.out.lt)
 have HX1 := hD (HXA.out.below hb1 HXA.out.lt)
 have HP1 := hD (HPA.out.below hb1)
 clear hb1 HCK
 go_wp2_with fail
 refine (keF _).mono ?_
 rintro e w2 ⟨rfl, hn2, hb2⟩
 have HB2 := hD (HB1.out.trans (hb2.mono hz1))
 have hz2 := HB2.out.size
 have HR2 := hD (HR1.out.below hb2 HR1.out.lt)
 have HX2 := hD (HX1.out.below hb2 HX1.out.lt)
 have HP2 := hD (HP1.out.below hb2)
 have HCT := hD (Tryz.slices_Contains_string w1.heap.size 0 11 11 namesB ⟨name.toArray⟩ w2 (by decide) (by decide) (fun j hj => by
  have hj : j < 11 := hj
  rw [Nat.zero_add, hn2.cell]
  have hc : j = 0 ∨ j = 1 ∨ j = 2 ∨ j = 3 ∨ j = 4 ∨ j = 5 ∨ j = 6 ∨ j = 7 ∨ j = 8 ∨ j = 9 ∨ j = 10 := by omega
  rcases hc with rfl | rfl | rfl | rfl | rfl | rfl | rfl | rfl | rfl | rfl | rfl <;> rfl))
 have hrl1 := HR1.out.lt
 clear hb2 hn2
 go_wp2_with fail
 refine HCT.out.mono ?_
 rintro e w3 ⟨rfl, rfl⟩
 have x2 := HX2.out.cell 0
 simp only [gA, gB] at x2
 change _
 have hkb : Lib.containsS (namesB.take 11) ⟨name.toArray⟩ = true := HKT.out
 rw [hkb]
 have hne := kfe A c l w3 HP2.out (check_fit.1 HC.out).1 HM.out.1 (kbC HC.out)
 rw [← HN.out] at hne
 have HNE := hD hne
 clear hkb HCT hne
 go_wp2_with fail
 refine HNE.out.mono ?_
 rintro e w4 ⟨g, gs, cap, gu, vs, rfl, he4, hu4, hb4⟩
 have HB4 := hD (HB2.out.trans (hb4.mono hz2))
 have HR4 := hD (HR2.out.below hb4 HR2.out.lt)
 have hrl2 := HR2.out.lt
 rw [HN.out] at he4
 have HAP := hD (keU he4 hu4 HC.out k name HKN.out)
 have HE4 := hD he4
 rw [← HRR.out] at HAP
 clear he4 hu4 hb4 HNE x2
 go_wp2_with fail
 refine HAP.out.mono ?_
 intro e w5 h5
 have hz4 := HB4.out.size
 cases r with
 | none =>
  have h5 : e = .returned (.bool false) ∧ Below w4.heap.size w4 w5 := h5
  obtain ⟨rfl, hb5⟩ := h5
  have HB5 := hD (HB4.out.trans (hb5.mono hz4))
  have HE5 := hD (HE4.out.below hb5)
  have hR5 := HR4.out.below hb5 HR4.out.lt
  have r0 := hR5.cell 0
  have r1 := hR5.frozen 0
  have x0 := HE5.out.ed.cell 0
  simp only [gA, gB] at r0 x0
  rw [← HN.out] at x0
  have HLL : Hid (doR k l = l) := hD (by unfold doR; rw [← HRR.out]; rfl)
  have HPX : Hid (PlAt (w5.setCell ⟨w.heap.size + 1, 0, none⟩ (.slice (some ⟨gs, 0, none⟩) n cap)) (fun i => w.heap.size ≤ i ∧ i < (w5.setCell ⟨w.heap.size + 1, 0, none⟩ (.slice (some ⟨gs, 0, none⟩) n cap)).heap.size) (some ⟨gs, 0, none⟩) l) := hD (HE5.out.plAt.keep (fun i hi _ => Below.heap_setCell w5 ⟨w.heap.size + 1, 0, none⟩ _ i (by have := hi.1; show i ≠ w.heap.size + 1; omega)) (by simp) (fun i hi _ => by have := hi.1; have := hi.2; simp; omega))
  have HBX := hD (HB5.out.setCell (p := ⟨w.heap.size + 1, 0, none⟩) (by show w.heap.size ≤ w.heap.size + 1; omega) (.slice (some ⟨gs, 0, none⟩) n cap))
  clear hb5 hR5 HAP
  go_wp2_with fail
  refine bodyPost_ret (v := .tuple #[.agg #[.slice (some ⟨gs, 0, none⟩) n cap], .bool false, .nilIface]) (by simp [results, Tryz.results34, go_sem, r0]) rfl ?_
  exact ⟨HBX.out, gs, cap, by rw [HLL.out, ← HN.out]; rfl, by rw [HLL.out]; exact HPX.out⟩
 | some l' =>
  have h5 : e = .returned (.bool true) ∧ (∃ gs' cap' vs', EdX w5 w3.heap.size g gs' cap' l' vs' (.slice (some ⟨gu, 0, none⟩) l.length l.length)) ∧ FrX w3.heap.size w4 w5 := h5
  obtain ⟨rfl, ⟨gs', cap', vs', he5⟩, hf5⟩ := h5
  have HE5 := hD he5
  have HB5 := hD (HB4.out.trans (hf5.bel.mono hz2))
  have hR5 := HR4.out.below hf5.bel hrl2
  have r0 := hR5.cell 0
  have r1 := hR5.frozen 0
  have x0 := he5.ed.cell 0
  simp only [gA, gB] at r0 x0
  have HLL : Hid (doR k l = l') := hD (by unfold doR; rw [← HRR.out]; rfl)
  obtain ⟨m, hm⟩ := xE l'.length
  rw [← hm] at x0
  have HMM := hD hm
  have HPX : Hid (PlAt (w5.setCell ⟨w.heap.size + 1, 0, none⟩ (.slice (some ⟨gs', 0, none⟩) m cap')) (fun i => w.heap.size ≤ i ∧ i < (w5.setCell ⟨w.heap.size + 1, 0, none⟩ (.slice (some ⟨gs', 0, none⟩) m cap')).heap.size) (some ⟨gs', 0, none⟩) l') := hD (HE5.out.plAt.keep (fun i hi _ => Below.heap_setCell w5 ⟨w.heap.size + 1, 0, none⟩ _ i (by have := hi.1; show i ≠ w.heap.size + 1; omega)) (by simp) (fun i hi _ => by have := hi.1; have := hi.2; simp; omega))
  have HBX := hD (HB5.out.setCell (p := ⟨w.heap.size + 1, 0, none⟩) (by show w.heap.size ≤ w.heap.size + 1; omega) (.slice (some ⟨gs', 0, none⟩) m cap'))
  clear he5 hf5 hR5 HAP hm
  go_wp2_with fail
  refine bodyPost_ret (v := .tuple #[.agg #[.slice (some ⟨gs', 0, none⟩) m cap'], .bool true, .nilIface]) (by simp [results, Tryz.results34, go_sem, r0]) rfl ?_
  exact ⟨HBX.out, gs', cap', by rw [HLL.out, ← HMM.out]; rfl, by rw [HLL.out]; exact HPX.out⟩
theorem kfv {l : List St} (h : Oz.anyR l = none) : ∀ n, Oz.ofN n l = l
 | 0 => rfl
 | n + 1 => by unfold Oz.ofN; rw [h]
theorem ofN_more {l : List St} (hc : kac l = 0) : ∀ (n m : Nat), kap l ≤ n → kap l ≤ m → Oz.ofN n l = Oz.ofN m l := by
 intro n
 induction n generalizing l with
 | zero =>
  intro m hn _
  have h1 := (check_fit.1 hc).1
  have : 0 < kap l := by
   cases l with
   | nil => simp at h1
   | cons s l =>
    rw [kcy]
    have := kc5 s.op
    have := kbl l
    omega
  omega
 | succ n ih =>
  intro m hn hm
  cases ha : Oz.anyR l with
  | none => rw [kfv ha, kfv ha]
  | some l' =>
   have d := kdL hc ha
   have := d.cost
   have := kbl l'
   obtain ⟨m', rfl⟩ : ∃ m', m = m' + 1 := ⟨m - 1, by omega⟩
   show (match Oz.anyR l with | none => l | some l' => Oz.ofN n l') = (match Oz.anyR l with | none => l | some l' => Oz.ofN m' l')
   rw [ha]
   exact ih d.check m' (by omega) (by omega)
def ofR (l : List St) : List St := Oz.ofN (kap l).toNat l
theorem kft {l : List St} (h : Oz.anyR l = none) : ofR l = l := kfv h _
theorem kfu {l l' : List St} (hc : kac l = 0) (h : Oz.anyR l = some l') : ofR l = ofR l' := by
 have d := kdL hc h
 have h1 := d.cost
 have h2 := kbl l'
 unfold ofR
 obtain ⟨n, hn⟩ : ∃ n, (kap l).toNat = n + 1 := ⟨(kap l).toNat - 1, by omega⟩
 rw [hn]
 show (match Oz.anyR l with | none => l | some l' => Oz.ofN n l') = _
 rw [h]
 exact ofN_more d.check n _ (by omega) (by omega)
theorem ofR_ok {l : List St} (hc : kac l = 0) : kac (ofR l) = 0 ∧ kap (ofR l) ≤ kap l ∧ ka3 (ofR l) = ka3 l ∧ Oz.anyR (ofR l) = none := by
 obtain ⟨n, hn⟩ := xE ((kap l).toNat)
 induction n using Nat.strongRecOn generalizing l with
 | ind n ih =>
  cases ha : Oz.anyR l with
  | none => rw [kft ha]; exact ⟨hc, Int.le_refl _, rfl, ha⟩
  | some l' =>
   have d := kdL hc ha
   have h1 := d.cost
   have h2 := kbl l'
   rw [kfu hc ha]
   obtain ⟨g1, g2, g3, g4⟩ := ih (kap l').toNat (by omega) d.check rfl
   exact ⟨g1, by omega, g3.trans d.last, g4⟩
def OfX (w : World) (l' : List St) (e : Ending) (w' : World) : Prop := Below w.heap.size w w' ∧ ∃ gs cap, e = .returned (.tuple #[.agg #[.slice (some ⟨gs, 0, none⟩) l'.length cap], .nilIface]) ∧ PlAt w' (fun i => w.heap.size ≤ i ∧ i < w'.heap.size) (some ⟨gs, 0, none⟩) l'
def OgX (w0 : World) (base g gr : Nat) (l : List St) (f : Nat) (wr : World) : Prop := ∃ (lc : List St) (gs cap gu : Nat) (vs : List Value), kap lc < f ∧ Hid (kac lc = 0) ∧ Hid (ofR lc = ofR l) ∧ Hid (EdX wr base g gs cap lc vs (.slice (some ⟨gu, 0, none⟩) lc.length lc.length)) ∧ Hid (Blk wr gu 3 (uarr (kag lc))) ∧ Hid (FrX base w0 wr) ∧ Hid (Blk wr gr 9 kbZ)
theorem of_x (A : Option Addr) (c : Nat) (l : List St) (w : World) (hp : PlAt w (fun i => i < w.heap.size) A l) (hc : kac l = 0) (hm : kc7 l) :
  Calls Tryz.prog 10 #[.agg #[.slice A l.length c]] w (OfX w (ofR l)) := by
 obtain ⟨wa, hwa⟩ := xE ((w.alloc (.cells #[.slice A l.length c] 26)).alloc (.cells #[.slice none 0 0] 26))
 have hba : Below w.heap.size w wa := by rw [hwa]; exact (kaa w _).alloc (by simp) _
 have HXA := hD (show Blk wa w.heap.size 26 #[.slice A l.length c] by rw [hwa]; exact (Blk.new _ _ _).alloc _)
 have HRA := hD (show Blk wa (w.heap.size + 1) 26 #[.slice none 0 0] by
  rw [hwa]
  have := Blk.new (w.alloc (.cells #[.slice A l.length c] 26)) 26 #[.slice none 0 0]
  simpa using this)
 have HPA := hD (hp.below hba)
 have hck := kbS A c l wa HPA.out hm
 rw [hc] at hck
 have HCK := hD (show Calls Tryz.prog 11 #[.agg #[.slice A l.length c]] wa fun e w' => e = .returned .nilIface ∧ Below wa.heap.size wa w' from hck)
 have HBA := hD hba
 have HWA := hD hwa
 have HC := hD hc
 have HM := hD hm
 obtain ⟨n, hn⟩ := xE l.length
 have HN := hD hn
 rw [← hn] at HXA HCK HWA
 rw [← hn]
 clear hp hba hck hwa hc hm hn
 go_enter Tryz.func10, Tryz.ntmps10
 go_wp2_with fail
 rw [← HWA.out]
 refine HCK.out.mono ?_
 rintro e w1 ⟨rfl, hb1⟩
 have hza := HBA.out.size
 have HB1 := hD (HBA.out.trans (hb1.mono hza))
 have hz1 := HB1.out.size
 have HR1 := hD (HRA.out.below hb1 HRA.out.lt)
 have HX1 := hD (HXA.out.below hb1 HXA.out.lt)
 have x1 := HX1.out.cell 0
 simp only [gA, gB] at x1
 have hne := kfe A c l w1 (HPA.out.below hb1) (check_fit.1 HC.out).1 HM.out.1 (kbC HC.out)
 rw [← HN.out] at hne
 have HNE := hD hne
 clear hb1 HCK hne
 go_wp2_with fail
 refine HNE.out.mono ?_
 rintro e w2 ⟨g, gs, cap, gu, vs, rfl, he2, hu2, hb2⟩
 have HB2 := hD (HB1.out.trans (hb2.mono hz1))
 have hz2 := HB2.out.size
 rw [HN.out] at he2
 have HE2 := hD he2
 have HU2 := hD hu2
 have HR2 := hD (HR1.out.below hb2 HR1.out.lt)
 have hrl1 := HR1.out.lt
 clear he2 hu2 hb2 HNE x1
 go_wp2_with fail
 refine (keF _).mono ?_
 rintro e w3 ⟨rfl, hn3, hb3⟩
 have HB3 := hD (HB2.out.trans (hb3.mono hz2))
 have HE3 := hD (HE2.out.below hb3)
 have HU3 := hD (HU2.out.below hb3 HU2.out.lt)
 have HR3 := hD (HR2.out.below hb3 HR2.out.lt)
 have HN3 := hD hn3
 have HC0 := hD (Int.le_refl (kap l))
 have hmf : ∀ (fn : Fn) (first cap : Array Value) (w : World), (Instr.makeFunc fn first cap).run Tryz.prog w = .ok (.func fn first cap) w := fun _ _ _ _ => rfl
 obtain ⟨B, hB⟩ := xE ((kap l).toNat)
 have HBB := hD hB
 clear hn3 hb3 hB
 go_wp2_with fail
 go_loopg [] (B + 1) (fun f wr => OgX w3 w1.heap.size g w2.heap.size l f wr)
 case atStart => exact ⟨l, gs, cap, gu, vs, by have := HBB.out; omega, HC, hD rfl, HE3, HU3, hD (FrX.refl _ _), HN3⟩
 case round =>
  clear HE3 HU3 HN3
  obtain ⟨lc, gs', cap', gu', vs', hf, HCC, HOF, HE, HU, HFR, HNM⟩ := hrel
  have hcp : 0 ≤ kap lc := kbl lc
  obtain ⟨f, rfl⟩ : ∃ f, gk = f + 1 := ⟨gk - 1, by omega⟩
  have HRD := hD (klw HE.out HU.out HCC.out w2.heap.size 11 HNM.out)
  obtain ⟨r, hr⟩ := xE (Oz.anyR lc)
  rw [← hr] at HRD
  have HRR := hD hr
  have HF0 := hD hf
  clear hr hf hcp
  go_wp2_with fail
  refine HRD.out.mono ?_
  intro e w4 h4
  cases r with
  | none =>
   have h4 : e = .returned (.bool false) ∧ Below wr.heap.size wr w4 := h4
   obtain ⟨rfl, hb4⟩ := h4
   have HE4 := hD (HE.out.below hb4)
   have HF4 := hD (HFR.out.below hb4 HE.out.base_le)
   have hR4 := HR3.out.below HF4.out.bel hrl1
   have r0 := hR4.cell 0
   have r1 := hR4.frozen 0
   have x0 := HE4.out.ed.cell 0
   simp only [gA, gB] at r0 x0
   have HLL : Hid (ofR l = lc) := hD (by rw [← HOF.out]; exact kft HRR.out.symm)
   obtain ⟨m, hm⟩ := xE lc.length
   rw [← hm] at x0
   have HMM := hD hm
   have HB4 := hD (HB3.out.trans (HF4.out.bel.mono hz1))
   have HPX : Hid (PlAt (w4.setCell ⟨w.heap.size + 1, 0, none⟩ (.slice (some ⟨gs', 0, none⟩) m cap')) (fun i => w.heap.size ≤ i ∧ i < (w4.setCell ⟨w.heap.size + 1, 0, none⟩ (.slice (some ⟨gs', 0, none⟩) m cap')).heap.size) (some ⟨gs', 0, none⟩) lc) := hD (HE4.out.plAt.keep (fun i hi _ => Below.heap_setCell w4 ⟨w.heap.size + 1, 0, none⟩ _ i (by have := hi.1; show i ≠ w.heap.size + 1; omega)) (by simp) (fun i hi _ => by have := hi.1; have := hi.2; simp; omega))
   have HBX := hD (HB4.out.setCell (p := ⟨w.heap.size + 1, 0, none⟩) (by show w.heap.size ≤ w.heap.size + 1; omega) (.slice (some ⟨gs', 0, none⟩) m cap'))
   clear hb4 hR4 HRD hm
   go_wp2_with fail
   refine bodyPost_ret (v := .tuple #[.agg #[.slice (some ⟨gs', 0, none⟩) m cap'], .nilIface]) (by simp [results, Tryz.results10, go_sem, r0]) rfl ?_
   exact ⟨HBX.out, gs', cap', by rw [HLL.out, ← HMM.out], by rw [HLL.out]; exact HPX.out⟩
  | some l' =>
   have h4 : e = .returned (.bool true) ∧ (∃ gs9 cap9 vs9, EdX w4 w1.heap.size g gs9 cap9 l' vs9 (.slice (some ⟨gu', 0, none⟩) lc.length lc.length)) ∧ FrX w1.heap.size wr w4 := h4
   obtain ⟨rfl, ⟨gs9, cap9, vs9, he4⟩, hf4⟩ := h4
   have hd := kdL HCC.out HRR.out.symm
   have HD := hD hd
   have HCT := hD (kjL w1.heap.size g gs9 cap9 l' vs9 _ w4 he4 (kbC hd.check))
   have HF4 := hD (HFR.out.trans hf4)
   have HN4 := hD (hf4.str _ _ HNM.out)
   clear he4 hf4 HRD hd
   go_wp2_with fail
   refine HCT.out.mono ?_
   rintro e w5 ⟨rfl, gu9, he5, hu5, hf5⟩
   have HE5 := hD he5
   have HU5 := hD hu5
   have HF5 := hD (HF4.out.trans hf5)
   have HN5 := hD (hf5.str _ _ HN4.out)
   have HO5 : Hid (ofR l' = ofR l) := hD (by rw [← HOF.out]; exact (kfu HCC.out HRR.out.symm).symm)
   have HC5 := hD HD.out.check
   clear he5 hu5 hf5 HCT
   go_wp2_with fail
   go_roundg f
   case measure => omega
   case rel => exact ⟨l', gs9, cap9, gu9, vs9, by have := HD.out.cost; have := HF0.out; omega, HC5, HO5, HE5, HU5, HF5, HN5⟩
theorem z26 {P : Prop} (h : P := by
 injection hr with hr
 subst hr
 first
 | guard_hyp t208q0
   exact kb9 h i (Nat.zero_le _)
 | exact kct h i (Nat.zero_le _)) : P := h
theorem y38 {P : Prop} (h : P := by
 unfold Oz.foldR at hr
 dsimp only at hr
 split at hr
 ·
  split at hr
  ·
   rename_i a b _ _
   cases hcp : Oz.computeR (Oz.at_ l i).op a b with
   | none => rw [hcp] at hr; cases hr
   | some n =>
    rw [hcp] at hr
    exact z26
  ·
   cases hr
 split at hr
 ·
  obtain ⟨_, hr⟩ := kas hr
  exact z26
 split at hr
 ·
  obtain ⟨_, hr⟩ := kas hr
  exact z26
 split at hr
 ·
  obtain ⟨hcd, hr⟩ := kas hr
  injection hr with hr
  subst hr
  simp only [Bool.and_eq_true, decide_eq_true_eq] at hcd
  first
  | guard_hyp t208q0
    refine kb9 h i ?_
  | refine kct h i ?_
  show (_ ++ _ : List UInt8).length ≤ _
  rw [List.length_append]
  omega
 ·
  cases hr) : P := h
theorem y39 {P : Prop} (h : P := by
 unfold Oz.negateR at hr
 dsimp only at hr
 split at hr
 ·
  cases hr
 ·
  cases hx : Oz.negR (Oz.at_ l (Oz.arg (Oz.at_ l i) 0).toNat).op (Oz.arg (Oz.at_ l (Oz.arg (Oz.at_ l i) 0).toNat) 0) (Oz.arg (Oz.at_ l (Oz.arg (Oz.at_ l i) 0).toNat) 1) with
  | none => rw [hx] at hr; cases hr
  | some x =>
   rw [hx] at hr
   injection hr with hr
   subst hr
   first
   | guard_hyp t219q0
     refine kdb (kb9 h i ?_) _
   | refine kdB (kct h i ?_) _
   unfold Oz.negR at hx
   split at hx
   ·
    injection hx with hx; subst hx; exact Nat.zero_le _
   split at hx
   ·
    injection hx with hx; subst hx; exact Nat.zero_le _
   split at hx
   ·
    injection hx with hx; subst hx; exact Nat.zero_le _
   split at hx
   ·
    injection hx with hx; subst hx; exact Nat.zero_le _
   ·
    cases hx) : P := h
def TxOk (l : List St) : Prop := ∀ s ∈ l, s.text.length ≤ 9223372036854775807
theorem khs {f : Int → Int} {l : List St} (h : TxOk l) : TxOk (l.map (Oz.mapA f)) := fun s hs => by
 obtain ⟨t, ht, rfl⟩ := List.mem_map.1 hs
 exact h t ht
theorem khu {a b : List St} (h : TxOk a) (k : TxOk b) : TxOk (a ++ b) := fun s hs => (List.mem_append.1 hs).elim (h s) (k s)
theorem keY {l : List St} (h : TxOk l) (k : Nat) : TxOk (l.take k) := fun s hs => h s (List.mem_of_mem_take hs)
theorem kf4 {l : List St} (h : TxOk l) (k : Nat) : TxOk (l.drop k) := fun s hs => h s (List.mem_of_mem_drop hs)
theorem kdB {l : List St} (h : TxOk l) (i : Nat) : TxOk (Oz.removeR l i) := khu (keY h i) (khs (kf4 h (i + 1)))
theorem kct {l : List St} (h : TxOk l) (i : Nat) {s : St} (hs : s.text.length ≤ 9223372036854775807) : TxOk (l.set i s) := fun t ht => by
 rcases List.mem_or_eq_of_mem_set ht with h1 | rfl
 ·
  exact h t h1
 ·
  exact hs
section
variable {l l' : List St} (h : TxOk l) {i : Nat}
include h
end
namespace Rf
def rulesL : List (List St → Nat → Option (List St)) := [shareL, foldL, neutralL, negateL, Oz.commonR, matchesL, firstFindL, lenCutL, lenSumL, lenRepL, unusedL]
def applyL (k : Nat) (l : List St) (i : Nat) : Option (List St) := match rulesL[k]? with
 | some f => f l i
 | none => none
def stepL (k : Nat) (l : List St) : Option (List St) := (List.range l.length).findSome? (applyL k l)
end Rf
theorem kd7 {α β : Type} {f g : α → Option β} : ∀ {l : List α}, (∀ a ∈ l, f a = g a) → l.findSome? f = l.findSome? g
 | [], _ => rfl
 | a :: l, h => by
  rw [List.findSome?_cons, List.findSome?_cons, h a (List.mem_cons_self ..), kd7 fun b hb => h b (List.mem_cons_of_mem _ hb)]
theorem khw {l : List St} (hc : kac l = 0) {k : Nat} (hk : k < 11) : Rf.stepL k l = Oz.applyR k l := by
 unfold Rf.stepL
 have key : ∀ (f g : List St → Nat → Option (List St)), Rf.rulesL[k]? = some f → Oz.rulesR[k]? = some g → (∀ i s, l[i]? = some s → f l i = g l i) → (List.range l.length).findSome? (Rf.applyL k l) = Oz.applyR k l := by
  intro f g hf hg h
  have h1 : Oz.applyR k l = Oz.firstOf g l := by
   unfold Oz.applyR
   rw [hg]
  rw [h1]
  unfold Oz.firstOf
  refine kd7 fun i hi => ?_
  have hi : i < l.length := List.mem_range.1 hi
  unfold Rf.applyL
  rw [hf]
  exact h i _ (List.getElem?_eq_getElem hi)
 have hk' : k = 0 ∨ k = 1 ∨ k = 2 ∨ k = 3 ∨ k = 4 ∨ k = 5 ∨ k = 6 ∨ k = 7 ∨ k = 8 ∨ k = 9 ∨ k = 10 := by omega
 rcases hk' with h | h | h | h | h | h | h | h | h | h | h
 ·
  subst h; exact key Rf.shareL Oz.shareAt rfl rfl fun i s hs => klv hc hs
 ·
  subst h; exact key Rf.foldL Oz.foldR rfl rfl fun i s hs => foldL_eq hc hs
 ·
  subst h; exact key Rf.neutralL Oz.neutralR rfl rfl fun i s hs => kiX hc hs
 ·
  subst h; exact key Rf.negateL Oz.negateR rfl rfl fun i s hs => kkw hc hs
 ·
  subst h; exact key Oz.commonR Oz.commonR rfl rfl fun i s hs => rfl
 ·
  subst h; exact key Rf.matchesL Oz.matchesR rfl rfl fun i s hs => ki4 hc hs
 ·
  subst h; exact key Rf.firstFindL Oz.firstFindR rfl rfl fun i s hs => khb hc hs
 ·
  subst h; exact key Rf.lenCutL Oz.lenCutR rfl rfl fun i s hs => kkI hc hs
 ·
  subst h; exact key Rf.lenSumL Oz.lenSumR rfl rfl fun i s hs => kkC hc hs
 ·
  subst h; exact key Rf.lenRepL Oz.lenRepR rfl rfl fun i s hs => kkF hc hs
 ·
  subst h; exact key Rf.unusedL Oz.unusedR rfl rfl fun i s hs => kjV hc hs
theorem z27 {P : Prop} (h : P := by
 have q0 : (60 : Int) < (n : Int) := by omega
 clear hb1
 go_wp2_with fail
 refine (keS _).mono ?_
 rintro e w2 ⟨rfl, hb2⟩
 have HB2 := hD (HB1.out.trans (hb2.mono HB1.out.size))
 clear hb2
 go_wp2_with fail
 go_ret
 exact ⟨rfl, HB2.out⟩) : P := h
theorem y32 {P : Prop} (h : P := by
 obtain ⟨n, hn⟩ := xE l.length
 obtain ⟨wa, hwa⟩ := xE ((w.alloc (.cells #[.slice A n c] 26)).alloc (.cells #[.slice none 0 0] 26))
 have hba : Below w.heap.size w wa := by rw [hwa]; exact (kaa w _).alloc (by simp) _
 have HRA := hD (show Blk wa (w.heap.size + 1) 26 #[.slice none 0 0] by
  rw [hwa]
  have := Blk.new (w.alloc (.cells #[.slice A n c] 26)) 26 #[.slice none 0 0]
  simpa using this)
 have hck := kbS A c l wa (hp.below hba) hm
 rw [← hx, ← hn] at hck
 have HEV := hD (show errV x = .iface 66 (.int .i64 x) from if_neg h0)
 have HCK := hD hck
 have HBA := hD hba
 have HWA := hD hwa
 rw [← hn]
 clear hba hck hwa hp hm hx h0 hn
 first
 | guard_hyp t150q0
   go_enter Tryz.func34, Tryz.ntmps34
 | go_enter Tryz.func10, Tryz.ntmps10
 go_wp2_with fail
 rw [← HWA.out]
 refine HCK.out.mono ?_
 rintro e w1 ⟨rfl, hb1⟩
 rw [HEV.out]
 have hza := HBA.out.size
 have HB1 := hD (HBA.out.trans (hb1.mono hza))
 have hR1 := HRA.out.below hb1 HRA.out.lt
 have r0 := hR1.cell 0
 have r1 := hR1.frozen 0
 simp only [gA, gB] at r0
 clear hb1 hR1 HCK
 go_wp2_with fail
 first
 | guard_hyp t150q0
   refine bodyPost_ret (v := .tuple #[.agg #[.slice none 0 0], .bool false, .iface 66 (.int .i64 x)]) (by simp [results, Tryz.results34, go_sem, r0]) rfl ?_
 | refine bodyPost_ret (v := .tuple #[.agg #[.slice none 0 0], .iface 66 (.int .i64 x)]) (by simp [results, Tryz.results10, go_sem, r0]) rfl ?_
 exact ⟨rfl, HB1.out.setCell (p := ⟨w.heap.size + 1, 0, none⟩) (by show w.heap.size ≤ w.heap.size + 1; omega) _⟩) : P := h
theorem step_bad (A : Option Addr) (c : Nat) (l : List St) (name : List UInt8) (w : World) (hp : PlAt w (fun i => i < w.heap.size) A l) (hm : kc7 l) (x : Int) (hx : x = kac l) (h0 : x ≠ 0) :
  Calls Tryz.prog 34 #[.agg #[.slice A l.length c], .string ⟨name.toArray⟩] w fun e w' => e = .returned (.tuple #[.agg #[.slice none 0 0], .bool false, .iface 66 (.int .i64 x)]) ∧ Below w.heap.size w w' := by
 have t150q0 := True.intro
 exact y32
theorem of_bad (A : Option Addr) (c : Nat) (l : List St) (w : World) (hp : PlAt w (fun i => i < w.heap.size) A l) (hm : kc7 l) (x : Int) (hx : x = kac l) (h0 : x ≠ 0) :
  Calls Tryz.prog 10 #[.agg #[.slice A l.length c]] w fun e w' => e = .returned (.tuple #[.agg #[.slice none 0 0], .iface 66 (.int .i64 x)]) ∧ Below w.heap.size w w' := by
 exact y32
theorem klK (k : Nat) : ∃ name, namesR[k % 11]? = some name := ⟨namesR[k % 11]'(Nat.mod_lt _ (by decide)), List.getElem?_eq_getElem _⟩
theorem kkf (k : Nat) (hk : k < 256) (name : List UInt8) (hn : namesR[k % 11]? = some name) (w : World) : Calls Tryz.prog 35 #[.int .u8 k] w fun e w' => e = .returned (.string ⟨name.toArray⟩) ∧ Below w.heap.size w w' := by
 have hm : k % 11 < 11 := Nat.mod_lt _ (by decide)
 have hr : Int.tmod (k : Int) 11 = ((k % 11 : Nat) : Int) := by rw [Int.tmod_eq_emod_of_nonneg (by omega)]; rfl
 obtain ⟨r, hrr⟩ := xE (k % 11)
 rw [← hrr] at hm hr hn
 have HNM := hD (kdF hn)
 have q0 : (r : Int) < 11 := by omega
 have q1 : (0 : Int) ≤ (r : Int) := by omega
 have hw := IntWalk.wrap64_in (k : Int) (by omega)
 have hw2 := IntWalk.wrap64_in (r : Int) (by omega)
 clear hn hrr
 go_enter Tryz.func35, Tryz.ntmps35
 go_wp2_with fail
 refine (kfN _).mono ?_
 rintro e w1 ⟨rfl, hn1, hb1⟩
 have c0 := (hn1.cell r).trans HNM.out
 have HB := hD hb1
 clear hn1 hb1
 go_wp2_with fail
 go_ret
 exact ⟨rfl, HB.out⟩
end Go.Proofs.YtamhdmkolfmmdaaGreatDoor
