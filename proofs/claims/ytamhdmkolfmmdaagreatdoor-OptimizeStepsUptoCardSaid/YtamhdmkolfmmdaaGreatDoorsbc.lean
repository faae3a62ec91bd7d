/- Each rule of optimize keeps a plan a plan, lowers its cost and keeps its last type: the rules over two steps, and all of them (plain Lean). -/
import Derived.Test.YtamhdmkolfmmdaaGreatDoorsbb
import Derived.Test.YtamhdmkolfmmdaaGreatDoorsaa
set_option linter.unusedVariables false
set_option linter.unusedSimpArgs false
namespace Go.Proofs.YtamhdmkolfmmdaaGreatDoor
open Go.RowKit
theorem Kept57.trans {a b c : List St} (h : Kept57 a b) (k : Kept57 b c) : Kept57 a c := ⟨k.fit, k.pos, Nat.le_trans k.max h.max, k.last.trans h.last⟩
theorem kfc {l l' : List St} {i j : Nat} (hji : j < i) (hi : i < l.length) (hr : Oz.replaceR l i j = some l') : l'.length + 1 ≤ l.length := by
 unfold Oz.replaceR at hr
 split at hr
 ·
  cases hr
 split at hr
 ·
  injection hr with hr
  subst hr
  rw [List.length_take]
  omega
 ·
  injection hr with hr
  subst hr
  rw [kcS (by rw [List.length_append, List.length_take, List.length_map, List.length_drop]; omega), List.length_append, List.length_take, List.length_map, List.length_drop]
  omega
section
variable {l l' : List St} (hc : kac l = 0) {i j : Nat} {s t : St} (hs : l[i]? = some s) (ht : l[j]? = some t) (hji : j < i) (hj : s.args[0]? = some (j : Int)) (hu : (kag l).getD j 0 = 1)
include hc hs ht hji hj hu
theorem kgr {x : St} (hx : ∃ o, Fine l j x o) (hty : x.ty = s.ty) (hcost : kao x.op < kao t.op + kao s.op) (hr : Oz.replaceR (l.set j x) i j = some l') : Done57 l l' := by
 have hil := (gH hs).1
 have hjl := (gH ht).1
 have hML : (l.set j x).length = l.length := List.length_set
 have hMi : (l.set j x)[i]? = some s := by rw [List.getElem?_set_ne (by omega)]; exact hs
 have hMj : (l.set j x)[j]? = some x := List.getElem?_set_self hjl
 have hfit : ∀ (q : Nat) (u : St), q ≠ i → (l.set j x)[q]? = some u → ∃ o, Fine (l.set j x) q u o := fun q u hq hu' => by
  by_cases e : q = j
  ·
   subst e
   rw [hMj] at hu'
   injection hu' with hu'
   subst hu'
   obtain ⟨o, f⟩ := hx
   exact ⟨o, kcL hjl f (.inl (fun hm => by have := f.back _ hm; omega))⟩
  ·
   rw [List.getElem?_set_ne (fun h => e h.symm)] at hu'
   obtain ⟨o, f⟩ := (check_fit.1 hc).2.2 q u hu'
   exact ⟨o, kcL hjl f (.inl (keZ (bd57 hc) hu hs (List.mem_of_getElem? hj) hq hu'))⟩
 obtain ⟨k, hk⟩ := kdv hji (by rw [hML]; exact hil) hfit (by rw [kbM hMj, kbM hMi, hty]) hr
 have h1 := hk s hMi
 rw [keo ht] at h1
 exact ⟨check_fit.2 ⟨k.pos, by have := k.max; rw [hML] at this; exact Nat.le_trans this (check_fit.1 hc).2.1, k.fit⟩, by omega, k.last.trans (keh hjl (.inl (by omega)))⟩
theorem kgH {x : St} (hx : ∃ o, Fine l i x o) (hty : x.ty = s.ty) (hxj : (j : Int) ∉ x.args) (hcost : kao x.op < kao t.op + kao s.op) : Done57 l (Oz.removeR (l.set i x) j) := by
 have hil := (gH hs).1
 have k1 := kh1 hil (check_fit.1 hc).2.2 hx (by rw [hty, kbM hs])
 have hMj : (l.set i x)[j]? = some t := by rw [List.getElem?_set_ne (by omega)]; exact ht
 have k2 := kdR (l := l.set i x) (i := j) (by rw [List.length_set]; omega) (fun q u hq hu' => ⟨k1.fit q u hu', by
  by_cases e : q = i
  ·
   subst e
   rw [List.getElem?_set_self hil] at hu'
   injection hu' with hu'
   rw [← hu']
   exact hxj
  ·
   rw [List.getElem?_set_ne (fun h => e h.symm)] at hu'
   exact keZ (bd57 hc) hu hs (List.mem_of_getElem? hj) e hu'⟩)
 refine ke2 hc (k1.trans k2) ?_
 rw [kdW hMj, keo hs]
 omega
end
theorem cmp_fine {l : List St} (hc : kac l = 0) {i j : Nat} {t : St} (ht : l[j]? = some t) (hji : j < i) {op2 : List UInt8} {a b : Int} (hcm : kaG t.op = true) (hcm2 : kaG op2 = true) (heq : kcx op2 = kcx t.op) (ho : opR t.op = some ⟨[1, 1], 2, false, false⟩) (ho2 : opR op2 = some ⟨[1, 1], 2, false, false⟩) (hab : (a = Oz.arg t 0 ∧ b = Oz.arg t 1) ∨ (a = Oz.arg t 1 ∧ b = Oz.arg t 0)) : Fine l i (Oz.mk op2 [a, b] 0 [] 2) ⟨[1, 1], 2, false, false⟩ ∧ (j : Int) ∉ [a, b] := by
 have f := kaB hc ht ho
 have hl : t.args.length = 2 := f.len
 obtain ⟨p, _, ep, hp, _, _, hap⟩ := kaO hc ht f (k := 0) (by omega)
 obtain ⟨q, _, eq, hq, _, _, haq⟩ := kaO hc ht f (k := 1) (by omega)
 have htp := f.typed
 unfold ka7 at htp
 rw [if_pos hcm, show t.args.getD 0 0 = Oz.arg t 0 from rfl, show t.args.getD 1 0 = Oz.arg t 1 from rfl] at htp
 have hmem : ∀ x ∈ [a, b], 0 ≤ x ∧ x < (j : Int) := fun x hx => by
  simp only [List.mem_cons, List.not_mem_nil, or_false] at hx
  rcases hab with ⟨h1, h2⟩ | ⟨h1, h2⟩ <;> rcases hx with rfl | rfl <;> omega
 refine ⟨⟨ho2, rfl, fun x hx => by have := hmem x hx; omega, Int.le_refl 0, fun h => by have : (0 : Int) < 0 := h; omega, fun h => absurd rfl h, rfl, ?_, fun h => by cases h⟩, fun hm => by have := hmem _ hm; omega⟩
 unfold ka7
 show (if kaG op2 = true then (if tyAt l a ≠ tyAt l b then false else if tyAt l a = 2 then kcx op2 else decide (tyAt l a = 1 ∨ tyAt l a = 3)) else _) = true
 rw [if_pos hcm2, heq]
 rcases hab with ⟨rfl, rfl⟩ | ⟨rfl, rfl⟩
 ·
  exact htp
 ·
  by_cases hne : tyAt l (Oz.arg t 0) = tyAt l (Oz.arg t 1)
  ·
   rw [hne] at htp ⊢
   exact htp
  ·
   rw [if_pos hne] at htp
   cases htp
section
variable {l l' : List St} (hc : kac l = 0) {i : Nat} {s : St} (hs : l[i]? = some s)
include hc hs
theorem kdo {op : List UInt8} {j : Nat} {o : OpI} (f : Fine l i s o) (hl : 0 < s.args.length) (h : Oz.onceR l i op = some j) : ∃ t, l[j]? = some t ∧ t.op = op ∧ (kag l).getD j 0 = 1 ∧ j < i ∧ s.args[0]? = some (j : Int) := by
 obtain ⟨j', t, e, hji, ht, at0, ha⟩ := kaO hc hs f hl
 unfold Oz.onceR at h
 rw [kad hs] at h
 dsimp only at h
 rw [e, Int.toNat_natCast, at0] at h
 split at h
 ·
  rename_i hcd
  injection h with h
  subst h
  exact ⟨t, ht, hcd.1, hcd.2, hji, ha⟩
 ·
  cases h
theorem kd8 {o : OpI} (f : Fine l i s o) (hcm : kaG s.op = false) {k : Nat} {a : Int} (ha : s.args[k]? = some a) : o.args[k]? = some (tyAt l a) := by
 have _ := hc
 have _ := hs
 have h := kcd f hcm
 rw [← h, List.getElem?_map, ha]
 rfl
theorem kiZ (hr : Oz.negateR l i = some l') : Done57 l l' := by
 unfold Oz.negateR at hr
 rw [kad hs] at hr
 dsimp only at hr
 split at hr
 ·
  cases hr
 rename_i hno
 simp only [not_or, Classical.not_not] at hno
 obtain ⟨hop, hu⟩ := hno
 have f := kaB hc hs (o := ⟨[2], 2, false, false⟩) (by rw [hop]; show (_ : Option OpI) = _; kernel_rfl)
 obtain ⟨j, t, e, hji, ht, at0, ha⟩ := kaO hc hs f (k := 0) (by rw [f.len]; decide)
 rw [e, Int.toNat_natCast] at hr hu
 rw [at0] at hr
 have hc2 : kao s.op = 2 := by rw [hop]; show (_ : Int) = _; kernel_rfl
 cases hx : Oz.negR t.op (Oz.arg t 0) (Oz.arg t 1) with
 | none => rw [hx] at hr; cases hr
 | some x =>
  rw [hx] at hr
  injection hr with hr
  subst hr
  unfold Oz.negR at hx
  have hcs : ∀ n : List UInt8, n = Oz.oEq ∨ n = Oz.oNe ∨ n = Oz.oLt ∨ n = Oz.oLe → opR n = some ⟨[1, 1], 2, false, false⟩ ∧ kaG n = true ∧ kao n = 2 := fun n hn => by
   rcases hn with rfl | rfl | rfl | rfl <;> exact ⟨by show (_ : Option OpI) = _; kernel_rfl, by decide, by show (_ : Int) = _; kernel_rfl⟩
  have fin : ∀ (op1 op2 : List UInt8) (a b : Int), t.op = op1 → (op1 = Oz.oEq ∨ op1 = Oz.oNe ∨ op1 = Oz.oLt ∨ op1 = Oz.oLe) → (op2 = Oz.oEq ∨ op2 = Oz.oNe ∨ op2 = Oz.oLt ∨ op2 = Oz.oLe) → kcx op2 = kcx op1 → ((a = Oz.arg t 0 ∧ b = Oz.arg t 1) ∨ (a = Oz.arg t 1 ∧ b = Oz.arg t 0)) → Done57 l (Oz.removeR (l.set i (Oz.mk op2 [a, b] 0 [] 2)) j) := fun op1 op2 a b h1 h2 h3 h4 h5 => by
   obtain ⟨o1, c1, k1⟩ := hcs op1 h2
   obtain ⟨o2, c2, k2⟩ := hcs op2 h3
   obtain ⟨g1, g2⟩ := cmp_fine hc ht hji (op2 := op2) (by rw [h1]; exact c1) c2 (by rw [h1]; exact h4) (by rw [h1]; exact o1) o2 h5
   refine kgH hc hs ht hji ha hu ⟨_, g1⟩ f.ty.symm g2 ?_
   show kao op2 < kao t.op + kao s.op
   rw [h1, k1, k2, hc2]
   decide
  by_cases h0 : t.op = Oz.oEq
  ·
   rw [if_pos h0] at hx
   injection hx with hx
   subst hx
   exact fin Oz.oEq Oz.oNe _ _ h0 (by decide) (by decide) (by decide) (.inl ⟨rfl, rfl⟩)
  rw [if_neg h0] at hx
  by_cases h1 : t.op = Oz.oNe
  ·
   rw [if_pos h1] at hx
   injection hx with hx
   subst hx
   exact fin Oz.oNe Oz.oEq _ _ h1 (by decide) (by decide) (by decide) (.inl ⟨rfl, rfl⟩)
  rw [if_neg h1] at hx
  by_cases h2 : t.op = Oz.oLt
  ·
   rw [if_pos h2] at hx
   injection hx with hx
   subst hx
   exact fin Oz.oLt Oz.oLe _ _ h2 (by decide) (by decide) (by decide) (.inr ⟨rfl, rfl⟩)
  rw [if_neg h2] at hx
  by_cases h3 : t.op = Oz.oLe
  ·
   rw [if_pos h3] at hx
   injection hx with hx
   subst hx
   exact fin Oz.oLe Oz.oLt _ _ h3 (by decide) (by decide) (by decide) (.inr ⟨rfl, rfl⟩)
  rw [if_neg h3] at hx
  cases hx
theorem khY (hr : Oz.matchesR l i = some l') : Done57 l l' := by
 unfold Oz.matchesR at hr
 rw [kad hs] at hr
 by_cases hop : s.op = Oz.oSize
 ·
  rw [if_neg (by rw [hop]; decide)] at hr
  have f := kaB hc hs (o := ⟨[4], 1, false, false⟩) (by rw [hop]; show (_ : Option OpI) = _; kernel_rfl)
  cases ho : Oz.onceR l i Oz.oFind with
  | none => rw [ho] at hr; cases hr
  | some j =>
   rw [ho] at hr
   dsimp only at hr
   obtain ⟨t, ht, htop, hu, hji, ha⟩ := kdo hc hs f (by rw [f.len]; decide) ho
   split at hr
   ·
    cases hr
   rw [kad ht] at hr
   have ft := kaB hc ht (o := ⟨[3], 4, true, true⟩) (by rw [htop]; show (_ : Option OpI) = _; kernel_rfl)
   refine kgr hc hs ht hji ha hu ⟨⟨[3], 1, true, true⟩, kbV (by show (_ : Option OpI) = _; kernel_rfl) (by decide) ft.back (show t.args.map (tyAt l) = [3] from kcd ft (by rw [htop]; decide)) rfl (Int.le_refl 0) (fun h => by omega) (fun _ => rfl) (fun _ => ft.pat rfl)⟩ f.ty.symm ?_ hr
   show kao ka0 < kao t.op + kao s.op
   rw [hop, htop]
   have h1 : kao ka0 = 64 := by show (_ : Int) = _; kernel_rfl
   have h2 : kao Oz.oFind = 64 := by show (_ : Int) = _; kernel_rfl
   have h3 : kao Oz.oSize = 2 := by show (_ : Int) = _; kernel_rfl
   omega
 ·
  rw [if_pos hop] at hr
  cases hr
theorem kja (hr : Oz.lenCutR l i = some l') : Done57 l l' := by
 unfold Oz.lenCutR at hr
 rw [kad hs] at hr
 by_cases hop : s.op = Oz.oLen
 ·
  rw [if_neg (by rw [hop]; decide)] at hr
  have f := kaB hc hs (o := ⟨[3], 1, false, false⟩) (by rw [hop]; show (_ : Option OpI) = _; kernel_rfl)
  cases ho : Oz.onceR l i Oz.oCut with
  | none => rw [ho] at hr; cases hr
  | some j =>
   rw [ho] at hr
   dsimp only at hr
   obtain ⟨t, ht, htop, hu, hji, ha⟩ := kdo hc hs f (by rw [f.len]; decide) ho
   split at hr
   ·
    cases hr
   rw [kad ht] at hr
   have ft := kaB hc ht (o := ⟨[3, 1, 1], 3, false, false⟩) (by rw [htop]; show (_ : Option OpI) = _; kernel_rfl)
   refine kgr hc hs ht hji ha hu ⟨⟨[3, 1, 1], 1, false, false⟩, kbV (by show (_ : Option OpI) = _; kernel_rfl) (by decide) ft.back (show t.args.map (tyAt l) = [3, 1, 1] from kcd ft (by rw [htop]; decide)) rfl (Int.le_refl 0) (fun h => by omega) (fun h => absurd rfl h) (fun h => by cases h)⟩ f.ty.symm ?_ hr
   show kao kbf < kao t.op + kao s.op
   rw [hop, htop]
   have h1 : kao kbf = 8 := by show (_ : Int) = _; kernel_rfl
   have h2 : kao Oz.oCut = 8 := by show (_ : Int) = _; kernel_rfl
   have h3 : kao Oz.oLen = 2 := by show (_ : Int) = _; kernel_rfl
   omega
 ·
  rw [if_pos hop] at hr
  cases hr
theorem kgl (hr : Oz.firstFindR l i = some l') : Done57 l l' := by
 unfold Oz.firstFindR at hr
 rw [kad hs] at hr
 by_cases hop : s.op = Oz.oFirst
 ·
  rw [if_neg (by rw [hop]; decide)] at hr
  have f := kaB hc hs (o := ⟨[4, 1], 4, false, false⟩) (by rw [hop]; show (_ : Option OpI) = _; kernel_rfl)
  have hl : s.args.length = 2 := f.len
  cases ho : Oz.onceR l i Oz.oFind with
  | none => rw [ho] at hr; cases hr
  | some j =>
   rw [ho] at hr
   dsimp only at hr
   obtain ⟨t, ht, htop, hu, hji, ha⟩ := kdo hc hs f (by omega) ho
   split at hr
   ·
    cases hr
   rw [kad ht] at hr
   injection hr with hr
   subst hr
   have ft := kaB hc ht (o := ⟨[3], 4, true, true⟩) (by rw [htop]; show (_ : Option OpI) = _; kernel_rfl)
   have hlt : t.args.length = 1 := ft.len
   obtain ⟨p, _, ep, hp, _, _, hap⟩ := kaO hc ht ft (k := 0) (by omega)
   obtain ⟨q, _, eq, hq, _, _, haq⟩ := kaO hc hs f (k := 1) (by omega)
   have h1 := kd8 hc ht ft (by rw [htop]; decide) hap
   have h2 := kd8 hc hs f (by rw [hop]; decide) haq
   injection h1 with h1
   injection h2 with h2
   have hqj : q ≠ j := fun e => once_one (bd57 hc) hu hs ha (m := 1) (by decide) (by rw [haq, e])
   rw [ep, eq]
   refine kgH hc hs ht hji ha hu (x := Oz.mk kaF [(p : Int), (q : Int)] 0 t.text 4) ⟨⟨[3, 1], 4, true, true⟩, kbV (by show (_ : Option OpI) = _; kernel_rfl) (by decide) (fun x hx => ?_) ?_ rfl (Int.le_refl 0) (fun h => by omega) (fun _ => rfl) (fun _ => ft.pat rfl)⟩ f.ty.symm (fun hm => ?_) ?_
   ·
    simp only [List.mem_cons, List.not_mem_nil, or_false] at hx
    rcases hx with rfl | rfl <;> omega
   ·
    rw [List.map_cons, List.map_cons, List.map_nil, ← h1, ← h2]
   ·
    have hm : (j : Int) ∈ [(p : Int), (q : Int)] := hm
    simp only [List.mem_cons, List.not_mem_nil, or_false] at hm
    omega
   ·
    show kao kaF < kao t.op + kao s.op
    rw [hop, htop]
    have h1 : kao kaF = 64 := by show (_ : Int) = _; kernel_rfl
    have h2 : kao Oz.oFind = 64 := by show (_ : Int) = _; kernel_rfl
    have h3 : kao Oz.oFirst = 8 := by show (_ : Int) = _; kernel_rfl
    omega
 ·
  rw [if_pos hop] at hr
  cases hr
end
theorem keg {l : List St} {i : Nat} {a : Int} (ha : 0 ≤ a ∧ a < (i : Int)) (ht : tyAt l a = 3) : Fine l i (Oz.lenOf a) ⟨[3], 1, false, false⟩ :=
 kbV (by show (_ : Option OpI) = _; kernel_rfl) (by decide) (fun x hx => by simp only [List.mem_cons, List.not_mem_nil, or_false] at hx; rw [hx]; exact ha) (by rw [List.map_cons, List.map_nil, ht]) rfl (Int.le_refl 0) (fun h => by omega) (fun h => absurd rfl h) (fun h => by cases h)
theorem kgA {L l' : List St} {p m : Nat} {x u t : St} (hF : Fit L) (hpm : p < m) (hm : L[m]? = some u) (ht : L[p]? = some t) (hx : ∃ o, Fine L p x o) (hty : x.ty = u.ty) (hno : ∀ (q : Nat) (y : St), q ≠ m → L[q]? = some y → (p : Int) ∉ y.args) (hr : Oz.replaceR (L.set p x) m p = some l') :
  Kept57 L l' ∧ kap l' ≤ kap L - kao t.op + kao x.op - kao u.op := by
 have hml := (gH hm).1
 have hpl := (gH ht).1
 have hML : (L.set p x).length = L.length := List.length_set
 have hMm : (L.set p x)[m]? = some u := by rw [List.getElem?_set_ne (by omega)]; exact hm
 have hMp : (L.set p x)[p]? = some x := List.getElem?_set_self hpl
 have hfit : ∀ (q : Nat) (y : St), q ≠ m → (L.set p x)[q]? = some y → ∃ o, Fine (L.set p x) q y o := fun q y hq hy => by
  by_cases e : q = p
  ·
   subst e
   rw [hMp] at hy
   injection hy with hy
   subst hy
   obtain ⟨o, f⟩ := hx
   exact ⟨o, kcL hpl f (.inl (fun hm => by have := f.back _ hm; omega))⟩
  ·
   rw [List.getElem?_set_ne (fun h => e h.symm)] at hy
   obtain ⟨o, f⟩ := hF q y hy
   exact ⟨o, kcL hpl f (.inl (hno q y hq hy))⟩
 obtain ⟨k, hk⟩ := kdv hpm (by rw [hML]; exact hml) hfit (by rw [kbM hMp, kbM hMm, hty]) hr
 have h1 := hk u hMm
 rw [keo ht] at h1
 exact ⟨⟨k.fit, k.pos, by have := k.max; rw [hML] at this; exact this, k.last.trans (keh hpl (.inl (by omega)))⟩, by omega⟩
theorem kdS {l : List St} {j : Nat} (hj : j < l.length) (s : St) : ka3 (Oz.insertR l j s) = ka3 l := by
 obtain ⟨n, hn⟩ : ∃ n, n + 1 = l.length := ⟨l.length - 1, by omega⟩
 rw [kcr (i := n + 1) (by rw [kaQ]; omega), kcr (i := n) hn, ← kch (s := s) (Nat.le_of_lt hj) (a := (n : Int)) (by omega)]
 congr 1
 unfold fIn
 rw [if_pos (by omega)]
 omega
section
variable {l l' : List St} (hc : kac l = 0) {i : Nat} {s : St} (hs : l[i]? = some s)
include hc hs
theorem ki9 (hr : Oz.lenRepR l i = some l') : Done57 l l' := by
 unfold Oz.lenRepR at hr
 rw [kad hs] at hr
 by_cases hop : s.op = Oz.oLen
 ·
  rw [if_neg (by rw [hop]; decide)] at hr
  have f := kaB hc hs (o := ⟨[3], 1, false, false⟩) (by rw [hop]; show (_ : Option OpI) = _; kernel_rfl)
  cases ho : Oz.onceR l i Oz.oRep with
  | none => rw [ho] at hr; cases hr
  | some j =>
   rw [ho] at hr
   dsimp only at hr
   obtain ⟨t, ht, htop, hu, hji, ha⟩ := kdo hc hs f (by rw [f.len]; decide) ho
   split at hr
   ·
    cases hr
   rw [kad ht] at hr
   have hil := (gH hs).1
   have hjl := (gH ht).1
   have ft := kaB hc ht (o := ⟨[3, 1], 3, false, false⟩) (by rw [htop]; show (_ : Option OpI) = _; kernel_rfl)
   have hlt : t.args.length = 2 := ft.len
   obtain ⟨p, _, ep, hp, _, _, hap⟩ := kaO hc ht ft (k := 0) (by omega)
   obtain ⟨q, _, eq, hq, _, _, haq⟩ := kaO hc ht ft (k := 1) (by omega)
   have h1 := kd8 hc ht ft (by rw [htop]; decide) hap
   have h2 := kd8 hc ht ft (by rw [htop]; decide) haq
   injection h1 with h1
   injection h2 with h2
   rw [ep, eq] at hr
   obtain ⟨L, hL⟩ := xE (Oz.insertR l j (Oz.lenOf (p : Int)))
   rw [← hL] at hr
   have hLl : L.length = l.length + 1 := by rw [hL, kaQ]
   have hF : Fit L := by rw [hL]; exact kei (Nat.le_of_lt hjl) (check_fit.1 hc).2.2 ⟨_, keg (by omega) h1.symm⟩
   have hg : ∀ q, L[q]? = if q < j then l[q]? else if q = j then some (Oz.lenOf (p : Int)) else (l[q - 1]?).map (Oz.mapA (fIn j)) := fun q => by rw [hL]; exact kbq l j _ (Nat.le_of_lt hjl) q
   have hLi : L[i + 1]? = some (Oz.mapA (fIn j) s) := by rw [hg, if_neg (by omega), if_neg (by omega), Nat.add_sub_cancel, hs]; rfl
   have hLj : L[j + 1]? = some (Oz.mapA (fIn j) t) := by rw [hg, if_neg (by omega), if_neg (by omega), Nat.add_sub_cancel, ht]; rfl
   have hLn : tyAt L (j : Int) = 1 := by rw [kaK, hg, if_neg (by omega), if_pos rfl]; rfl
   have hLq : tyAt L (q : Int) = 1 := by
    have := kch (s := Oz.lenOf (p : Int)) (Nat.le_of_lt hjl) (a := (q : Int)) (by omega)
    rw [show fIn j (q : Int) = (q : Int) from if_neg (by omega), ← hL] at this
    rw [this, ← h2]
   obtain ⟨k, hk⟩ := kgA hF (by omega : j + 1 < i + 1) hLi hLj (x := Oz.mk Oz.oMul [(j : Int), (q : Int)] 0 [] 1) ⟨⟨[1, 1], 1, false, false⟩, kbV (by show (_ : Option OpI) = _; kernel_rfl) (by decide) (fun x hx => by simp only [List.mem_cons, List.not_mem_nil, or_false] at hx; rcases hx with rfl | rfl <;> omega) (by rw [List.map_cons, List.map_cons, List.map_nil, hLn, hLq]) rfl (Int.le_refl 0) (fun h => by omega) (fun h => absurd rfl h) (fun h => by cases h)⟩ f.ty.symm (fun r y hr' hy hm => by
    rw [hg] at hy
    by_cases h3 : r < j
    ·
     rw [if_pos h3] at hy
     obtain ⟨o, fy⟩ := (check_fit.1 hc).2.2 r y hy
     have := fy.back _ hm
     omega
    ·
     rw [if_neg h3] at hy
     by_cases h4 : r = j
     ·
      rw [if_pos h4] at hy
      injection hy with hy
      subst hy
      have hm : ((j + 1 : Nat) : Int) ∈ [(p : Int)] := hm
      simp only [List.mem_cons, List.not_mem_nil, or_false] at hm
      omega
     ·
      rw [if_neg h4] at hy
      cases hy2 : l[r - 1]? with
      | none => rw [hy2] at hy; cases hy
      | some z =>
       rw [hy2, Option.map_some] at hy
       injection hy with hy
       subst hy
       have hm : ((j + 1 : Nat) : Int) ∈ z.args.map (fIn j) := hm
       obtain ⟨a, ha', hfa⟩ := List.mem_map.1 hm
       have : a = (j : Int) := by unfold fIn at hfa; split at hfa <;> omega
       subst this
       exact keZ (bd57 hc) hu hs (List.mem_of_getElem? ha) (by omega) hy2 ha') hr
   have hlen := kfc (by omega : j + 1 < i + 1) (by rw [List.length_set]; omega) hr
   rw [List.length_set, hLl] at hlen
   have hcost : kap L = kap l + 2 := by rw [hL, kdX]; rfl
   have hlast : ka3 L = ka3 l := by rw [hL]; exact kdS hjl _
   refine ⟨check_fit.2 ⟨k.pos, by have := (check_fit.1 hc).2.1; omega, k.fit⟩, ?_, k.last.trans hlast⟩
   have h5 : kao (Oz.mapA (fIn j) t).op = 8 := by rw [show (Oz.mapA (fIn j) t).op = t.op from rfl, htop]; show (_ : Int) = _; kernel_rfl
   have h6 : kao (Oz.mapA (fIn j) s).op = 2 := by rw [show (Oz.mapA (fIn j) s).op = s.op from rfl, hop]; show (_ : Int) = _; kernel_rfl
   have h7 : kao (Oz.mk Oz.oMul [(j : Int), (q : Int)] 0 [] 1).op = 2 := by show kao Oz.oMul = 2; show (_ : Int) = _; kernel_rfl
   omega
 ·
  rw [if_pos hop] at hr
  cases hr
theorem ki8 (hr : Oz.lenSumR l i = some l') : Done57 l l' := by
 unfold Oz.lenSumR at hr
 rw [kad hs] at hr
 by_cases hop : s.op = Oz.oLen
 ·
  by_cases hbig : 4096 ≤ l.length
  ·
   rw [if_pos (.inr hbig)] at hr
   cases hr
  rw [if_neg (by simp only [not_or]; exact ⟨by rw [hop]; decide, hbig⟩)] at hr
  have f := kaB hc hs (o := ⟨[3], 1, false, false⟩) (by rw [hop]; show (_ : Option OpI) = _; kernel_rfl)
  cases ho : Oz.onceR l i Oz.oCat with
  | none => rw [ho] at hr; cases hr
  | some j =>
   rw [ho] at hr
   dsimp only at hr
   obtain ⟨t, ht, htop, hu, hji, ha⟩ := kdo hc hs f (by rw [f.len]; decide) ho
   split at hr
   ·
    cases hr
   rw [kad ht] at hr
   have hil := (gH hs).1
   have hjl := (gH ht).1
   have ft := kaB hc ht (o := ⟨[3, 3], 3, false, false⟩) (by rw [htop]; show (_ : Option OpI) = _; kernel_rfl)
   have hlt : t.args.length = 2 := ft.len
   obtain ⟨p, _, ep, hp, _, _, hap⟩ := kaO hc ht ft (k := 0) (by omega)
   obtain ⟨q, _, eq, hq, _, _, haq⟩ := kaO hc ht ft (k := 1) (by omega)
   have h1 := kd8 hc ht ft (by rw [htop]; decide) hap
   have h2 := kd8 hc ht ft (by rw [htop]; decide) haq
   injection h1 with h1
   injection h2 with h2
   rw [ep, eq] at hr
   obtain ⟨L1, hL1⟩ := xE (Oz.insertR l j (Oz.lenOf (p : Int)))
   rw [← hL1] at hr
   have hLl1 : L1.length = l.length + 1 := by rw [hL1, kaQ]
   have hF1 : Fit L1 := by rw [hL1]; exact kei (Nat.le_of_lt hjl) (check_fit.1 hc).2.2 ⟨_, keg (by omega) h1.symm⟩
   have hg1 : ∀ q, L1[q]? = if q < j then l[q]? else if q = j then some (Oz.lenOf (p : Int)) else (l[q - 1]?).map (Oz.mapA (fIn j)) := fun q => by rw [hL1]; exact kbq l j _ (Nat.le_of_lt hjl) q
   have hLq : tyAt L1 (q : Int) = 3 := by
    have := kch (s := Oz.lenOf (p : Int)) (Nat.le_of_lt hjl) (a := (q : Int)) (by omega)
    rw [show fIn j (q : Int) = (q : Int) from if_neg (by omega), ← hL1] at this
    rw [this, ← h2]
   obtain ⟨L, hL⟩ := xE (Oz.insertR L1 (j + 1) (Oz.lenOf (q : Int)))
   rw [← hL] at hr
   have hLl : L.length = l.length + 2 := by rw [hL, kaQ, hLl1]
   have hF : Fit L := by rw [hL]; exact kei (by omega) hF1 ⟨_, keg (by omega) hLq⟩
   have hg : ∀ r, L[r]? = if r < j + 1 then L1[r]? else if r = j + 1 then some (Oz.lenOf (q : Int)) else (L1[r - 1]?).map (Oz.mapA (fIn (j + 1))) := fun r => by rw [hL]; exact kbq L1 (j + 1) _ (by omega) r
   have hLi : L[i + 2]? = some (Oz.mapA (fIn (j + 1)) (Oz.mapA (fIn j) s)) := by rw [hg, if_neg (by omega), if_neg (by omega), show i + 2 - 1 = i + 1 by omega, hg1, if_neg (by omega), if_neg (by omega), Nat.add_sub_cancel, hs]; rfl
   have hLj : L[j + 2]? = some (Oz.mapA (fIn (j + 1)) (Oz.mapA (fIn j) t)) := by rw [hg, if_neg (by omega), if_neg (by omega), show j + 2 - 1 = j + 1 by omega, hg1, if_neg (by omega), if_neg (by omega), Nat.add_sub_cancel, ht]; rfl
   have hLn : tyAt L (j : Int) = 1 := by rw [kaK, hg, if_pos (by omega), hg1, if_neg (by omega), if_pos rfl]; rfl
   have hLn1 : tyAt L ((j : Int) + 1) = 1 := by rw [show (j : Int) + 1 = ((j + 1 : Nat) : Int) by omega, kaK, hg, if_neg (by omega), if_pos rfl]; rfl
   obtain ⟨k, hk⟩ := kgA hF (by omega : j + 2 < i + 2) hLi hLj (x := Oz.mk Oz.oAdd [(j : Int), (j : Int) + 1] 0 [] 1) ⟨⟨[1, 1], 1, false, false⟩, kbV (by show (_ : Option OpI) = _; kernel_rfl) (by decide) (fun x hx => by simp only [List.mem_cons, List.not_mem_nil, or_false] at hx; rcases hx with rfl | rfl <;> omega) (by rw [List.map_cons, List.map_cons, List.map_nil, hLn, hLn1]) rfl (Int.le_refl 0) (fun h => by omega) (fun h => absurd rfl h) (fun h => by cases h)⟩ f.ty.symm (fun r y hr' hy hm => by
    rw [hg] at hy
    by_cases h3 : r < j + 1
    ·
     rw [if_pos h3] at hy
     obtain ⟨o, fy⟩ := hF1 r y hy
     have := fy.back _ hm
     omega
    ·
     rw [if_neg h3] at hy
     by_cases h4 : r = j + 1
     ·
      rw [if_pos h4] at hy
      injection hy with hy
      subst hy
      have hm : ((j + 2 : Nat) : Int) ∈ [(q : Int)] := hm
      simp only [List.mem_cons, List.not_mem_nil, or_false] at hm
      omega
     ·
      rw [if_neg h4, hg1, if_neg (by omega), if_neg (by omega)] at hy
      cases hy2 : l[r - 1 - 1]? with
      | none => rw [hy2] at hy; cases hy
      | some z =>
       rw [hy2, Option.map_some, Option.map_some] at hy
       injection hy with hy
       subst hy
       have hm : ((j + 2 : Nat) : Int) ∈ (z.args.map (fIn j)).map (fIn (j + 1)) := hm
       obtain ⟨b, hb', hfb⟩ := List.mem_map.1 hm
       obtain ⟨a, ha', hfa⟩ := List.mem_map.1 hb'
       have : a = (j : Int) := by unfold fIn at hfa hfb; split at hfa <;> split at hfb <;> omega
       subst this
       exact keZ (bd57 hc) hu hs (List.mem_of_getElem? ha) (by omega) hy2 ha') hr
   have hlen := kfc (by omega : j + 2 < i + 2) (by rw [List.length_set]; omega) hr
   rw [List.length_set, hLl] at hlen
   have hcost : kap L = kap l + 2 + 2 := by rw [hL, kdX, hL1, kdX]; rfl
   have hlast : ka3 L = ka3 l := by rw [hL, kdS (by omega), hL1]; exact kdS hjl _
   refine ⟨check_fit.2 ⟨k.pos, by omega, k.fit⟩, ?_, k.last.trans hlast⟩
   have h5 : kao (Oz.mapA (fIn (j + 1)) (Oz.mapA (fIn j) t)).op = 8 := by rw [show (Oz.mapA (fIn (j + 1)) (Oz.mapA (fIn j) t)).op = t.op from rfl, htop]; show (_ : Int) = _; kernel_rfl
   have h6 : kao (Oz.mapA (fIn (j + 1)) (Oz.mapA (fIn j) s)).op = 2 := by rw [show (Oz.mapA (fIn (j + 1)) (Oz.mapA (fIn j) s)).op = s.op from rfl, hop]; show (_ : Int) = _; kernel_rfl
   have h7 : kao (Oz.mk Oz.oAdd [(j : Int), (j : Int) + 1] 0 [] 1).op = 2 := by show kao Oz.oAdd = 2; show (_ : Int) = _; kernel_rfl
   omega
 ·
  rw [if_pos (.inl hop)] at hr
  cases hr
end
theorem kaN {f : List St → Nat → Option (List St)} {l l' : List St} (hf : ∀ (i : Nat) (s : St), l[i]? = some s → f l i = some l' → Done57 l l') (h : Oz.firstOf f l = some l') : Done57 l l' := by
 unfold Oz.firstOf at h
 obtain ⟨i, hi, hfi⟩ := List.exists_of_findSome?_eq_some h
 have hil := List.mem_range.1 hi
 exact hf i _ (List.getElem?_eq_getElem hil) hfi
theorem kdY {l l' : List St} (hc : kac l = 0) {k : Nat} (h : Oz.applyR k l = some l') : Done57 l l' := by
 unfold Oz.applyR at h
 cases hk : Oz.rulesR[k]? with
 | none => rw [hk] at h; cases h
 | some f =>
  rw [hk] at h
  have hk11 : k < 11 := (gH hk).1
  have hcs : k = 0 ∨ k = 1 ∨ k = 2 ∨ k = 3 ∨ k = 4 ∨ k = 5 ∨ k = 6 ∨ k = 7 ∨ k = 8 ∨ k = 9 ∨ k = 10 := by omega
  rcases hcs with rfl | rfl | rfl | rfl | rfl | rfl | rfl | rfl | rfl | rfl | rfl <;> (injection hk with hk; subst hk)
  ·
   exact kaN (fun i s hs hr => kkc hc hs hr) h
  ·
   exact kaN (fun i s hs hr => klY hc hs hr) h
  ·
   exact kaN (fun i s hs hr => khV hc hs hr) h
  ·
   exact kaN (fun i s hs hr => kiZ hc hs hr) h
  ·
   exact kaN (fun i s hs hr => kji hc hs hr) h
  ·
   exact kaN (fun i s hs hr => khY hc hs hr) h
  ·
   exact kaN (fun i s hs hr => kgl hc hs hr) h
  ·
   exact kaN (fun i s hs hr => kja hc hs hr) h
  ·
   exact kaN (fun i s hs hr => ki8 hc hs hr) h
  ·
   exact kaN (fun i s hs hr => ki9 hc hs hr) h
  ·
   exact kaN (fun i s hs hr => kir hc hs hr) h
theorem kdL {l l' : List St} (hc : kac l = 0) (h : Oz.anyR l = some l') : Done57 l l' := by
 unfold Oz.anyR at h
 obtain ⟨k, _, hk⟩ := List.exists_of_findSome?_eq_some h
 exact kdY hc hk
end Go.Proofs.YtamhdmkolfmmdaaGreatDoor
