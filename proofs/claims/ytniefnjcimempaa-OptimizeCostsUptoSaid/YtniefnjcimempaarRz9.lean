/- What the edits of optimize leave of a plan's check, cost and last type (plain Lean): remove, replace, insert, a step set. Each rule of optimize keeps a plan a plan, lowers its cost and keeps its last type (plain Lean). Each rule of optimize keeps a plan a plan, lowers its cost and keeps its last type: the rules over two steps, and all of them (plain Lean). -/
import Derived.Test.YtniefnjcimempaarRz4
import Derived.Test.YtniefnjcimempaarRz8
namespace Go.Proofs.Ytniefnjcimempaa
open Go.RowKit
def Fit (l : List St) : Prop := ∀ (i : Nat) (s : St), l[i]? = some s → ∃ o, Fine l i s o
theorem fine_zero {l : List St} {i : Nat} {s : St} {o : OpI} (f : Fine l i s o) : stepE l i s = 0 := by
  rw [stepE_go f.op f.len f.back, if_neg, if_neg, ]
  · by_cases h : o.regex = true
    · rw [if_pos h, f.pat h]
    · rw [if_neg h]
  · rintro (h | h)
    · exact h f.ty
    · rw [f.typed] at h; cases h
  · rintro (h | ⟨h, h2⟩ | ⟨h, h2⟩)
    · have := f.num; omega
    · exact h2 (f.numN h)
    · rw [f.text h] at h2; cases h2
theorem check_fit {l : List St} : checkR l = 0 ↔ 1 ≤ l.length ∧ l.length ≤ 4096 ∧ Fit l := by
  constructor
  · intro h
    obtain ⟨h1, h2, h3⟩ := checkR_zero h
    exact ⟨h1, h2, fun i s hs => stepE_zero (h3 i s hs)⟩
  · rintro ⟨h1, h2, h3⟩
    unfold checkR
    rw [if_neg (by omega)]
    refine (checkF_zero l 0).2 fun j s hs => ?_
    obtain ⟨o, f⟩ := h3 j s hs
    rw [Nat.zero_add]
    exact fine_zero f
theorem getD_map (f : Int → Int) {l : List Int} {k : Nat} (h : k < l.length) : (l.map f).getD k 0 = f (l.getD k 0) := by
  rw [List.getD_eq_getElem?_getD, List.getD_eq_getElem?_getD, List.getElem?_map, List.getElem?_eq_getElem h]
  rfl
theorem getD_mem {l : List Int} {k : Nat} (h : k < l.length) : l.getD k 0 ∈ l := by
  rw [List.getD_eq_getElem?_getD, List.getElem?_eq_getElem h]
  exact List.getElem_mem h
theorem fine_map {l l' : List St} {i i' : Nat} {s : St} {o : OpI} (f : Int → Int) (h : Fine l i s o) (hf : ∀ a ∈ s.args, 0 ≤ f a ∧ f a < (i' : Int) ∧ tyAt l' (f a) = tyAt l a) : Fine l' i' (Oz.mapA f s) o := by
  refine ⟨h.op, by unfold Oz.mapA; rw [List.length_map]; exact h.len, fun a ha => ?_, h.num, h.numN, h.text, h.ty, ?_, h.pat⟩
  · unfold Oz.mapA at ha
    obtain ⟨b, hb, rfl⟩ := List.mem_map.1 ha
    exact ⟨(hf b hb).1, (hf b hb).2.1⟩
  · have ht := h.typed
    unfold typedR at ht ⊢
    show (if isCmpT s.op = true then (if tyAt l' ((s.args.map f).getD 0 0) ≠ tyAt l' ((s.args.map f).getD 1 0) then false else if tyAt l' ((s.args.map f).getD 0 0) = 2 then isEqT s.op else decide (tyAt l' ((s.args.map f).getD 0 0) = 1 ∨ tyAt l' ((s.args.map f).getD 0 0) = 3)) else decide ((s.args.map f).map (tyAt l') = o.args)) = true
    by_cases hc : isCmpT s.op = true
    · have hl : s.args.length = 2 := by rw [h.len]; exact opR_cmp h.op hc
      rw [if_pos hc] at ht ⊢
      rw [getD_map f (by omega), getD_map f (by omega), (hf _ (getD_mem (by omega))).2.2, (hf _ (getD_mem (by omega))).2.2]
      exact ht
    · rw [if_neg hc] at ht ⊢
      have : (s.args.map f).map (tyAt l') = s.args.map (tyAt l) := by
        rw [List.map_map]
        exact List.map_congr_left fun a ha => (hf a ha).2.2
      rw [this]
      exact ht
theorem mapA_id {f : Int → Int} {s : St} (h : ∀ a ∈ s.args, f a = a) : Oz.mapA f s = s := by
  unfold Oz.mapA
  have : s.args.map f = s.args := by
    conv => rhs; rw [← List.map_id s.args]
    exact List.map_congr_left fun a ha => by rw [h a ha]; rfl
  rw [this]
theorem fine_keep {l l' : List St} {i : Nat} {s : St} {o : OpI} (h : Fine l i s o) (hf : ∀ a ∈ s.args, tyAt l' a = tyAt l a) : Fine l' i s o := by
  have := fine_map (l' := l') (i' := i) (fun a => a) h (fun a ha => ⟨(h.back a ha).1, (h.back a ha).2, hf a ha⟩)
  rwa [mapA_id (fun _ _ => rfl)] at this
theorem tyAt_opt (l : List St) (q : Nat) : tyAt l (q : Int) = (l[q]?).elim 0 (fun s => s.ty) := by
  unfold tyAt
  rw [Int.toNat_natCast]
  cases l[q]? <;> rfl
theorem nat_of {a : Int} (h : 0 ≤ a) : ∃ q : Nat, a = (q : Int) := ⟨a.toNat, by omega⟩
-- remove
theorem removeR_get {l : List St} {i : Nat} (hi : i < l.length) (q : Nat) : (Oz.removeR l i)[q]? = if q < i then l[q]? else (l[q + 1]?).map (Oz.mapA (fRm i)) := by
  have hl : (l.take i).length = i := by rw [List.length_take]; omega
  unfold Oz.removeR
  by_cases h : q < i
  · rw [if_pos h, List.getElem?_append_left (by omega), List.getElem?_take, if_pos h]
  · rw [if_neg h, List.getElem?_append_right (by omega), hl, List.getElem?_map, List.getElem?_drop, show i + 1 + (q - i) = q + 1 by omega]
    rfl
theorem removeR_len {l : List St} {i : Nat} (hi : i < l.length) : (Oz.removeR l i).length = l.length - 1 := by
  unfold Oz.removeR
  rw [List.length_append, List.length_take, List.length_map, List.length_drop]
  omega
theorem tyAt_remove {l : List St} {i : Nat} (hi : i < l.length) {a : Int} (ha : 0 ≤ a) (hai : a ≠ (i : Int)) : tyAt (Oz.removeR l i) (fRm i a) = tyAt l a := by
  obtain ⟨q, rfl⟩ := nat_of ha
  unfold fRm
  by_cases h : (i : Int) < (q : Int)
  · rw [if_pos h, show (q : Int) - 1 = ((q - 1 : Nat) : Int) by omega, tyAt_opt, tyAt_opt, removeR_get hi, if_neg (by omega), show q - 1 + 1 = q by omega]
    cases l[q]? <;> rfl
  · rw [if_neg h, tyAt_opt, tyAt_opt, removeR_get hi, if_pos (by omega)]
theorem remove_fit {l : List St} {i : Nat} (hi : i < l.length) (h : ∀ (q : Nat) (s : St), q ≠ i → l[q]? = some s → (∃ o, Fine l q s o) ∧ (i : Int) ∉ s.args) : Fit (Oz.removeR l i) := fun q s hs => by
  rw [removeR_get hi] at hs
  by_cases hq : q < i
  · rw [if_pos hq] at hs
    obtain ⟨⟨o, f⟩, hn⟩ := h q s (by omega) hs
    refine ⟨o, ?_⟩
    have := fine_map (l' := Oz.removeR l i) (i' := q) (fRm i) f (fun a ha => by
      have hb := f.back a ha
      have e : fRm i a = a := if_neg (by omega)
      rw [← tyAt_remove hi hb.1 (by omega)]
      exact ⟨by omega, by omega, rfl⟩)
    rwa [mapA_id (f := fRm i) (s := s) (fun a ha => if_neg (by have := f.back a ha; omega))] at this
  · rw [if_neg hq] at hs
    cases hl : l[q + 1]? with
    | none => rw [hl] at hs; cases hs
    | some t =>
      rw [hl, Option.map_some] at hs
      injection hs with hs
      subst hs
      obtain ⟨⟨o, f⟩, hn⟩ := h (q + 1) t (by omega) hl
      refine ⟨o, fine_map (fRm i) f (fun a ha => ?_)⟩
      have hb := f.back a ha
      have hne : a ≠ (i : Int) := fun e => hn (e ▸ ha)
      rw [tyAt_remove hi hb.1 hne]
      unfold fRm
      split <;> exact ⟨by omega, by omega, rfl⟩
-- cost
theorem costR_pos (n : List UInt8) : 1 ≤ costR n := by
  unfold costR
  split
  · omega
  · split
    · omega
    · split
      · omega
      · split <;> omega
theorem costL_append (a b : List St) : costL (a ++ b) = costL a + costL b := by
  unfold costL
  rw [List.map_append, List.sum_append]
theorem costL_cons (s : St) (l : List St) : costL (s :: l) = costR s.op + costL l := by
  unfold costL
  rw [List.map_cons, List.sum_cons]
theorem costL_map (f : Int → Int) (l : List St) : costL (l.map (Oz.mapA f)) = costL l := by
  unfold costL
  rw [List.map_map]
  rfl
theorem costL_nonneg : ∀ l : List St, 0 ≤ costL l
  | [] => by unfold costL; simp
  | s :: l => by
    rw [costL_cons]
    have := costR_pos s.op
    have := costL_nonneg l
    omega
theorem cost_split {l : List St} {i : Nat} {s : St} (h : l[i]? = some s) : costL l = costL (l.take i) + costR s.op + costL (l.drop (i + 1)) := by
  have hi := (List.getElem?_eq_some_iff.1 h)
  conv => lhs; rw [← List.take_append_drop i l]
  rw [List.drop_eq_getElem_cons hi.1, costL_append, costL_cons, hi.2]
  omega
theorem cost_remove {l : List St} {i : Nat} {s : St} (h : l[i]? = some s) : costL (Oz.removeR l i) = costL l - costR s.op := by
  rw [cost_split h]
  unfold Oz.removeR
  rw [costL_append]
  have := costL_map (fun a => if (i : Int) < a then a - 1 else a) (l.drop (i + 1))
  omega
theorem cost_set {l : List St} {i : Nat} {s : St} (h : l[i]? = some s) (t : St) : costL (l.set i t) = costL l - costR s.op + costR t.op := by
  have hi := (List.getElem?_eq_some_iff.1 h).1
  have h2 : (l.set i t)[i]? = some t := List.getElem?_set_self hi
  rw [cost_split h2, cost_split h, List.take_set_of_le (Nat.le_refl i), List.drop_set_of_lt (by omega)]
  omega
theorem cost_insert {l : List St} {j : Nat} (s : St) : costL (Oz.insertR l j s) = costL l + costR s.op := by
  unfold Oz.insertR
  rw [costL_append, costL_cons, costL_map]
  conv => rhs; rw [← List.take_append_drop j l, costL_append]
  omega
theorem cost_take {l : List St} {k : Nat} (h : k < l.length) : costL (l.take k) < costL l := by
  conv => rhs; rw [← List.take_append_drop k l, costL_append, List.drop_eq_getElem_cons h, costL_cons]
  have := costR_pos l[k].op
  have := costL_nonneg (l.drop (k + 1))
  omega
-- the last type
def lastTy (l : List St) : Int := tyAt l ((l.length : Int) - 1)
theorem lastTy_at {l : List St} {i : Nat} (h : i + 1 = l.length) : lastTy l = tyAt l (i : Int) := by unfold lastTy; rw [← h]; congr 1; omega
theorem last_remove {l : List St} {i : Nat} (hi : i + 1 < l.length) : lastTy (Oz.removeR l i) = lastTy l := by
  obtain ⟨n, hn⟩ : ∃ n, n + 2 = l.length := ⟨l.length - 2, by omega⟩
  rw [lastTy_at (i := n) (by rw [removeR_len (by omega)]; omega), lastTy_at (i := n + 1) (by omega)]
  have h := tyAt_remove (l := l) (i := i) (by omega) (a := ((n + 1 : Nat) : Int)) (by omega) (by omega)
  rw [← h]
  congr 1
  unfold fRm
  rw [if_pos (by omega)]
  omega
structure Kept57 (l l' : List St) : Prop where
  fit : Fit l'
  pos : 1 ≤ l'.length
  max : l'.length ≤ l.length
  last : lastTy l' = lastTy l
theorem kept_remove {l : List St} {i : Nat} (hi : i + 1 < l.length) (h : ∀ (q : Nat) (s : St), q ≠ i → l[q]? = some s → (∃ o, Fine l q s o) ∧ (i : Int) ∉ s.args) : Kept57 l (Oz.removeR l i) :=
  ⟨remove_fit (by omega) h, by rw [removeR_len (by omega)]; omega, by rw [removeR_len (by omega)]; omega, last_remove hi⟩
-- replace
theorem rep_get {l : List St} {i j : Nat} (hi : i < l.length) (q : Nat) : (l.take (i + 1) ++ (l.drop (i + 1)).map (Oz.mapA (fRp i j)))[q]? = if q ≤ i then l[q]? else (l[q]?).map (Oz.mapA (fRp i j)) := by
  have hl : (l.take (i + 1)).length = i + 1 := by rw [List.length_take]; omega
  by_cases h : q ≤ i
  · rw [if_pos h, List.getElem?_append_left (by omega), List.getElem?_take, if_pos (by omega)]
  · rw [if_neg h, List.getElem?_append_right (by omega), hl, List.getElem?_map, List.getElem?_drop, show i + 1 + (q - (i + 1)) = q by omega]
theorem kept_replace {l l' : List St} {i j : Nat} (hji : j < i) (hi : i < l.length) (h : ∀ (q : Nat) (s : St), q ≠ i → l[q]? = some s → ∃ o, Fine l q s o) (ht : tyAt l (j : Int) = tyAt l (i : Int)) (hr : Oz.replaceR l i j = some l') :
    Kept57 l l' ∧ ∀ s, l[i]? = some s → costL l' ≤ costL l - costR s.op := by
  unfold Oz.replaceR at hr
  split at hr
  · cases hr
  split at hr
  · rename_i hlast
    injection hr with hr
    subst hr
    have hlen : (l.take (j + 1)).length = j + 1 := by rw [List.length_take]; omega
    have hty : ∀ q : Nat, q ≤ j → tyAt (l.take (j + 1)) (q : Int) = tyAt l (q : Int) := fun q hq => by
      rw [tyAt_opt, tyAt_opt, List.getElem?_take, if_pos (by omega)]
    refine ⟨⟨fun q s hs => ?_, by omega, by omega, ?_⟩, fun s hs => ?_⟩
    · have hq : q < j + 1 := by rw [← hlen]; exact (List.getElem?_eq_some_iff.1 hs).1
      rw [List.getElem?_take, if_pos hq] at hs
      obtain ⟨o, f⟩ := h q s (by omega) hs
      refine ⟨o, fine_keep f (fun a ha => ?_)⟩
      have hb := f.back a ha
      obtain ⟨b, rfl⟩ := nat_of hb.1
      exact hty b (by omega)
    · rw [lastTy_at (i := j) (by omega), lastTy_at (i := i) hlast, hty j (Nat.le_refl j), ht]
    · rw [cost_split hs, List.drop_of_length_le (by omega)]
      have h1 : costL (l.take (j + 1)) ≤ costL (l.take i) := by
        by_cases e : j + 1 = i
        · rw [e]; exact Int.le_refl _
        · have h2 := cost_take (l := l.take i) (k := j + 1) (by rw [List.length_take]; omega)
          rw [List.take_take, Nat.min_eq_left (by omega)] at h2
          omega
      have h3 : costL ([] : List St) = 0 := rfl
      omega
  · rename_i hlast
    injection hr with hr
    subst hr
    have he : (l.drop (i + 1)).map (Oz.mapA fun a => if a = (i : Int) then (j : Int) else a) = (l.drop (i + 1)).map (Oz.mapA (fRp i j)) := rfl
    rw [he]
    obtain ⟨M, hM⟩ : ∃ M, M = l.take (i + 1) ++ (l.drop (i + 1)).map (Oz.mapA (fRp i j)) := ⟨_, rfl⟩
    have hg : ∀ q, M[q]? = if q ≤ i then l[q]? else (l[q]?).map (Oz.mapA (fRp i j)) := fun q => by rw [hM]; exact rep_get hi q
    have hMl : M.length = l.length := by rw [hM, List.length_append, List.length_take, List.length_map, List.length_drop]; omega
    have hcost : costL M = costL l := by
      rw [hM, costL_append, costL_map, ← costL_append, List.take_append_drop]
    have hty : ∀ q : Nat, tyAt M (q : Int) = tyAt l (q : Int) := fun q => by
      rw [tyAt_opt, tyAt_opt, hg]
      split
      · rfl
      · cases l[q]? <;> rfl
    rw [← hM]
    have hfit : ∀ (q : Nat) (s : St), q ≠ i → M[q]? = some s → (∃ o, Fine M q s o) ∧ (i : Int) ∉ s.args := fun q s hq hs => by
      rw [hg] at hs
      by_cases hqi : q ≤ i
      · rw [if_pos hqi] at hs
        obtain ⟨o, f⟩ := h q s hq hs
        refine ⟨⟨o, fine_keep f (fun a ha => ?_)⟩, fun hm => ?_⟩
        · obtain ⟨b, rfl⟩ := nat_of (f.back a ha).1
          exact hty b
        · have := f.back _ hm
          omega
      · rw [if_neg hqi] at hs
        cases hl : l[q]? with
        | none => rw [hl] at hs; cases hs
        | some t =>
          rw [hl, Option.map_some] at hs
          injection hs with hs
          subst hs
          obtain ⟨o, f⟩ := h q t hq hl
          refine ⟨⟨o, fine_map (fRp i j) f (fun a ha => ?_)⟩, fun hm => ?_⟩
          · have hb := f.back a ha
            unfold fRp
            by_cases e : a = (i : Int)
            · rw [if_pos e, e, hty j, ht]
              exact ⟨by omega, by omega, rfl⟩
            · rw [if_neg e]
              obtain ⟨b, rfl⟩ := nat_of hb.1
              exact ⟨hb.1, hb.2, hty b⟩
          · unfold Oz.mapA at hm
            obtain ⟨a, ha, hfa⟩ := List.mem_map.1 hm
            unfold fRp at hfa
            by_cases e : a = (i : Int)
            · rw [if_pos e] at hfa; omega
            · rw [if_neg e] at hfa; exact e hfa
    have hk := kept_remove (l := M) (i := i) (by omega) hfit
    refine ⟨⟨hk.fit, hk.pos, by rw [← hMl]; exact hk.max, hk.last.trans ?_⟩, fun s hs => ?_⟩
    · unfold lastTy
      rw [hMl]
      obtain ⟨b, hb⟩ := nat_of (a := (l.length : Int) - 1) (by omega)
      rw [hb]
      exact hty b
    · have hMi : M[i]? = some s := by rw [hg, if_pos (Nat.le_refl i)]; exact hs
      rw [cost_remove hMi, hcost]
      exact Int.le_refl _
-- insert
theorem tyAt_insert {l : List St} {j : Nat} {s : St} (hj : j ≤ l.length) {a : Int} (ha : 0 ≤ a) : tyAt (Oz.insertR l j s) (fIn j a) = tyAt l a := by
  obtain ⟨q, rfl⟩ := nat_of ha
  unfold fIn
  by_cases h : (j : Int) ≤ (q : Int)
  · rw [if_pos h, show (q : Int) + 1 = ((q + 1 : Nat) : Int) by omega, tyAt_opt, tyAt_opt, insertR_get l j s hj, if_neg (by omega), if_neg (by omega), show q + 1 - 1 = q by omega]
    cases l[q]? <;> rfl
  · rw [if_neg h, tyAt_opt, tyAt_opt, insertR_get l j s hj, if_pos (by omega)]
theorem insert_fit {l : List St} {j : Nat} {s : St} (hj : j ≤ l.length) (h : Fit l) (hs : ∃ o, Fine l j s o) : Fit (Oz.insertR l j s) := fun q t ht => by
  rw [insertR_get l j s hj] at ht
  have hlow : ∀ (q : Nat) (t : St), q ≤ j → (∃ o, Fine l q t o) → ∃ o, Fine (Oz.insertR l j s) q t o := fun q t hq hf => by
    obtain ⟨o, f⟩ := hf
    have := fine_map (l' := Oz.insertR l j s) (i' := q) (fIn j) f (fun a ha => by
      have hb := f.back a ha
      have e : fIn j a = a := if_neg (by omega)
      rw [← tyAt_insert (s := s) hj hb.1]
      exact ⟨by omega, by omega, rfl⟩)
    rw [mapA_id (f := fIn j) (s := t) (fun a ha => if_neg (by have := f.back a ha; omega))] at this
    exact ⟨o, this⟩
  by_cases hq : q < j
  · rw [if_pos hq] at ht
    exact hlow q t (by omega) (h q t ht)
  · rw [if_neg hq] at ht
    by_cases hqj : q = j
    · rw [if_pos hqj] at ht
      injection ht with ht
      subst ht hqj
      exact hlow q s (Nat.le_refl q) hs
    · rw [if_neg hqj] at ht
      cases hl : l[q - 1]? with
      | none => rw [hl] at ht; cases ht
      | some x =>
        rw [hl, Option.map_some] at ht
        injection ht with ht
        subst ht
        obtain ⟨o, f⟩ := h (q - 1) x hl
        refine ⟨o, fine_map (fIn j) f (fun a ha => ?_)⟩
        have hb := f.back a ha
        rw [tyAt_insert hj hb.1]
        unfold fIn
        split <;> exact ⟨by omega, by omega, rfl⟩
-- a step set
theorem tyAt_set {l : List St} {j : Nat} {t : St} (hj : j < l.length) (a : Int) (h : a ≠ (j : Int) ∨ t.ty = tyAt l (j : Int)) (ha : 0 ≤ a) : tyAt (l.set j t) a = tyAt l a := by
  obtain ⟨q, rfl⟩ := nat_of ha
  by_cases e : q = j
  · subst e
    rcases h with h | h
    · exact absurd rfl h
    · rw [← h, tyAt_opt, List.getElem?_set_self hj]
      rfl
  · rw [tyAt_opt, tyAt_opt, List.getElem?_set_ne (fun h => e h.symm)]
theorem fine_set {l : List St} {j q : Nat} {t s : St} {o : OpI} (hj : j < l.length) (f : Fine l q s o) (h : (j : Int) ∉ s.args ∨ t.ty = tyAt l (j : Int)) : Fine (l.set j t) q s o :=
  fine_keep f (fun a ha => tyAt_set hj a (h.elim (fun h => .inl (fun e => h (e ▸ ha))) .inr) (f.back a ha).1)
theorem lastTy_set {l : List St} {j : Nat} {t : St} (hj : j < l.length) (h : j + 1 < l.length ∨ t.ty = tyAt l (j : Int)) : lastTy (l.set j t) = lastTy l := by
  unfold lastTy
  rw [List.length_set]
  exact tyAt_set hj _ (h.elim (fun h => .inl (by omega)) .inr) (by omega)
theorem kept_set {l : List St} {j : Nat} {t : St} (hj : j < l.length) (h : Fit l) (ht : ∃ o, Fine l j t o) (hty : t.ty = tyAt l (j : Int)) : Kept57 l (l.set j t) := by
  refine ⟨fun q s hs => ?_, by rw [List.length_set]; omega, by rw [List.length_set]; exact Nat.le_refl _, lastTy_set hj (.inr hty)⟩
  by_cases e : q = j
  · subst e
    rw [List.getElem?_set_self hj] at hs
    injection hs with hs
    subst hs
    obtain ⟨o, f⟩ := ht
    exact ⟨o, fine_set hj f (.inr hty)⟩
  · rw [List.getElem?_set_ne (fun h => e h.symm)] at hs
    obtain ⟨o, f⟩ := h q s hs
    exact ⟨o, fine_set hj f (.inr hty)⟩
-- the uses
def cnt (j : Int) (args : List Int) : Int := ((args.filter fun a => a == j).length : Int)
theorem cnt_nonneg (j : Int) (args : List Int) : 0 ≤ cnt j args := by unfold cnt; omega
theorem cnt_pos {j : Int} {args : List Int} : j ∈ args ↔ 1 ≤ cnt j args := by
  unfold cnt
  constructor
  · intro h
    have : j ∈ args.filter fun a => a == j := List.mem_filter.2 ⟨h, by simp⟩
    have := List.length_pos_of_mem this
    omega
  · intro h
    obtain ⟨x, hx⟩ := List.exists_mem_of_length_pos (l := args.filter fun a => a == j) (by omega)
    have := List.mem_filter.1 hx
    have e : x = j := by simpa using this.2
    exact e ▸ this.1
theorem bump_at {z : List Int} {a : Int} {j : Nat} (ha : 0 ≤ a) (haz : a < z.length) : (bump z a).getD j 0 = z.getD j 0 + cnt (j : Int) [a] := by
  unfold bump cnt
  rw [List.getD_eq_getElem?_getD, List.getD_eq_getElem?_getD]
  by_cases e : a = (j : Int)
  · subst e
    rw [Int.toNat_natCast, List.getElem?_set_self (by omega)]
    simp
  · have h2 : (a == (j : Int)) = false := beq_eq_false_iff_ne.2 e
    rw [List.getElem?_set_ne (by omega)]
    simp [h2]
theorem bumps_at {n : Nat} {j : Nat} : ∀ (args z : List Int), z.length = n → (∀ a ∈ args, 0 ≤ a ∧ a < (n : Int)) → (bumps z args).getD j 0 = z.getD j 0 + cnt (j : Int) args
  | [], z, _, _ => by unfold bumps cnt; simp
  | a :: args, z, hz, h => by
    have h0 := h a (List.mem_cons_self ..)
    have ih := bumps_at (j := j) args (bump z a) ((bump_len z a).trans hz) (fun b hb => h b (List.mem_cons_of_mem _ hb))
    have e : bumps z (a :: args) = bumps (bump z a) args := rfl
    rw [e, ih, bump_at h0.1 (by omega)]
    have : cnt (j : Int) (a :: args) = cnt (j : Int) [a] + cnt (j : Int) args := by
      unfold cnt
      rw [show a :: args = [a] ++ args from rfl, List.filter_append, List.length_append]
      omega
    omega
theorem uses_at {l : List St} (h : ∀ s ∈ l, ∀ a ∈ s.args, 0 ≤ a ∧ a < (l.length : Int)) (j : Nat) : (usesR l).getD j 0 = (l.map fun s => cnt (j : Int) s.args).sum := by
  have hg : ∀ (t : List St) (z : List Int), z.length = l.length → (∀ s ∈ t, ∀ a ∈ s.args, 0 ≤ a ∧ a < (l.length : Int)) → (t.foldl (fun z s => bumps z s.args) z).getD j 0 = z.getD j 0 + (t.map fun s => cnt (j : Int) s.args).sum := by
    intro t
    induction t with
    | nil => intro z _ _; simp
    | cons s t ih =>
      intro z hz ht
      rw [List.foldl_cons, ih (bumps z s.args) ((bumps_len _ _).trans hz) (fun s' hs' => ht s' (List.mem_cons_of_mem _ hs')), bumps_at s.args z hz (ht s (List.mem_cons_self ..)), List.map_cons, List.sum_cons]
      omega
  unfold usesR usesK
  rw [List.take_length, hg l _ (by simp) h]
  simp [List.getD_eq_getElem?_getD, List.getElem?_replicate]
  split <;> simp
theorem sum_nonneg {α : Type} (f : α → Int) : ∀ (l : List α), (∀ x ∈ l, 0 ≤ f x) → 0 ≤ (l.map f).sum
  | [], _ => by simp
  | x :: l, h => by
    rw [List.map_cons, List.sum_cons]
    have := h x (List.mem_cons_self ..)
    have := sum_nonneg f l (fun y hy => h y (List.mem_cons_of_mem _ hy))
    omega
theorem sum_split {α : Type} (f : α → Int) {l : List α} {i : Nat} {x : α} (h : l[i]? = some x) : (l.map f).sum = ((l.take i).map f).sum + f x + ((l.drop (i + 1)).map f).sum := by
  have hi := (List.getElem?_eq_some_iff.1 h)
  conv => lhs; rw [← List.take_append_drop i l]
  rw [List.drop_eq_getElem_cons hi.1, List.map_append, List.sum_append, List.map_cons, List.sum_cons, hi.2]
  omega
section
variable {l : List St} (hb : ∀ s ∈ l, ∀ a ∈ s.args, 0 ≤ a ∧ a < (l.length : Int))
include hb
theorem unused_no {j : Nat} (h : ¬ 0 < (usesR l).getD j 0) {q : Nat} {s : St} (hs : l[q]? = some s) : (j : Int) ∉ s.args := fun hm => by
  rw [uses_at hb, sum_split _ hs] at h
  have h1 := cnt_pos.1 hm
  have h2 := sum_nonneg (fun s : St => cnt (j : Int) s.args) (l.take q) (fun x _ => cnt_nonneg _ _)
  have h3 := sum_nonneg (fun s : St => cnt (j : Int) s.args) (l.drop (q + 1)) (fun x _ => cnt_nonneg _ _)
  omega
theorem once_no {i j : Nat} {s : St} (h : (usesR l).getD j 0 = 1) (hs : l[i]? = some s) (hj : (j : Int) ∈ s.args) {q : Nat} {t : St} (hq : q ≠ i) (ht : l[q]? = some t) : (j : Int) ∉ t.args := fun hm => by
  rw [uses_at hb, sum_split _ hs] at h
  have h1 := cnt_pos.1 hj
  have h4 := cnt_pos.1 hm
  have hn := sum_nonneg (fun s : St => cnt (j : Int) s.args)
  have h2 := hn (l.take i) (fun x _ => cnt_nonneg _ _)
  have h3 := hn (l.drop (i + 1)) (fun x _ => cnt_nonneg _ _)
  by_cases hlt : q < i
  · have e : (l.take i)[q]? = some t := by rw [List.getElem?_take, if_pos hlt]; exact ht
    have h5 := sum_split (fun s : St => cnt (j : Int) s.args) e
    have h6 := hn ((l.take i).take q) (fun x _ => cnt_nonneg _ _)
    have h7 := hn ((l.take i).drop (q + 1)) (fun x _ => cnt_nonneg _ _)
    omega
  · have e : (l.drop (i + 1))[q - (i + 1)]? = some t := by rw [List.getElem?_drop, show i + 1 + (q - (i + 1)) = q by omega]; exact ht
    have h5 := sum_split (fun s : St => cnt (j : Int) s.args) e
    have h6 := hn ((l.drop (i + 1)).take (q - (i + 1))) (fun x _ => cnt_nonneg _ _)
    have h7 := hn ((l.drop (i + 1)).drop (q - (i + 1) + 1)) (fun x _ => cnt_nonneg _ _)
    omega
theorem once_one {i j : Nat} {s : St} (h : (usesR l).getD j 0 = 1) (hs : l[i]? = some s) {k m : Nat} (hk : s.args[k]? = some (j : Int)) (hkm : k ≠ m) : s.args[m]? ≠ some (j : Int) := fun hm => by
  rw [uses_at hb, sum_split _ hs] at h
  have hn := sum_nonneg (fun s : St => cnt (j : Int) s.args)
  have h2 := hn (l.take i) (fun x _ => cnt_nonneg _ _)
  have h3 := hn (l.drop (i + 1)) (fun x _ => cnt_nonneg _ _)
  have h4 : cnt (j : Int) s.args ≤ 1 := by omega
  have hsum : ∀ args : List Int, cnt (j : Int) args = (args.map fun a => cnt (j : Int) [a]).sum := by
    intro args
    induction args with
    | nil => rfl
    | cons a args ih =>
      have : cnt (j : Int) (a :: args) = cnt (j : Int) [a] + cnt (j : Int) args := by
        unfold cnt
        rw [show a :: args = [a] ++ args from rfl, List.filter_append, List.length_append]
        omega
      rw [this, ih, List.map_cons, List.sum_cons]
  rw [hsum] at h4
  have h1c : cnt (j : Int) [(j : Int)] = 1 := by unfold cnt; simp
  rw [sum_split (fun a => cnt (j : Int) [a]) hk] at h4
  have hn2 := sum_nonneg (fun a : Int => cnt (j : Int) [a])
  have h5 := hn2 (s.args.take k) (fun x _ => cnt_nonneg _ _)
  have h6 := hn2 (s.args.drop (k + 1)) (fun x _ => cnt_nonneg _ _)
  by_cases hlt : m < k
  · have e : (s.args.take k)[m]? = some (j : Int) := by rw [List.getElem?_take, if_pos hlt]; exact hm
    have h7 := sum_split (fun a => cnt (j : Int) [a]) e
    have h8 := hn2 ((s.args.take k).take m) (fun x _ => cnt_nonneg _ _)
    have h9 := hn2 ((s.args.take k).drop (m + 1)) (fun x _ => cnt_nonneg _ _)
    omega
  · have e : (s.args.drop (k + 1))[m - (k + 1)]? = some (j : Int) := by rw [List.getElem?_drop, show k + 1 + (m - (k + 1)) = m by omega]; exact hm
    have h7 := sum_split (fun a => cnt (j : Int) [a]) e
    have h8 := hn2 ((s.args.drop (k + 1)).take (m - (k + 1))) (fun x _ => cnt_nonneg _ _)
    have h9 := hn2 ((s.args.drop (k + 1)).drop (m - (k + 1) + 1)) (fun x _ => cnt_nonneg _ _)
    omega
end
end Go.Proofs.Ytniefnjcimempaa
namespace Go.Proofs.Ytniefnjcimempaa
open Go.RowKit
structure Done57 (l l' : List St) : Prop where
  check : checkR l' = 0
  cost : costL l' < costL l
  last : lastTy l' = lastTy l
theorem done_of {l l' : List St} (hc : checkR l = 0) (k : Kept57 l l') (h : costL l' < costL l) : Done57 l l' :=
  ⟨check_fit.2 ⟨k.pos, Nat.le_trans k.max (check_fit.1 hc).2.1, k.fit⟩, h, k.last⟩
theorem fine_types {l : List St} {i : Nat} {s : St} {o : OpI} (f : Fine l i s o) (hc : isCmpT s.op = false) : s.args.map (tyAt l) = o.args := by
  have h := f.typed
  unfold typedR at h
  rw [if_neg (by rw [hc]; decide)] at h
  exact of_decide_eq_true h
theorem fine_new {l : List St} {i : Nat} {op : List UInt8} {args : List Int} {num : Int} {text : List UInt8} {ty : Int} {o : OpI} (ho : opR op = some o) (hc : isCmpT op = false) (hb : ∀ a ∈ args, 0 ≤ a ∧ a < (i : Int)) (ht : args.map (tyAt l) = o.args) (hty : ty = o.res) (hn : 0 ≤ num) (hnn : 0 < num → op = nNumber) (htx : text ≠ [] → o.text = true) (hp : o.regex = true → patE text = 0) : Fine l i (Oz.mk op args num text ty) o :=
  ⟨ho, by have := congrArg List.length ht; rw [List.length_map] at this; exact this, hb, hn, hnn, htx, hty, by
    unfold typedR
    show (if isCmpT op = true then _ else decide (args.map (tyAt l) = o.args)) = true
    rw [if_neg (by rw [hc]; decide)]
    exact decide_eq_true ht, hp⟩
theorem at_fine {l : List St} (hc : checkR l = 0) {i : Nat} {s : St} (hs : l[i]? = some s) {o : OpI} (ho : opR s.op = some o) : Fine l i s o := by
  obtain ⟨o', f⟩ := (check_fit.1 hc).2.2 i s hs
  have := f.op
  rw [ho] at this
  injection this with this
  exact this ▸ f
theorem bd57 {l : List St} (hc : checkR l = 0) : ∀ s ∈ l, ∀ a ∈ s.args, 0 ≤ a ∧ a < (l.length : Int) := fun s hs => (ok_bd2 hc s hs).2
theorem rep_done {l l' : List St} (hc : checkR l = 0) {i j : Nat} {s : St} (hs : l[i]? = some s) (hji : j < i) (hty : tyAt l (j : Int) = s.ty) (hr : Oz.replaceR l i j = some l') : Done57 l l' := by
  have hil := (List.getElem?_eq_some_iff.1 hs).1
  obtain ⟨k, hk⟩ := kept_replace hji hil (fun q t _ ht => (check_fit.1 hc).2.2 q t ht) (by rw [hty, tyAt_eq hs]) hr
  have := hk s hs
  have := costR_pos s.op
  exact done_of hc k (by omega)
theorem set_done {l : List St} (hc : checkR l = 0) {i : Nat} {s t : St} (hs : l[i]? = some s) (ht : ∃ o, Fine l i t o) (hty : t.ty = s.ty) (hcost : costR t.op < costR s.op) : Done57 l (l.set i t) := by
  have hil := (List.getElem?_eq_some_iff.1 hs).1
  refine done_of hc (kept_set hil (check_fit.1 hc).2.2 ht (by rw [hty, tyAt_eq hs])) ?_
  rw [cost_set hs]
  omega
theorem ite_some {c : Bool} {x : Option (List St)} {y : List St} (h : (if c then x else none) = some y) : c = true ∧ x = some y := by
  cases c with
  | false => cases h
  | true => exact ⟨rfl, h⟩
theorem ite_some' {c : Prop} [Decidable c] {x : Option (List St)} {y : List St} (h : (if c then x else none) = some y) : c ∧ x = some y := by
  by_cases hc : c
  · rw [if_pos hc] at h; exact ⟨hc, h⟩
  · rw [if_neg hc] at h; cases h
theorem orElse_some {a b : Option (List St)} {y : List St} (h : Oz.orElse a b = some y) : a = some y ∨ b = some y := by
  cases a with
  | none => exact .inr h
  | some x => exact .inl h
section
variable {l l' : List St} (hc : checkR l = 0) {i : Nat} {s : St} (hs : l[i]? = some s)
include hc hs
theorem arg_at {o : OpI} (_f : Fine l i s o) {k : Nat} (hk : k < s.args.length) : ∃ (j : Nat) (t : St), Oz.arg s k = (j : Int) ∧ j < i ∧ l[j]? = some t ∧ Oz.at_ l (j : Int) = t ∧ s.args[k]? = some (j : Int) := by
  obtain ⟨j, t, h1, h2, h3, h4, h5⟩ := ok_at hc hs hk
  exact ⟨j, t, h4, h2, h3, h5, h1⟩
theorem share_done (hr : Oz.shareAt l i = some l') : Done57 l l' := by
  unfold Oz.shareAt at hr
  rw [sameAt_fk, at_get hs] at hr
  cases hf : fk l i (keyOf s) with
  | none => rw [hf] at hr; cases hr
  | some j =>
    rw [hf] at hr
    have hji := fk_lt hf
    have hil := (List.getElem?_eq_some_iff.1 hs).1
    obtain ⟨t, ht⟩ : ∃ t, l[j]? = some t := ⟨_, List.getElem?_eq_getElem (by omega)⟩
    have hk : keyOf (Oz.at_ l j) = keyOf s := by
      unfold fk at hf
      have := List.find?_some hf
      exact of_decide_eq_true this
    rw [at_get ht] at hk
    have hop : t.op = s.op := congrArg KeyS.op hk
    obtain ⟨o, f⟩ := (check_fit.1 hc).2.2 i s hs
    have ft := at_fine hc ht (by rw [hop]; exact f.op)
    exact rep_done hc hs hji (by rw [tyAt_eq ht, ft.ty, f.ty]) hr
theorem number_done {n : Int} (hn : 0 ≤ n) (hty : s.ty = 1) (hcost : 1 < costR s.op) : Done57 l (l.set i (Oz.mk nNumber [] n [] 1)) :=
  set_done hc hs ⟨⟨[], 1, false, false⟩, fine_new (by show (_ : Option OpI) = _; kernel_rfl) (by decide) (fun a ha => by cases ha) rfl rfl hn (fun _ => rfl) (fun h => absurd rfl h) (fun h => by cases h)⟩ hty.symm (by
    show costR nNumber < costR s.op
    have : costR nNumber = 1 := by show (_ : Int) = _; kernel_rfl
    omega)
theorem arith_done (op : List UInt8) (hop : s.op = op) (ho : opR op = some ⟨[1, 1], 1, false, false⟩) (hcost : costR op = 2) (hcmp : ∀ a b n : Int, 0 ≤ a → 0 ≤ b → Oz.computeR op a b = some n → 0 ≤ n) (hr : (match Oz.numR l (Oz.arg s 0), Oz.numR l (Oz.arg s 1) with
    | some a, some b => (Oz.computeR op a b).map fun n => l.set i (Oz.mk nNumber [] n [] 1)
    | _, _ => none) = some l') : Done57 l l' := by
  have f := at_fine hc hs (o := ⟨[1, 1], 1, false, false⟩) (by rw [hop]; exact ho)
  have hl : s.args.length = 2 := f.len
  obtain ⟨j0, t0, e0, _, ht0, a0, _⟩ := arg_at hc hs f (k := 0) (by omega)
  obtain ⟨j1, t1, e1, _, ht1, a1, _⟩ := arg_at hc hs f (k := 1) (by omega)
  obtain ⟨o0, f0⟩ := (check_fit.1 hc).2.2 j0 t0 ht0
  obtain ⟨o1, f1⟩ := (check_fit.1 hc).2.2 j1 t1 ht1
  rw [e0, e1] at hr
  unfold Oz.numR at hr
  rw [a0, a1] at hr
  by_cases h0 : t0.op = nNumber ∧ t0.num ≤ Oz.maxLn
  · rw [if_pos h0] at hr
    by_cases h1 : t1.op = nNumber ∧ t1.num ≤ Oz.maxLn
    · rw [if_pos h1] at hr
      dsimp only at hr
      cases hcp : Oz.computeR op t0.num t1.num with
      | none => rw [hcp] at hr; cases hr
      | some n =>
        rw [hcp] at hr
        injection hr with hr
        subst hr
        exact number_done hc hs (hcmp _ _ _ f0.num f1.num hcp) f.ty (by rw [hop, hcost]; decide)
    · rw [if_neg h1] at hr; cases hr
  · rw [if_neg h0] at hr; cases hr
theorem fold_done (hr : Oz.foldR l i = some l') : Done57 l l' := by
  unfold Oz.foldR at hr
  rw [at_get hs] at hr
  dsimp only at hr
  by_cases h0 : s.op = Oz.oMin ∨ s.op = Oz.oMax ∨ s.op = Oz.oAdd ∨ s.op = Oz.oSub ∨ s.op = Oz.oMul
  · rw [if_pos h0] at hr
    rcases h0 with h | h | h | h | h <;> rw [h] at hr
    · exact arith_done hc hs Oz.oMin h (by show (_ : Option OpI) = _; kernel_rfl) (by show (_ : Int) = _; kernel_rfl) (fun a b n ha hb hcp => by
        unfold Oz.computeR at hcp
        rw [if_pos rfl] at hcp
        injection hcp with hcp
        omega) hr
    · exact arith_done hc hs Oz.oMax h (by show (_ : Option OpI) = _; kernel_rfl) (by show (_ : Int) = _; kernel_rfl) (fun a b n ha hb hcp => by
        unfold Oz.computeR at hcp
        rw [if_neg (by decide), if_pos rfl] at hcp
        injection hcp with hcp
        omega) hr
    · exact arith_done hc hs Oz.oAdd h (by show (_ : Option OpI) = _; kernel_rfl) (by show (_ : Int) = _; kernel_rfl) (fun a b n ha hb hcp => by
        unfold Oz.computeR at hcp
        rw [if_neg (by decide), if_neg (by decide), if_pos rfl] at hcp
        split at hcp
        · injection hcp with hcp; omega
        · cases hcp) hr
    · exact arith_done hc hs Oz.oSub h (by show (_ : Option OpI) = _; kernel_rfl) (by show (_ : Int) = _; kernel_rfl) (fun a b n ha hb hcp => by
        unfold Oz.computeR at hcp
        rw [if_neg (by decide), if_neg (by decide), if_neg (by decide), if_pos rfl] at hcp
        split at hcp
        · rename_i hcd
          simp only [Bool.and_eq_true, decide_eq_true_eq] at hcd
          injection hcp with hcp; omega
        · cases hcp) hr
    · exact arith_done hc hs Oz.oMul h (by show (_ : Option OpI) = _; kernel_rfl) (by show (_ : Int) = _; kernel_rfl) (fun a b n ha hb hcp => by
        unfold Oz.computeR at hcp
        rw [if_neg (by decide), if_neg (by decide), if_neg (by decide), if_neg (by decide), if_pos rfl] at hcp
        split at hcp
        · injection hcp with hcp; rw [← hcp]; exact Int.mul_nonneg ha hb
        · cases hcp) hr
  rw [if_neg h0] at hr
  by_cases h1 : s.op = Oz.oLen
  · rw [if_pos h1] at hr
    obtain ⟨_, hr⟩ := ite_some hr
    injection hr with hr
    subst hr
    have f := at_fine hc hs (o := ⟨[3], 1, false, false⟩) (by rw [h1]; show (_ : Option OpI) = _; kernel_rfl)
    exact number_done hc hs (by omega) f.ty (by rw [h1]; have : costR Oz.oLen = 2 := (by show (_ : Int) = _; kernel_rfl); omega)
  rw [if_neg h1] at hr
  by_cases h2 : s.op = Oz.oLines
  · rw [if_pos h2] at hr
    obtain ⟨_, hr⟩ := ite_some hr
    injection hr with hr
    subst hr
    have f := at_fine hc hs (o := ⟨[3], 1, false, false⟩) (by rw [h2]; show (_ : Option OpI) = _; kernel_rfl)
    exact number_done hc hs (by omega) f.ty (by rw [h2]; have : costR Oz.oLines = 2 := (by show (_ : Int) = _; kernel_rfl); omega)
  rw [if_neg h2] at hr
  by_cases h3 : s.op = Oz.oCat
  · rw [if_pos h3] at hr
    obtain ⟨_, hr⟩ := ite_some hr
    injection hr with hr
    subst hr
    have f := at_fine hc hs (o := ⟨[3, 3], 3, false, false⟩) (by rw [h3]; show (_ : Option OpI) = _; kernel_rfl)
    refine set_done hc hs ⟨⟨[], 3, true, false⟩, fine_new (by show (_ : Option OpI) = _; kernel_rfl) (by decide) (fun a ha => by cases ha) rfl rfl (Int.le_refl 0) (fun h => by omega) (fun _ => rfl) (fun h => by cases h)⟩ f.ty.symm ?_
    show costR nString < costR s.op
    rw [h3]
    have h4 : costR nString = 1 := by show (_ : Int) = _; kernel_rfl
    have h5 : costR Oz.oCat = 8 := by show (_ : Int) = _; kernel_rfl
    omega
  rw [if_neg h3] at hr
  cases hr
theorem by_done {op : List UInt8} {o : OpI} (hop : s.op = op) (ho : opR op = some o) (hcm : isCmpT op = false) (k : Nat) (hk : o.args[k]? = some o.res) (hr : Oz.replaceR l i (Oz.arg s k).toNat = some l') : Done57 l l' := by
  have f := at_fine hc hs (by rw [hop]; exact ho)
  have hkl := (List.getElem?_eq_some_iff.1 hk).1
  obtain ⟨j, t, e, hji, ht, _, ha⟩ := arg_at hc hs f (k := k) (by rw [f.len]; exact hkl)
  rw [e, Int.toNat_natCast] at hr
  have hty := fine_types f (by rw [hop]; exact hcm)
  have h1 : (s.args.map (tyAt l))[k]? = some (tyAt l (j : Int)) := by rw [List.getElem?_map, ha]; rfl
  rw [hty, hk] at h1
  injection h1 with h1
  exact rep_done hc hs hji (by rw [← h1, f.ty]) hr
theorem neutral_done (hr : Oz.neutralR l i = some l') : Done57 l l' := by
  unfold Oz.neutralR at hr
  rw [at_get hs] at hr
  dsimp only at hr
  by_cases h0 : s.op = Oz.oAdd
  · rw [if_pos h0] at hr
    rcases orElse_some hr with hr | hr
    · exact by_done hc hs h0 (o := ⟨[1, 1], 1, false, false⟩) (by show (_ : Option OpI) = _; kernel_rfl) (by decide) 0 rfl (ite_some hr).2
    · exact by_done hc hs h0 (o := ⟨[1, 1], 1, false, false⟩) (by show (_ : Option OpI) = _; kernel_rfl) (by decide) 1 rfl (ite_some hr).2
  rw [if_neg h0] at hr
  by_cases h1 : s.op = Oz.oSub
  · rw [if_pos h1] at hr
    exact by_done hc hs h1 (o := ⟨[1, 1], 1, false, false⟩) (by show (_ : Option OpI) = _; kernel_rfl) (by decide) 0 rfl (ite_some hr).2
  rw [if_neg h1] at hr
  by_cases h2 : s.op = Oz.oMul
  · rw [if_pos h2] at hr
    rcases orElse_some hr with hr | hr
    · exact by_done hc hs h2 (o := ⟨[1, 1], 1, false, false⟩) (by show (_ : Option OpI) = _; kernel_rfl) (by decide) 0 rfl (ite_some hr).2
    · exact by_done hc hs h2 (o := ⟨[1, 1], 1, false, false⟩) (by show (_ : Option OpI) = _; kernel_rfl) (by decide) 1 rfl (ite_some hr).2
  rw [if_neg h2] at hr
  by_cases h3 : s.op = Oz.oMin ∨ s.op = Oz.oMax ∨ s.op = Oz.oAnd ∨ s.op = Oz.oOr ∨ s.op = Oz.oUnion ∨ s.op = Oz.oWithin
  · rw [if_pos h3] at hr
    have hr := (ite_some' hr).2
    rcases h3 with h | h | h | h | h | h
    · exact by_done hc hs h (o := ⟨[1, 1], 1, false, false⟩) (by show (_ : Option OpI) = _; kernel_rfl) (by decide) 0 rfl hr
    · exact by_done hc hs h (o := ⟨[1, 1], 1, false, false⟩) (by show (_ : Option OpI) = _; kernel_rfl) (by decide) 0 rfl hr
    · exact by_done hc hs h (o := ⟨[2, 2], 2, false, false⟩) (by show (_ : Option OpI) = _; kernel_rfl) (by decide) 0 rfl hr
    · exact by_done hc hs h (o := ⟨[2, 2], 2, false, false⟩) (by show (_ : Option OpI) = _; kernel_rfl) (by decide) 0 rfl hr
    · exact by_done hc hs h (o := ⟨[4, 4], 4, false, false⟩) (by show (_ : Option OpI) = _; kernel_rfl) (by decide) 0 rfl hr
    · exact by_done hc hs h (o := ⟨[4, 4], 4, false, false⟩) (by show (_ : Option OpI) = _; kernel_rfl) (by decide) 0 rfl hr
  rw [if_neg h3] at hr
  by_cases h4 : s.op = Oz.oCat
  · rw [if_pos h4] at hr
    rcases orElse_some hr with hr | hr
    · exact by_done hc hs h4 (o := ⟨[3, 3], 3, false, false⟩) (by show (_ : Option OpI) = _; kernel_rfl) (by decide) 0 rfl (ite_some hr).2
    · exact by_done hc hs h4 (o := ⟨[3, 3], 3, false, false⟩) (by show (_ : Option OpI) = _; kernel_rfl) (by decide) 1 rfl (ite_some hr).2
  rw [if_neg h4] at hr
  by_cases h5 : s.op = Oz.oRep
  · rw [if_pos h5] at hr
    exact by_done hc hs h5 (o := ⟨[3, 1], 3, false, false⟩) (by show (_ : Option OpI) = _; kernel_rfl) (by decide) 0 rfl (ite_some hr).2
  rw [if_neg h5] at hr
  by_cases h6 : s.op = Oz.oCut
  · rw [if_pos h6] at hr
    exact by_done hc hs h6 (o := ⟨[3, 1, 1], 3, false, false⟩) (by show (_ : Option OpI) = _; kernel_rfl) (by decide) 0 rfl (ite_some hr).2
  rw [if_neg h6] at hr
  by_cases h7 : s.op = Oz.oNot
  · rw [if_pos h7] at hr
    obtain ⟨hin, hr⟩ := ite_some' hr
    have f := at_fine hc hs (o := ⟨[2], 2, false, false⟩) (by rw [h7]; show (_ : Option OpI) = _; kernel_rfl)
    have hl : s.args.length = 1 := f.len
    obtain ⟨j, t, e, hji, ht, at0, _⟩ := arg_at hc hs f (k := 0) (by omega)
    rw [e, at0] at hin hr
    have ft := at_fine hc ht (o := ⟨[2], 2, false, false⟩) (by rw [hin]; show (_ : Option OpI) = _; kernel_rfl)
    have hlt : t.args.length = 1 := ft.len
    obtain ⟨m, u, em, hmj, hu, _, ham⟩ := arg_at hc ht ft (k := 0) (by omega)
    rw [em, Int.toNat_natCast] at hr
    have hty := fine_types ft (by rw [hin]; decide)
    have h1 : (t.args.map (tyAt l))[0]? = some (tyAt l (m : Int)) := by rw [List.getElem?_map, ham]; rfl
    rw [hty] at h1
    injection h1 with h1
    exact rep_done hc hs (Nat.lt_trans hmj hji) (by rw [← h1, f.ty]) hr
  rw [if_neg h7] at hr
  cases hr
theorem common_done (hr : Oz.commonR l i = some l') : Done57 l l' := by
  unfold Oz.commonR at hr
  rw [at_get hs] at hr
  dsimp only at hr
  obtain ⟨⟨hop, heq⟩, hr⟩ := ite_some' hr
  injection hr with hr
  subst hr
  have f := at_fine hc hs (o := ⟨[3, 3], 1, false, false⟩) (by rw [hop]; show (_ : Option OpI) = _; kernel_rfl)
  have hl : s.args.length = 2 := f.len
  obtain ⟨j, t, e, hji, ht, _, ha⟩ := arg_at hc hs f (k := 0) (by omega)
  have hty := fine_types f (by rw [hop]; decide)
  have h1 : (s.args.map (tyAt l))[0]? = some (tyAt l (j : Int)) := by rw [List.getElem?_map, ha]; rfl
  rw [hty] at h1
  injection h1 with h1
  refine set_done hc hs ⟨⟨[3], 1, false, false⟩, fine_new (by show (_ : Option OpI) = _; kernel_rfl) (by decide) (fun a ha => ?_) ?_ rfl (Int.le_refl 0) (fun h => by omega) (fun h => absurd rfl h) (fun h => by cases h)⟩ f.ty.symm ?_
  · simp only [List.mem_cons, List.not_mem_nil, or_false] at ha
    rw [ha, e]
    omega
  · rw [e, List.map_cons, List.map_nil, ← h1]
  · show costR Oz.oLen < costR s.op
    rw [hop]
    have h4 : costR Oz.oLen = 2 := by show (_ : Int) = _; kernel_rfl
    have h5 : costR Oz.oCommon = 8 := by show (_ : Int) = _; kernel_rfl
    omega
theorem unused_done (hr : Oz.unusedR l i = some l') : Done57 l l' := by
  unfold Oz.unusedR at hr
  split at hr
  · cases hr
  rename_i hno
  injection hr with hr
  subst hr
  simp only [not_or] at hno
  have hil := (List.getElem?_eq_some_iff.1 hs).1
  refine done_of hc (kept_remove (by omega) (fun q t _ ht => ⟨(check_fit.1 hc).2.2 q t ht, unused_no (bd57 hc) hno.2.1 ht⟩)) ?_
  rw [cost_remove hs]
  have := costR_pos s.op
  omega
end
end Go.Proofs.Ytniefnjcimempaa
namespace Go.Proofs.Ytniefnjcimempaa
open Go.RowKit
theorem Kept57.trans {a b c : List St} (h : Kept57 a b) (k : Kept57 b c) : Kept57 a c := ⟨k.fit, k.pos, Nat.le_trans k.max h.max, k.last.trans h.last⟩
theorem replace_len {l l' : List St} {i j : Nat} (hji : j < i) (hi : i < l.length) (hr : Oz.replaceR l i j = some l') : l'.length + 1 ≤ l.length := by
  unfold Oz.replaceR at hr
  split at hr
  · cases hr
  split at hr
  · injection hr with hr
    subst hr
    rw [List.length_take]
    omega
  · injection hr with hr
    subst hr
    rw [removeR_len (by rw [List.length_append, List.length_take, List.length_map, List.length_drop]; omega), List.length_append, List.length_take, List.length_map, List.length_drop]
    omega
section
variable {l l' : List St} (hc : checkR l = 0) {i j : Nat} {s t : St} (hs : l[i]? = some s) (ht : l[j]? = some t) (hji : j < i) (hj : s.args[0]? = some (j : Int)) (hu : (usesR l).getD j 0 = 1)
include hc hs ht hji hj hu
theorem swap_done {x : St} (hx : ∃ o, Fine l j x o) (hty : x.ty = s.ty) (hcost : costR x.op < costR t.op + costR s.op) (hr : Oz.replaceR (l.set j x) i j = some l') : Done57 l l' := by
  have hil := (List.getElem?_eq_some_iff.1 hs).1
  have hjl := (List.getElem?_eq_some_iff.1 ht).1
  have hML : (l.set j x).length = l.length := List.length_set
  have hMi : (l.set j x)[i]? = some s := by rw [List.getElem?_set_ne (by omega)]; exact hs
  have hMj : (l.set j x)[j]? = some x := List.getElem?_set_self hjl
  have hfit : ∀ (q : Nat) (u : St), q ≠ i → (l.set j x)[q]? = some u → ∃ o, Fine (l.set j x) q u o := fun q u hq hu' => by
    by_cases e : q = j
    · subst e
      rw [hMj] at hu'
      injection hu' with hu'
      subst hu'
      obtain ⟨o, f⟩ := hx
      exact ⟨o, fine_set hjl f (.inl (fun hm => by have := f.back _ hm; omega))⟩
    · rw [List.getElem?_set_ne (fun h => e h.symm)] at hu'
      obtain ⟨o, f⟩ := (check_fit.1 hc).2.2 q u hu'
      exact ⟨o, fine_set hjl f (.inl (once_no (bd57 hc) hu hs (List.mem_of_getElem? hj) hq hu'))⟩
  obtain ⟨k, hk⟩ := kept_replace hji (by rw [hML]; exact hil) hfit (by rw [tyAt_eq hMj, tyAt_eq hMi, hty]) hr
  have h1 := hk s hMi
  rw [cost_set ht] at h1
  exact ⟨check_fit.2 ⟨k.pos, by have := k.max; rw [hML] at this; exact Nat.le_trans this (check_fit.1 hc).2.1, k.fit⟩, by omega, k.last.trans (lastTy_set hjl (.inl (by omega)))⟩
theorem drop_done {x : St} (hx : ∃ o, Fine l i x o) (hty : x.ty = s.ty) (hxj : (j : Int) ∉ x.args) (hcost : costR x.op < costR t.op + costR s.op) : Done57 l (Oz.removeR (l.set i x) j) := by
  have hil := (List.getElem?_eq_some_iff.1 hs).1
  have k1 := kept_set hil (check_fit.1 hc).2.2 hx (by rw [hty, tyAt_eq hs])
  have hMj : (l.set i x)[j]? = some t := by rw [List.getElem?_set_ne (by omega)]; exact ht
  have k2 := kept_remove (l := l.set i x) (i := j) (by rw [List.length_set]; omega) (fun q u hq hu' => ⟨k1.fit q u hu', by
    by_cases e : q = i
    · subst e
      rw [List.getElem?_set_self hil] at hu'
      injection hu' with hu'
      rw [← hu']
      exact hxj
    · rw [List.getElem?_set_ne (fun h => e h.symm)] at hu'
      exact once_no (bd57 hc) hu hs (List.mem_of_getElem? hj) e hu'⟩)
  refine done_of hc (k1.trans k2) ?_
  rw [cost_remove hMj, cost_set hs]
  omega
end
theorem cmp_fine {l : List St} (hc : checkR l = 0) {i j : Nat} {t : St} (ht : l[j]? = some t) (hji : j < i) {op2 : List UInt8} {a b : Int} (hcm : isCmpT t.op = true) (hcm2 : isCmpT op2 = true) (heq : isEqT op2 = isEqT t.op) (ho : opR t.op = some ⟨[1, 1], 2, false, false⟩) (ho2 : opR op2 = some ⟨[1, 1], 2, false, false⟩) (hab : (a = Oz.arg t 0 ∧ b = Oz.arg t 1) ∨ (a = Oz.arg t 1 ∧ b = Oz.arg t 0)) : Fine l i (Oz.mk op2 [a, b] 0 [] 2) ⟨[1, 1], 2, false, false⟩ ∧ (j : Int) ∉ [a, b] := by
  have f := at_fine hc ht ho
  have hl : t.args.length = 2 := f.len
  obtain ⟨p, _, ep, hp, _, _, hap⟩ := arg_at hc ht f (k := 0) (by omega)
  obtain ⟨q, _, eq, hq, _, _, haq⟩ := arg_at hc ht f (k := 1) (by omega)
  have htp := f.typed
  unfold typedR at htp
  rw [if_pos hcm, show t.args.getD 0 0 = Oz.arg t 0 from rfl, show t.args.getD 1 0 = Oz.arg t 1 from rfl] at htp
  have hmem : ∀ x ∈ [a, b], 0 ≤ x ∧ x < (j : Int) := fun x hx => by
    simp only [List.mem_cons, List.not_mem_nil, or_false] at hx
    rcases hab with ⟨h1, h2⟩ | ⟨h1, h2⟩ <;> rcases hx with rfl | rfl <;> omega
  refine ⟨⟨ho2, rfl, fun x hx => by have := hmem x hx; omega, Int.le_refl 0, fun h => by have : (0 : Int) < 0 := h; omega, fun h => absurd rfl h, rfl, ?_, fun h => by cases h⟩, fun hm => by have := hmem _ hm; omega⟩
  unfold typedR
  show (if isCmpT op2 = true then (if tyAt l a ≠ tyAt l b then false else if tyAt l a = 2 then isEqT op2 else decide (tyAt l a = 1 ∨ tyAt l a = 3)) else _) = true
  rw [if_pos hcm2, heq]
  rcases hab with ⟨rfl, rfl⟩ | ⟨rfl, rfl⟩
  · exact htp
  · by_cases hne : tyAt l (Oz.arg t 0) = tyAt l (Oz.arg t 1)
    · rw [hne] at htp ⊢
      exact htp
    · rw [if_pos hne] at htp
      cases htp
section
variable {l l' : List St} (hc : checkR l = 0) {i : Nat} {s : St} (hs : l[i]? = some s)
include hc hs
theorem once_at {op : List UInt8} {j : Nat} {o : OpI} (f : Fine l i s o) (hl : 0 < s.args.length) (h : Oz.onceR l i op = some j) : ∃ t, l[j]? = some t ∧ t.op = op ∧ (usesR l).getD j 0 = 1 ∧ j < i ∧ s.args[0]? = some (j : Int) := by
  obtain ⟨j', t, e, hji, ht, at0, ha⟩ := arg_at hc hs f hl
  unfold Oz.onceR at h
  rw [at_get hs] at h
  dsimp only at h
  rw [e, Int.toNat_natCast, at0] at h
  split at h
  · rename_i hcd
    injection h with h
    subst h
    exact ⟨t, ht, hcd.1, hcd.2, hji, ha⟩
  · cases h
theorem arg_ty {o : OpI} (f : Fine l i s o) (hcm : isCmpT s.op = false) {k : Nat} {a : Int} (ha : s.args[k]? = some a) : o.args[k]? = some (tyAt l a) := by
  have _ := hc
  have _ := hs
  have h := fine_types f hcm
  rw [← h, List.getElem?_map, ha]
  rfl
theorem negate_done (hr : Oz.negateR l i = some l') : Done57 l l' := by
  unfold Oz.negateR at hr
  rw [at_get hs] at hr
  dsimp only at hr
  split at hr
  · cases hr
  rename_i hno
  simp only [not_or, Classical.not_not] at hno
  obtain ⟨hop, hu⟩ := hno
  have f := at_fine hc hs (o := ⟨[2], 2, false, false⟩) (by rw [hop]; show (_ : Option OpI) = _; kernel_rfl)
  obtain ⟨j, t, e, hji, ht, at0, ha⟩ := arg_at hc hs f (k := 0) (by rw [f.len]; decide)
  rw [e, Int.toNat_natCast] at hr hu
  rw [at0] at hr
  have hc2 : costR s.op = 2 := by rw [hop]; show (_ : Int) = _; kernel_rfl
  cases hx : Oz.negR t.op (Oz.arg t 0) (Oz.arg t 1) with
  | none => rw [hx] at hr; cases hr
  | some x =>
    rw [hx] at hr
    injection hr with hr
    subst hr
    unfold Oz.negR at hx
    have hcs : ∀ n : List UInt8, n = Oz.oEq ∨ n = Oz.oNe ∨ n = Oz.oLt ∨ n = Oz.oLe → opR n = some ⟨[1, 1], 2, false, false⟩ ∧ isCmpT n = true ∧ costR n = 2 := fun n hn => by
      rcases hn with rfl | rfl | rfl | rfl <;> exact ⟨by show (_ : Option OpI) = _; kernel_rfl, by decide, by show (_ : Int) = _; kernel_rfl⟩
    have fin : ∀ (op1 op2 : List UInt8) (a b : Int), t.op = op1 → (op1 = Oz.oEq ∨ op1 = Oz.oNe ∨ op1 = Oz.oLt ∨ op1 = Oz.oLe) → (op2 = Oz.oEq ∨ op2 = Oz.oNe ∨ op2 = Oz.oLt ∨ op2 = Oz.oLe) → isEqT op2 = isEqT op1 → ((a = Oz.arg t 0 ∧ b = Oz.arg t 1) ∨ (a = Oz.arg t 1 ∧ b = Oz.arg t 0)) → Done57 l (Oz.removeR (l.set i (Oz.mk op2 [a, b] 0 [] 2)) j) := fun op1 op2 a b h1 h2 h3 h4 h5 => by
      obtain ⟨o1, c1, k1⟩ := hcs op1 h2
      obtain ⟨o2, c2, k2⟩ := hcs op2 h3
      obtain ⟨g1, g2⟩ := cmp_fine hc ht hji (op2 := op2) (by rw [h1]; exact c1) c2 (by rw [h1]; exact h4) (by rw [h1]; exact o1) o2 h5
      refine drop_done hc hs ht hji ha hu ⟨_, g1⟩ f.ty.symm g2 ?_
      show costR op2 < costR t.op + costR s.op
      rw [h1, k1, k2, hc2]
      decide
    by_cases h0 : t.op = Oz.oEq
    · rw [if_pos h0] at hx
      injection hx with hx
      subst hx
      exact fin Oz.oEq Oz.oNe _ _ h0 (by decide) (by decide) (by decide) (.inl ⟨rfl, rfl⟩)
    rw [if_neg h0] at hx
    by_cases h1 : t.op = Oz.oNe
    · rw [if_pos h1] at hx
      injection hx with hx
      subst hx
      exact fin Oz.oNe Oz.oEq _ _ h1 (by decide) (by decide) (by decide) (.inl ⟨rfl, rfl⟩)
    rw [if_neg h1] at hx
    by_cases h2 : t.op = Oz.oLt
    · rw [if_pos h2] at hx
      injection hx with hx
      subst hx
      exact fin Oz.oLt Oz.oLe _ _ h2 (by decide) (by decide) (by decide) (.inr ⟨rfl, rfl⟩)
    rw [if_neg h2] at hx
    by_cases h3 : t.op = Oz.oLe
    · rw [if_pos h3] at hx
      injection hx with hx
      subst hx
      exact fin Oz.oLe Oz.oLt _ _ h3 (by decide) (by decide) (by decide) (.inr ⟨rfl, rfl⟩)
    rw [if_neg h3] at hx
    cases hx
theorem matches_done (hr : Oz.matchesR l i = some l') : Done57 l l' := by
  unfold Oz.matchesR at hr
  rw [at_get hs] at hr
  by_cases hop : s.op = Oz.oSize
  · rw [if_neg (by rw [hop]; decide)] at hr
    have f := at_fine hc hs (o := ⟨[4], 1, false, false⟩) (by rw [hop]; show (_ : Option OpI) = _; kernel_rfl)
    cases ho : Oz.onceR l i Oz.oFind with
    | none => rw [ho] at hr; cases hr
    | some j =>
      rw [ho] at hr
      dsimp only at hr
      obtain ⟨t, ht, htop, hu, hji, ha⟩ := once_at hc hs f (by rw [f.len]; decide) ho
      split at hr
      · cases hr
      rw [at_get ht] at hr
      have ft := at_fine hc ht (o := ⟨[3], 4, true, true⟩) (by rw [htop]; show (_ : Option OpI) = _; kernel_rfl)
      refine swap_done hc hs ht hji ha hu ⟨⟨[3], 1, true, true⟩, fine_new (by show (_ : Option OpI) = _; kernel_rfl) (by decide) ft.back (show t.args.map (tyAt l) = [3] from fine_types ft (by rw [htop]; decide)) rfl (Int.le_refl 0) (fun h => by omega) (fun _ => rfl) (fun _ => ft.pat rfl)⟩ f.ty.symm ?_ hr
      show costR nMatches < costR t.op + costR s.op
      rw [hop, htop]
      have h1 : costR nMatches = 64 := by show (_ : Int) = _; kernel_rfl
      have h2 : costR Oz.oFind = 64 := by show (_ : Int) = _; kernel_rfl
      have h3 : costR Oz.oSize = 2 := by show (_ : Int) = _; kernel_rfl
      omega
  · rw [if_pos hop] at hr
    cases hr
theorem lenCut_done (hr : Oz.lenCutR l i = some l') : Done57 l l' := by
  unfold Oz.lenCutR at hr
  rw [at_get hs] at hr
  by_cases hop : s.op = Oz.oLen
  · rw [if_neg (by rw [hop]; decide)] at hr
    have f := at_fine hc hs (o := ⟨[3], 1, false, false⟩) (by rw [hop]; show (_ : Option OpI) = _; kernel_rfl)
    cases ho : Oz.onceR l i Oz.oCut with
    | none => rw [ho] at hr; cases hr
    | some j =>
      rw [ho] at hr
      dsimp only at hr
      obtain ⟨t, ht, htop, hu, hji, ha⟩ := once_at hc hs f (by rw [f.len]; decide) ho
      split at hr
      · cases hr
      rw [at_get ht] at hr
      have ft := at_fine hc ht (o := ⟨[3, 1, 1], 3, false, false⟩) (by rw [htop]; show (_ : Option OpI) = _; kernel_rfl)
      refine swap_done hc hs ht hji ha hu ⟨⟨[3, 1, 1], 1, false, false⟩, fine_new (by show (_ : Option OpI) = _; kernel_rfl) (by decide) ft.back (show t.args.map (tyAt l) = [3, 1, 1] from fine_types ft (by rw [htop]; decide)) rfl (Int.le_refl 0) (fun h => by omega) (fun h => absurd rfl h) (fun h => by cases h)⟩ f.ty.symm ?_ hr
      show costR nLencut < costR t.op + costR s.op
      rw [hop, htop]
      have h1 : costR nLencut = 8 := by show (_ : Int) = _; kernel_rfl
      have h2 : costR Oz.oCut = 8 := by show (_ : Int) = _; kernel_rfl
      have h3 : costR Oz.oLen = 2 := by show (_ : Int) = _; kernel_rfl
      omega
  · rw [if_pos hop] at hr
    cases hr
theorem firstFind_done (hr : Oz.firstFindR l i = some l') : Done57 l l' := by
  unfold Oz.firstFindR at hr
  rw [at_get hs] at hr
  by_cases hop : s.op = Oz.oFirst
  · rw [if_neg (by rw [hop]; decide)] at hr
    have f := at_fine hc hs (o := ⟨[4, 1], 4, false, false⟩) (by rw [hop]; show (_ : Option OpI) = _; kernel_rfl)
    have hl : s.args.length = 2 := f.len
    cases ho : Oz.onceR l i Oz.oFind with
    | none => rw [ho] at hr; cases hr
    | some j =>
      rw [ho] at hr
      dsimp only at hr
      obtain ⟨t, ht, htop, hu, hji, ha⟩ := once_at hc hs f (by omega) ho
      split at hr
      · cases hr
      rw [at_get ht] at hr
      injection hr with hr
      subst hr
      have ft := at_fine hc ht (o := ⟨[3], 4, true, true⟩) (by rw [htop]; show (_ : Option OpI) = _; kernel_rfl)
      have hlt : t.args.length = 1 := ft.len
      obtain ⟨p, _, ep, hp, _, _, hap⟩ := arg_at hc ht ft (k := 0) (by omega)
      obtain ⟨q, _, eq, hq, _, _, haq⟩ := arg_at hc hs f (k := 1) (by omega)
      have h1 := arg_ty hc ht ft (by rw [htop]; decide) hap
      have h2 := arg_ty hc hs f (by rw [hop]; decide) haq
      injection h1 with h1
      injection h2 with h2
      have hqj : q ≠ j := fun e => once_one (bd57 hc) hu hs ha (m := 1) (by decide) (by rw [haq, e])
      rw [ep, eq]
      refine drop_done hc hs ht hji ha hu (x := Oz.mk nFirstfind [(p : Int), (q : Int)] 0 t.text 4) ⟨⟨[3, 1], 4, true, true⟩, fine_new (by show (_ : Option OpI) = _; kernel_rfl) (by decide) (fun x hx => ?_) ?_ rfl (Int.le_refl 0) (fun h => by omega) (fun _ => rfl) (fun _ => ft.pat rfl)⟩ f.ty.symm (fun hm => ?_) ?_
      · simp only [List.mem_cons, List.not_mem_nil, or_false] at hx
        rcases hx with rfl | rfl <;> omega
      · rw [List.map_cons, List.map_cons, List.map_nil, ← h1, ← h2]
      · have hm : (j : Int) ∈ [(p : Int), (q : Int)] := hm
        simp only [List.mem_cons, List.not_mem_nil, or_false] at hm
        omega
      · show costR nFirstfind < costR t.op + costR s.op
        rw [hop, htop]
        have h1 : costR nFirstfind = 64 := by show (_ : Int) = _; kernel_rfl
        have h2 : costR Oz.oFind = 64 := by show (_ : Int) = _; kernel_rfl
        have h3 : costR Oz.oFirst = 8 := by show (_ : Int) = _; kernel_rfl
        omega
  · rw [if_pos hop] at hr
    cases hr
end
theorem lenOf_fine {l : List St} {i : Nat} {a : Int} (ha : 0 ≤ a ∧ a < (i : Int)) (ht : tyAt l a = 3) : Fine l i (Oz.lenOf a) ⟨[3], 1, false, false⟩ :=
  fine_new (by show (_ : Option OpI) = _; kernel_rfl) (by decide) (fun x hx => by simp only [List.mem_cons, List.not_mem_nil, or_false] at hx; rw [hx]; exact ha) (by rw [List.map_cons, List.map_nil, ht]) rfl (Int.le_refl 0) (fun h => by omega) (fun h => absurd rfl h) (fun h => by cases h)
theorem over_done {L l' : List St} {p m : Nat} {x u t : St} (hF : Fit L) (hpm : p < m) (hm : L[m]? = some u) (ht : L[p]? = some t) (hx : ∃ o, Fine L p x o) (hty : x.ty = u.ty) (hno : ∀ (q : Nat) (y : St), q ≠ m → L[q]? = some y → (p : Int) ∉ y.args) (hr : Oz.replaceR (L.set p x) m p = some l') :
    Kept57 L l' ∧ costL l' ≤ costL L - costR t.op + costR x.op - costR u.op := by
  have hml := (List.getElem?_eq_some_iff.1 hm).1
  have hpl := (List.getElem?_eq_some_iff.1 ht).1
  have hML : (L.set p x).length = L.length := List.length_set
  have hMm : (L.set p x)[m]? = some u := by rw [List.getElem?_set_ne (by omega)]; exact hm
  have hMp : (L.set p x)[p]? = some x := List.getElem?_set_self hpl
  have hfit : ∀ (q : Nat) (y : St), q ≠ m → (L.set p x)[q]? = some y → ∃ o, Fine (L.set p x) q y o := fun q y hq hy => by
    by_cases e : q = p
    · subst e
      rw [hMp] at hy
      injection hy with hy
      subst hy
      obtain ⟨o, f⟩ := hx
      exact ⟨o, fine_set hpl f (.inl (fun hm => by have := f.back _ hm; omega))⟩
    · rw [List.getElem?_set_ne (fun h => e h.symm)] at hy
      obtain ⟨o, f⟩ := hF q y hy
      exact ⟨o, fine_set hpl f (.inl (hno q y hq hy))⟩
  obtain ⟨k, hk⟩ := kept_replace hpm (by rw [hML]; exact hml) hfit (by rw [tyAt_eq hMp, tyAt_eq hMm, hty]) hr
  have h1 := hk u hMm
  rw [cost_set ht] at h1
  exact ⟨⟨k.fit, k.pos, by have := k.max; rw [hML] at this; exact this, k.last.trans (lastTy_set hpl (.inl (by omega)))⟩, by omega⟩
theorem insert_last {l : List St} {j : Nat} (hj : j < l.length) (s : St) : lastTy (Oz.insertR l j s) = lastTy l := by
  obtain ⟨n, hn⟩ : ∃ n, n + 1 = l.length := ⟨l.length - 1, by omega⟩
  rw [lastTy_at (i := n + 1) (by rw [insertR_len]; omega), lastTy_at (i := n) hn, ← tyAt_insert (s := s) (Nat.le_of_lt hj) (a := (n : Int)) (by omega)]
  congr 1
  unfold fIn
  rw [if_pos (by omega)]
  omega
section
variable {l l' : List St} (hc : checkR l = 0) {i : Nat} {s : St} (hs : l[i]? = some s)
include hc hs
theorem lenRep_done (hr : Oz.lenRepR l i = some l') : Done57 l l' := by
  unfold Oz.lenRepR at hr
  rw [at_get hs] at hr
  by_cases hop : s.op = Oz.oLen
  · rw [if_neg (by rw [hop]; decide)] at hr
    have f := at_fine hc hs (o := ⟨[3], 1, false, false⟩) (by rw [hop]; show (_ : Option OpI) = _; kernel_rfl)
    cases ho : Oz.onceR l i Oz.oRep with
    | none => rw [ho] at hr; cases hr
    | some j =>
      rw [ho] at hr
      dsimp only at hr
      obtain ⟨t, ht, htop, hu, hji, ha⟩ := once_at hc hs f (by rw [f.len]; decide) ho
      split at hr
      · cases hr
      rw [at_get ht] at hr
      have hil := (List.getElem?_eq_some_iff.1 hs).1
      have hjl := (List.getElem?_eq_some_iff.1 ht).1
      have ft := at_fine hc ht (o := ⟨[3, 1], 3, false, false⟩) (by rw [htop]; show (_ : Option OpI) = _; kernel_rfl)
      have hlt : t.args.length = 2 := ft.len
      obtain ⟨p, _, ep, hp, _, _, hap⟩ := arg_at hc ht ft (k := 0) (by omega)
      obtain ⟨q, _, eq, hq, _, _, haq⟩ := arg_at hc ht ft (k := 1) (by omega)
      have h1 := arg_ty hc ht ft (by rw [htop]; decide) hap
      have h2 := arg_ty hc ht ft (by rw [htop]; decide) haq
      injection h1 with h1
      injection h2 with h2
      rw [ep, eq] at hr
      obtain ⟨L, hL⟩ : ∃ L, L = Oz.insertR l j (Oz.lenOf (p : Int)) := ⟨_, rfl⟩
      rw [← hL] at hr
      have hLl : L.length = l.length + 1 := by rw [hL, insertR_len]
      have hF : Fit L := by rw [hL]; exact insert_fit (Nat.le_of_lt hjl) (check_fit.1 hc).2.2 ⟨_, lenOf_fine (by omega) h1.symm⟩
      have hg : ∀ q, L[q]? = if q < j then l[q]? else if q = j then some (Oz.lenOf (p : Int)) else (l[q - 1]?).map (Oz.mapA (fIn j)) := fun q => by rw [hL]; exact insertR_get l j _ (Nat.le_of_lt hjl) q
      have hLi : L[i + 1]? = some (Oz.mapA (fIn j) s) := by rw [hg, if_neg (by omega), if_neg (by omega), Nat.add_sub_cancel, hs]; rfl
      have hLj : L[j + 1]? = some (Oz.mapA (fIn j) t) := by rw [hg, if_neg (by omega), if_neg (by omega), Nat.add_sub_cancel, ht]; rfl
      have hLn : tyAt L (j : Int) = 1 := by rw [tyAt_opt, hg, if_neg (by omega), if_pos rfl]; rfl
      have hLq : tyAt L (q : Int) = 1 := by
        have := tyAt_insert (s := Oz.lenOf (p : Int)) (Nat.le_of_lt hjl) (a := (q : Int)) (by omega)
        rw [show fIn j (q : Int) = (q : Int) from if_neg (by omega), ← hL] at this
        rw [this, ← h2]
      obtain ⟨k, hk⟩ := over_done hF (by omega : j + 1 < i + 1) hLi hLj (x := Oz.mk Oz.oMul [(j : Int), (q : Int)] 0 [] 1) ⟨⟨[1, 1], 1, false, false⟩, fine_new (by show (_ : Option OpI) = _; kernel_rfl) (by decide) (fun x hx => by simp only [List.mem_cons, List.not_mem_nil, or_false] at hx; rcases hx with rfl | rfl <;> omega) (by rw [List.map_cons, List.map_cons, List.map_nil, hLn, hLq]) rfl (Int.le_refl 0) (fun h => by omega) (fun h => absurd rfl h) (fun h => by cases h)⟩ f.ty.symm (fun r y hr' hy hm => by
        rw [hg] at hy
        by_cases h3 : r < j
        · rw [if_pos h3] at hy
          obtain ⟨o, fy⟩ := (check_fit.1 hc).2.2 r y hy
          have := fy.back _ hm
          omega
        · rw [if_neg h3] at hy
          by_cases h4 : r = j
          · rw [if_pos h4] at hy
            injection hy with hy
            subst hy
            have hm : ((j + 1 : Nat) : Int) ∈ [(p : Int)] := hm
            simp only [List.mem_cons, List.not_mem_nil, or_false] at hm
            omega
          · rw [if_neg h4] at hy
            cases hy2 : l[r - 1]? with
            | none => rw [hy2] at hy; cases hy
            | some z =>
              rw [hy2, Option.map_some] at hy
              injection hy with hy
              subst hy
              have hm : ((j + 1 : Nat) : Int) ∈ z.args.map (fIn j) := hm
              obtain ⟨a, ha', hfa⟩ := List.mem_map.1 hm
              have : a = (j : Int) := by unfold fIn at hfa; split at hfa <;> omega
              subst this
              exact once_no (bd57 hc) hu hs (List.mem_of_getElem? ha) (by omega) hy2 ha') hr
      have hlen := replace_len (by omega : j + 1 < i + 1) (by rw [List.length_set]; omega) hr
      rw [List.length_set, hLl] at hlen
      have hcost : costL L = costL l + 2 := by rw [hL, cost_insert]; rfl
      have hlast : lastTy L = lastTy l := by rw [hL]; exact insert_last hjl _
      refine ⟨check_fit.2 ⟨k.pos, by have := (check_fit.1 hc).2.1; omega, k.fit⟩, ?_, k.last.trans hlast⟩
      have h5 : costR (Oz.mapA (fIn j) t).op = 8 := by rw [show (Oz.mapA (fIn j) t).op = t.op from rfl, htop]; show (_ : Int) = _; kernel_rfl
      have h6 : costR (Oz.mapA (fIn j) s).op = 2 := by rw [show (Oz.mapA (fIn j) s).op = s.op from rfl, hop]; show (_ : Int) = _; kernel_rfl
      have h7 : costR (Oz.mk Oz.oMul [(j : Int), (q : Int)] 0 [] 1).op = 2 := by show costR Oz.oMul = 2; show (_ : Int) = _; kernel_rfl
      omega
  · rw [if_pos hop] at hr
    cases hr
theorem lenSum_done (hr : Oz.lenSumR l i = some l') : Done57 l l' := by
  unfold Oz.lenSumR at hr
  rw [at_get hs] at hr
  by_cases hop : s.op = Oz.oLen
  · by_cases hbig : 4096 ≤ l.length
    · rw [if_pos (.inr hbig)] at hr
      cases hr
    rw [if_neg (by simp only [not_or]; exact ⟨by rw [hop]; decide, hbig⟩)] at hr
    have f := at_fine hc hs (o := ⟨[3], 1, false, false⟩) (by rw [hop]; show (_ : Option OpI) = _; kernel_rfl)
    cases ho : Oz.onceR l i Oz.oCat with
    | none => rw [ho] at hr; cases hr
    | some j =>
      rw [ho] at hr
      dsimp only at hr
      obtain ⟨t, ht, htop, hu, hji, ha⟩ := once_at hc hs f (by rw [f.len]; decide) ho
      split at hr
      · cases hr
      rw [at_get ht] at hr
      have hil := (List.getElem?_eq_some_iff.1 hs).1
      have hjl := (List.getElem?_eq_some_iff.1 ht).1
      have ft := at_fine hc ht (o := ⟨[3, 3], 3, false, false⟩) (by rw [htop]; show (_ : Option OpI) = _; kernel_rfl)
      have hlt : t.args.length = 2 := ft.len
      obtain ⟨p, _, ep, hp, _, _, hap⟩ := arg_at hc ht ft (k := 0) (by omega)
      obtain ⟨q, _, eq, hq, _, _, haq⟩ := arg_at hc ht ft (k := 1) (by omega)
      have h1 := arg_ty hc ht ft (by rw [htop]; decide) hap
      have h2 := arg_ty hc ht ft (by rw [htop]; decide) haq
      injection h1 with h1
      injection h2 with h2
      rw [ep, eq] at hr
      obtain ⟨L1, hL1⟩ : ∃ L, L = Oz.insertR l j (Oz.lenOf (p : Int)) := ⟨_, rfl⟩
      rw [← hL1] at hr
      have hLl1 : L1.length = l.length + 1 := by rw [hL1, insertR_len]
      have hF1 : Fit L1 := by rw [hL1]; exact insert_fit (Nat.le_of_lt hjl) (check_fit.1 hc).2.2 ⟨_, lenOf_fine (by omega) h1.symm⟩
      have hg1 : ∀ q, L1[q]? = if q < j then l[q]? else if q = j then some (Oz.lenOf (p : Int)) else (l[q - 1]?).map (Oz.mapA (fIn j)) := fun q => by rw [hL1]; exact insertR_get l j _ (Nat.le_of_lt hjl) q
      have hLq : tyAt L1 (q : Int) = 3 := by
        have := tyAt_insert (s := Oz.lenOf (p : Int)) (Nat.le_of_lt hjl) (a := (q : Int)) (by omega)
        rw [show fIn j (q : Int) = (q : Int) from if_neg (by omega), ← hL1] at this
        rw [this, ← h2]
      obtain ⟨L, hL⟩ : ∃ L, L = Oz.insertR L1 (j + 1) (Oz.lenOf (q : Int)) := ⟨_, rfl⟩
      rw [← hL] at hr
      have hLl : L.length = l.length + 2 := by rw [hL, insertR_len, hLl1]
      have hF : Fit L := by rw [hL]; exact insert_fit (by omega) hF1 ⟨_, lenOf_fine (by omega) hLq⟩
      have hg : ∀ r, L[r]? = if r < j + 1 then L1[r]? else if r = j + 1 then some (Oz.lenOf (q : Int)) else (L1[r - 1]?).map (Oz.mapA (fIn (j + 1))) := fun r => by rw [hL]; exact insertR_get L1 (j + 1) _ (by omega) r
      have hLi : L[i + 2]? = some (Oz.mapA (fIn (j + 1)) (Oz.mapA (fIn j) s)) := by rw [hg, if_neg (by omega), if_neg (by omega), show i + 2 - 1 = i + 1 by omega, hg1, if_neg (by omega), if_neg (by omega), Nat.add_sub_cancel, hs]; rfl
      have hLj : L[j + 2]? = some (Oz.mapA (fIn (j + 1)) (Oz.mapA (fIn j) t)) := by rw [hg, if_neg (by omega), if_neg (by omega), show j + 2 - 1 = j + 1 by omega, hg1, if_neg (by omega), if_neg (by omega), Nat.add_sub_cancel, ht]; rfl
      have hLn : tyAt L (j : Int) = 1 := by rw [tyAt_opt, hg, if_pos (by omega), hg1, if_neg (by omega), if_pos rfl]; rfl
      have hLn1 : tyAt L ((j : Int) + 1) = 1 := by rw [show (j : Int) + 1 = ((j + 1 : Nat) : Int) by omega, tyAt_opt, hg, if_neg (by omega), if_pos rfl]; rfl
      obtain ⟨k, hk⟩ := over_done hF (by omega : j + 2 < i + 2) hLi hLj (x := Oz.mk Oz.oAdd [(j : Int), (j : Int) + 1] 0 [] 1) ⟨⟨[1, 1], 1, false, false⟩, fine_new (by show (_ : Option OpI) = _; kernel_rfl) (by decide) (fun x hx => by simp only [List.mem_cons, List.not_mem_nil, or_false] at hx; rcases hx with rfl | rfl <;> omega) (by rw [List.map_cons, List.map_cons, List.map_nil, hLn, hLn1]) rfl (Int.le_refl 0) (fun h => by omega) (fun h => absurd rfl h) (fun h => by cases h)⟩ f.ty.symm (fun r y hr' hy hm => by
        rw [hg] at hy
        by_cases h3 : r < j + 1
        · rw [if_pos h3] at hy
          obtain ⟨o, fy⟩ := hF1 r y hy
          have := fy.back _ hm
          omega
        · rw [if_neg h3] at hy
          by_cases h4 : r = j + 1
          · rw [if_pos h4] at hy
            injection hy with hy
            subst hy
            have hm : ((j + 2 : Nat) : Int) ∈ [(q : Int)] := hm
            simp only [List.mem_cons, List.not_mem_nil, or_false] at hm
            omega
          · rw [if_neg h4, hg1, if_neg (by omega), if_neg (by omega)] at hy
            cases hy2 : l[r - 1 - 1]? with
            | none => rw [hy2] at hy; cases hy
            | some z =>
              rw [hy2, Option.map_some, Option.map_some] at hy
              injection hy with hy
              subst hy
              have hm : ((j + 2 : Nat) : Int) ∈ (z.args.map (fIn j)).map (fIn (j + 1)) := hm
              obtain ⟨b, hb', hfb⟩ := List.mem_map.1 hm
              obtain ⟨a, ha', hfa⟩ := List.mem_map.1 hb'
              have : a = (j : Int) := by unfold fIn at hfa hfb; split at hfa <;> split at hfb <;> omega
              subst this
              exact once_no (bd57 hc) hu hs (List.mem_of_getElem? ha) (by omega) hy2 ha') hr
      have hlen := replace_len (by omega : j + 2 < i + 2) (by rw [List.length_set]; omega) hr
      rw [List.length_set, hLl] at hlen
      have hcost : costL L = costL l + 2 + 2 := by rw [hL, cost_insert, hL1, cost_insert]; rfl
      have hlast : lastTy L = lastTy l := by rw [hL, insert_last (by omega), hL1]; exact insert_last hjl _
      refine ⟨check_fit.2 ⟨k.pos, by omega, k.fit⟩, ?_, k.last.trans hlast⟩
      have h5 : costR (Oz.mapA (fIn (j + 1)) (Oz.mapA (fIn j) t)).op = 8 := by rw [show (Oz.mapA (fIn (j + 1)) (Oz.mapA (fIn j) t)).op = t.op from rfl, htop]; show (_ : Int) = _; kernel_rfl
      have h6 : costR (Oz.mapA (fIn (j + 1)) (Oz.mapA (fIn j) s)).op = 2 := by rw [show (Oz.mapA (fIn (j + 1)) (Oz.mapA (fIn j) s)).op = s.op from rfl, hop]; show (_ : Int) = _; kernel_rfl
      have h7 : costR (Oz.mk Oz.oAdd [(j : Int), (j : Int) + 1] 0 [] 1).op = 2 := by show costR Oz.oAdd = 2; show (_ : Int) = _; kernel_rfl
      omega
  · rw [if_pos (.inl hop)] at hr
    cases hr
end
theorem firstOf_done {f : List St → Nat → Option (List St)} {l l' : List St} (hf : ∀ (i : Nat) (s : St), l[i]? = some s → f l i = some l' → Done57 l l') (h : Oz.firstOf f l = some l') : Done57 l l' := by
  unfold Oz.firstOf at h
  obtain ⟨i, hi, hfi⟩ := List.exists_of_findSome?_eq_some h
  have hil := List.mem_range.1 hi
  exact hf i _ (List.getElem?_eq_getElem hil) hfi
theorem applyR_done {l l' : List St} (hc : checkR l = 0) {k : Nat} (h : Oz.applyR k l = some l') : Done57 l l' := by
  unfold Oz.applyR at h
  cases hk : Oz.rulesR[k]? with
  | none => rw [hk] at h; cases h
  | some f =>
    rw [hk] at h
    have hk11 : k < 11 := (List.getElem?_eq_some_iff.1 hk).1
    have hcs : k = 0 ∨ k = 1 ∨ k = 2 ∨ k = 3 ∨ k = 4 ∨ k = 5 ∨ k = 6 ∨ k = 7 ∨ k = 8 ∨ k = 9 ∨ k = 10 := by omega
    rcases hcs with rfl | rfl | rfl | rfl | rfl | rfl | rfl | rfl | rfl | rfl | rfl <;> (injection hk with hk; subst hk)
    · exact firstOf_done (fun i s hs hr => share_done hc hs hr) h
    · exact firstOf_done (fun i s hs hr => fold_done hc hs hr) h
    · exact firstOf_done (fun i s hs hr => neutral_done hc hs hr) h
    · exact firstOf_done (fun i s hs hr => negate_done hc hs hr) h
    · exact firstOf_done (fun i s hs hr => common_done hc hs hr) h
    · exact firstOf_done (fun i s hs hr => matches_done hc hs hr) h
    · exact firstOf_done (fun i s hs hr => firstFind_done hc hs hr) h
    · exact firstOf_done (fun i s hs hr => lenCut_done hc hs hr) h
    · exact firstOf_done (fun i s hs hr => lenSum_done hc hs hr) h
    · exact firstOf_done (fun i s hs hr => lenRep_done hc hs hr) h
    · exact firstOf_done (fun i s hs hr => unused_done hc hs hr) h
theorem anyR_done {l l' : List St} (hc : checkR l = 0) (h : Oz.anyR l = some l') : Done57 l l' := by
  unfold Oz.anyR at h
  obtain ⟨k, _, hk⟩ := List.exists_of_findSome?_eq_some h
  exact applyR_done hc hk
end Go.Proofs.Ytniefnjcimempaa
