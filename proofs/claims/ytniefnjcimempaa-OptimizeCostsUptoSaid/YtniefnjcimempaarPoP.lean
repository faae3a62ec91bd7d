/- plan.Of in plain Lean: the steps of a tree, and the stack machine that lays them. -/
import Derived.Test.YtniefnjcimempaarRk
namespace Go.Proofs.Ytniefnjcimempaa
open Go.RowKit
def opZ (t : List UInt8) : OpI := (opR t).getD ⟨[], 0, false, false⟩
def opsN (x : Tx) : Nat := if x.kind = 4 then (opZ x.text).args.length else 0
def stepR (x : Tx) (idx : List Int) : St :=
  if x.kind = 1 then ⟨nNumber, [], x.num, [], 1⟩
  else if x.kind = 2 then ⟨nString, [], 0, x.text, 3⟩
  else if x.kind = 3 then ⟨nRef, [], 0, x.text, 3⟩
  else ⟨x.text, idx, 0, if (opZ x.text).regex = true then (x.args.getD (opZ x.text).args.length (.node 0 [] 0 [])).text else [], (opZ x.text).res⟩
mutual
def layT : Nat → Tx → List St
  | n, .node k t m l => (layL n (opsN (.node k t m l)) l).1 ++ [stepR (.node k t m l) (layL n (opsN (.node k t m l)) l).2]
def layL : Nat → Nat → List Tx → List St × List Int
  | _, _, [] => ([], [])
  | n, m, x :: l => if m = 0 then ([], []) else (layT n x ++ (layL (n + (layT n x).length) (m - 1) l).1, (((n + (layT n x).length : Nat) : Int) - 1) :: (layL (n + (layT n x).length) (m - 1) l).2)
end
theorem layL_zero (n : Nat) (l : List Tx) : layL n 0 l = ([], []) := by cases l <;> (unfold layL; simp)
theorem layL_cons (n m : Nat) (x : Tx) (l : List Tx) (hm : 0 < m) : layL n m (x :: l) = (layT n x ++ (layL (n + (layT n x).length) (m - 1) l).1, (((n + (layT n x).length : Nat) : Int) - 1) :: (layL (n + (layT n x).length) (m - 1) l).2) := by
  rw [layL, if_neg (by omega)]
def restT (n : Nat) (x : Tx) (idx : List Int) : List St := (layL n (opsN x - idx.length) (x.args.drop idx.length)).1 ++ [stepR x (idx ++ (layL n (opsN x - idx.length) (x.args.drop idx.length)).2)]
theorem layT_rest (n : Nat) (x : Tx) : layT n x = restT n x [] := by
  obtain ⟨k, t, m, l⟩ := x
  unfold restT
  rw [layT]
  simp [Tx.args]
theorem restT_push (n : Nat) (x : Tx) (idx : List Int) (y : Tx) (h : idx.length < opsN x) (hy : x.args[idx.length]? = some y) :
    restT n x idx = layT n y ++ restT (n + (layT n y).length) x (idx ++ [((n + (layT n y).length : Nat) : Int) - 1]) := by
  have e : x.args.drop idx.length = y :: x.args.drop (idx.length + 1) := by
    obtain ⟨h, h'⟩ := List.getElem?_eq_some_iff.1 hy
    rw [← h']; exact List.drop_eq_getElem_cons h
  unfold restT
  rw [e, layL_cons _ _ _ _ (by omega), List.length_append, List.length_singleton, show opsN x - idx.length - 1 = opsN x - (idx.length + 1) by omega]
  simp [List.append_assoc]
theorem restT_done (n : Nat) (x : Tx) (idx : List Int) (h : opsN x ≤ idx.length) : restT n x idx = [stepR x idx] := by
  unfold restT
  rw [show opsN x - idx.length = 0 by omega, layL_zero]
  simp
def contA : List (Lx × List Int) → List Int → List St → List St
  | [], _, P => P
  | (x, idx) :: st, r, P => contA st [(((P ++ restT P.length x.er (idx ++ r)).length : Nat) : Int) - 1] (P ++ restT P.length x.er (idx ++ r))
theorem contA_push (x : Lx) (idx : List Int) (st : List (Lx × List Int)) (P : List St) (y : Lx) (h : idx.length < opsN x.er) (hy : x.args[idx.length]? = some y) : contA ((x, idx) :: st) [] P = contA ((y, []) :: (x, idx) :: st) [] P := by
  have hy' : x.er.args[idx.length]? = some y.er := by rw [er_args, erL_map, List.getElem?_map, hy]; rfl
  have hr := restT_push P.length x.er idx y.er h hy'
  show contA st _ (P ++ restT P.length x.er (idx ++ [])) = contA st _ ((P ++ restT P.length y.er ([] ++ [])) ++ restT (P ++ restT P.length y.er ([] ++ [])).length x.er (idx ++ [(((P ++ restT P.length y.er ([] ++ [])).length : Nat) : Int) - 1]))
  rw [List.append_nil, List.append_nil, ← layT_rest, hr]
  simp [List.length_append, List.append_assoc]
theorem contA_done (x : Lx) (idx : List Int) (st : List (Lx × List Int)) (P : List St) (h : opsN x.er ≤ idx.length) : contA ((x, idx) :: st) [] P = contA st [(P.length : Int)] (P ++ [stepR x.er idx]) := by
  show contA st _ (P ++ restT P.length x.er (idx ++ [])) = _
  rw [List.append_nil, restT_done _ _ _ h, List.length_append]
  congr 2
  simp
theorem contA_ret (y : Lx) (jdx : List Int) (st : List (Lx × List Int)) (r : Int) (P : List St) : contA ((y, jdx) :: st) [r] P = contA ((y, jdx ++ [r]) :: st) [] P := by
  show contA st _ (P ++ restT P.length y.er (jdx ++ [r])) = contA st _ (P ++ restT P.length y.er ((jdx ++ [r]) ++ []))
  rw [List.append_nil]
def planT (τ : Tx) : List St := layT 0 τ
def muT : List (Lx × List Int) → Nat
  | [] => 0
  | (x, idx) :: st => 2 * sizeXL (x.args.drop (idx.length + 1)) + 1 + muT st
def muV : List (Lx × List Int) → Nat
  | [] => 0
  | (x, idx) :: st => 2 * sizeXL (x.args.drop idx.length) + 1 + muT st
theorem sig_op {t : List UInt8} {q : List Int × Int} (h : sig t = some q) : opR t = some (opS q) := by
  have hn : ∀ n, sig n = none → t ≠ n := fun n hn e => by rw [← e, h] at hn; cases hn
  have h0 := hn nNumber (by show (_ : Option (List Int × Int)) = _; kernel_rfl)
  have h1 := hn nString (by show (_ : Option (List Int × Int)) = _; kernel_rfl)
  have h2 := hn nRef (by show (_ : Option (List Int × Int)) = _; kernel_rfl)
  have h3 := hn nMatches (by show (_ : Option (List Int × Int)) = _; kernel_rfl)
  have h4 := hn nFirstfind (by show (_ : Option (List Int × Int)) = _; kernel_rfl)
  have h5 := hn nLencut (by show (_ : Option (List Int × Int)) = _; kernel_rfl)
  unfold opR
  rw [if_neg h0, if_neg (fun h => h.elim h1 h2), if_neg h3, if_neg h4, if_neg h5, h]
theorem typL_arg (t : List UInt8) (r : Int) : ∀ (S : List Int) (l : List Lx) (ck : Nat) (fs v : Int), typL t r S l ck fs = .ok v → ∀ (j : Nat) (s : Int) (y : Lx), S[j]? = some s → s ≠ 0 → l[j]? = some y → ∃ t', typX y = .ok t'
  | [], _, _, _, _, _, j, s, y, hs, _, _ => by simp at hs
  | _ :: _, [], _, _, _, _, j, s, y, _, _, hy => by simp at hy
  | s0 :: S, y0 :: l, ck, fs, v, h, j, s, y, hs, h0, hy => by
    rw [typL] at h
    cases j with
    | zero =>
      simp only [List.getElem?_cons_zero, Option.some.injEq] at hs hy
      subst hs hy
      rw [if_neg h0] at h
      split at h
      · cases h
      · rename_i t' ht'
        exact ⟨t', ht'⟩
    | succ j =>
      have hs' : S[j]? = some s := by simpa using hs
      have hy' : l[j]? = some y := by simpa using hy
      split at h
      · split at h
        · split at h
          · exact typL_arg t r S l _ _ _ h j s y hs' h0 hy'
          · cases h
        · cases h
      · split at h
        · cases h
        · split at h
          · cases h
          · exact typL_arg t r S l _ _ _ h j s y hs' h0 hy'
theorem sig_lead {t : List UInt8} {S : List Int} {r : Int} (h : sig t = some (S, r)) (j : Nat) (hj : j < (opS (S, r)).args.length) : ∃ s, S[j]? = some s ∧ s ≠ 0 := by
  have hh : ∀ L : List (List UInt8 × List Int × Int), (∀ q ∈ L, ∀ j, j < (opS (q.2.1, q.2.2)).args.length → ∃ s, q.2.1[j]? = some s ∧ s ≠ 0) → sigF t L = some (S, r) → ∀ j, j < (opS (S, r)).args.length → ∃ s, S[j]? = some s ∧ s ≠ 0 := fun L => by
    induction L with
    | nil => intro _ h; cases h
    | cons q L ih =>
      obtain ⟨n, a, b⟩ := q
      intro hq h
      rw [sigF] at h
      split at h
      · injection h with h
        injection h with h1 h2
        subst h1 h2
        exact hq _ (List.mem_cons_self ..)
      · exact ih (fun q hm => hq q (List.mem_cons_of_mem _ hm)) h
  refine hh sigT ?_ h j hj
  have hc : (sigT.all fun q => (List.range (opS (q.2.1, q.2.2)).args.length).all fun j => match q.2.1[j]? with | some s => decide (s ≠ 0) | none => false) = true := by decide +kernel
  intro q hq j hj
  have h1 := List.all_eq_true.1 (List.all_eq_true.1 hc q hq) j (List.mem_range.2 hj)
  split at h1
  · rename_i s hs
    exact ⟨s, hs, of_decide_eq_true h1⟩
  · cases h1
theorem typ_arg {x y : Lx} {t : Int} {j : Nat} (h : typX x = .ok t) (hj : j < opsN x.er) (hy : x.args[j]? = some y) : ∃ t', typX y = .ok t' := by
  unfold opsN at hj
  split at hj
  · rename_i hk
    rw [er_kind] at hk
    rw [er_text] at hj
    obtain ⟨ad, k, tx, n, l⟩ := x
    have hk : k = 4 := hk
    rw [typX, if_neg (by omega), if_pos hk] at h
    split at h
    · cases h
    · rename_i S r hs
      split at h
      · rename_i hl
        have ho : opZ tx = opS (S, r) := by unfold opZ; rw [sig_op hs]; rfl
        obtain ⟨s, h1, h2⟩ := sig_lead hs j (by have : j < (opZ tx).args.length := hj; rwa [ho] at this)
        exact typL_arg _ _ _ _ _ _ _ h j s y h1 h2 hy
      · cases h
  · omega
end Go.Proofs.Ytniefnjcimempaa
