/- What types.Of computes, in plain Lean: the type of a tree, and what the open calls still ask. -/
import Derived.Test.YtfdpohceoabinaaTakeB
import Derived.Test.YtfdpohceoabinaaSig
namespace Go.Proofs.Ytfdpohceoabinaa
open Go.RowKit
def errT : Value := .iface 33 (.int .i64 12)
mutual
/-- The type of an expression. -/
def typX : Lx → Except Value Int
  | .node _ k t _ l => if k = 1 then .ok 1 else if k = 4 then (match sig t with
      | none => .error errT
      | some (S, r) => if S.length = l.length then typL t r S l 0 0 else .error errT) else .ok 3
/-- What is left of a call: its types S, its arguments, the number of those checked, the first type. -/
def typL (t : List UInt8) (r : Int) : List Int → List Lx → Nat → Int → Except Value Int
  | [], _, _, _ => .ok r
  | _ :: _, [], _, _ => .ok r
  | s :: S, y :: l, ck, fs => if s = 0 then (if y.kind = 2 then (if (parseR y.text).isSome = true then typL t r S l (ck + 1) fs else .error (parseE y.text)) else .error errT)
    else match typX y with
      | .error e => .error e
      | .ok ty => match takeR t s ck fs ty with
        | none => .error errT
        | some f => typL t r S l (ck + 1) f
end
/-- An open call. -/
structure Fr where
  x : Lx
  S : List Int
  r : Int
  ck : Nat
  fs : Int
def Fr.left (fr : Fr) : Except Value Int := typL fr.x.text fr.r (fr.S.drop fr.ck) (fr.x.args.drop fr.ck) fr.ck fr.fs
def Fr.cont (fr : Fr) (t : Int) : Except Value Int := match fr.S[fr.ck]? with
  | none => .error errT
  | some s => match takeR fr.x.text s fr.ck fr.fs t with
    | none => .error errT
    | some f => Fr.left { fr with ck := fr.ck + 1, fs := f }
def thenE (a : Except Value Int) (k : Int → Except Value Int) : Except Value Int := match a with
  | .error e => .error e
  | .ok t => k t
def contS : List Fr → Int → Except Value Int
  | [], t => .ok t
  | fr :: st, t => thenE (fr.cont t) (contS st)
theorem thenE_assoc (a : Except Value Int) (f g : Int → Except Value Int) : thenE (thenE a f) g = thenE a fun t => thenE (f t) g := by cases a <;> rfl
/-- The argument that is asked next. -/
theorem left_ask (fr : Fr) (s : Int) (y : Lx) (hs : fr.S[fr.ck]? = some s) (h0 : s ≠ 0) (hy : fr.x.args[fr.ck]? = some y) : fr.left = thenE (typX y) fr.cont := by
  obtain ⟨x, S, r, ck, fs⟩ := fr
  have e1 : S.drop ck = s :: S.drop (ck + 1) := by
    obtain ⟨h, h'⟩ := List.getElem?_eq_some_iff.1 hs
    rw [← h']; exact List.drop_eq_getElem_cons h
  have e2 : x.args.drop ck = y :: x.args.drop (ck + 1) := by
    obtain ⟨h, h'⟩ := List.getElem?_eq_some_iff.1 hy
    rw [← h']; exact List.drop_eq_getElem_cons h
  unfold Fr.left
  dsimp only
  rw [e1, e2, typL, if_neg h0]
  cases typX y with
  | error e => rfl
  | ok t =>
    unfold thenE Fr.cont
    dsimp only at hs ⊢
    rw [hs]
    rfl
theorem left_done (fr : Fr) (h : fr.S.length ≤ fr.ck) : fr.left = .ok fr.r := by
  unfold Fr.left
  rw [List.drop_eq_nil_iff.2 h, typL]
/-- skip keeps what is left. -/
theorem left_skip (x : Lx) (S : List Int) (r fs : Int) (hl : S.length = x.args.length) : ∀ (f ck : Nat), S.length - ck < f → match skipR S x.args f ck with
    | .ok ck' => Fr.left ⟨x, S, r, ck, fs⟩ = Fr.left ⟨x, S, r, ck', fs⟩ ∧ ck ≤ ck' ∧ S[ck']? ≠ some 0 ∧ (ck ≤ S.length → ck' ≤ S.length)
    | .error e => Fr.left ⟨x, S, r, ck, fs⟩ = .error e := fun f => by
  induction f with
  | zero => intro ck h; omega
  | succ f ih =>
    intro ck h
    rw [skipR]
    by_cases hs : S[ck]? = some 0
    · rw [if_pos hs]
      obtain ⟨hk, hk'⟩ := List.getElem?_eq_some_iff.1 hs
      have hy : x.args[ck]? = some (x.args[ck]'(by omega)) := List.getElem?_eq_getElem _
      generalize x.args[ck]'(by omega) = y at hy
      rw [hy]
      dsimp only
      have e1 : S.drop ck = 0 :: S.drop (ck + 1) := by rw [← hk']; exact List.drop_eq_getElem_cons hk
      have e2 : x.args.drop ck = y :: x.args.drop (ck + 1) := by
        obtain ⟨h, h'⟩ := List.getElem?_eq_some_iff.1 hy
        rw [← h']; exact List.drop_eq_getElem_cons h
      have e3 : Fr.left ⟨x, S, r, ck, fs⟩ = (if y.kind = 2 then (if (parseR y.text).isSome = true then Fr.left ⟨x, S, r, ck + 1, fs⟩ else .error (parseE y.text)) else .error errT) := by
        unfold Fr.left
        dsimp only
        rw [e1, e2, typL, if_pos rfl]
      rw [e3]
      by_cases hk2 : y.kind = 2
      · rw [if_pos hk2, if_pos hk2]
        by_cases hp : (parseR y.text).isSome = true
        · rw [if_pos hp, if_pos hp]
          have hi := ih (ck + 1) (by omega)
          split at hi
          · exact ⟨hi.1, by omega, hi.2.2.1, fun _ => hi.2.2.2 (by omega)⟩
          · exact hi
        · rw [if_neg hp, if_neg hp]
      · rw [if_neg hk2, if_neg hk2]
        rfl
    · rw [if_neg hs]
      exact ⟨rfl, Nat.le_refl _, hs, fun h => h⟩
/-- The types that the table names. -/
theorem sig_pos {l : List UInt8} {S : List Int} {r : Int} (h : sig l = some (S, r)) : 1 ≤ r ∧ r ≤ 4 ∧ 1 ≤ S.length ∧ S.length ≤ 3 := by
  have hh : ∀ L : List (List UInt8 × List Int × Int), (∀ q ∈ L, 1 ≤ q.2.2 ∧ q.2.2 ≤ 4 ∧ 1 ≤ q.2.1.length ∧ q.2.1.length ≤ 3) → sigF l L = some (S, r) → 1 ≤ r ∧ r ≤ 4 ∧ 1 ≤ S.length ∧ S.length ≤ 3 := fun L => by
    induction L with
    | nil => intro _ h; cases h
    | cons q L ih =>
      obtain ⟨n, a, b⟩ := q
      intro hq h
      rw [sigF] at h
      split at h
      · injection h with h
        injection h with h1 h2
        subst h1 h2
        exact hq _ (List.mem_cons_self ..)
      · exact ih (fun q hm => hq q (List.mem_cons_of_mem _ hm)) h
  exact hh sigT (by decide) h
end Go.Proofs.Ytfdpohceoabinaa
