/- Expressions without addresses: what the laws build, and their types. -/
import Derived.Test.YtfdpohceoabinaaTyP
import Derived.Test.YtfdpohceoabinaaTyN
namespace Go.Proofs.Ytfdpohceoabinaa
open Go.RowKit
inductive Tx where
  | node (kind : Int) (text : List UInt8) (num : Int) (args : List Tx)
mutual
/-- An expression without its addresses. -/
def Lx.er : Lx → Tx
  | .node _ k t n l => .node k t n (erL l)
def erL : List Lx → List Tx
  | [] => []
  | x :: l => x.er :: erL l
end
def Tx.kind : Tx → Int | .node k _ _ _ => k
def Tx.text : Tx → List UInt8 | .node _ t _ _ => t
def Tx.num : Tx → Int | .node _ _ n _ => n
def Tx.args : Tx → List Tx | .node _ _ _ l => l
mutual
def Tx.size : Tx → Nat
  | .node _ _ _ l => 1 + sizeTL l
def sizeTL : List Tx → Nat
  | [] => 0
  | x :: l => x.size + sizeTL l
end
mutual
def Tx.all (p : Tx → Bool) : Tx → Bool
  | .node k t n l => p (.node k t n l) && allTL p l
def allTL (p : Tx → Bool) : List Tx → Bool
  | [] => true
  | x :: l => x.all p && allTL p l
end
mutual
/-- The type of an expression. -/
def typT : Tx → Except Value Int
  | .node k t _ l => if k = 1 then .ok 1 else if k = 4 then (match sig t with
      | none => .error errT
      | some (S, r) => if S.length = l.length then typTL t r S l 0 0 else .error errT) else .ok 3
def typTL (t : List UInt8) (r : Int) : List Int → List Tx → Nat → Int → Except Value Int
  | [], _, _, _ => .ok r
  | _ :: _, [], _, _ => .ok r
  | s :: S, y :: l, ck, fs => if s = 0 then (if y.kind = 2 then (if (parseR y.text).isSome = true then typTL t r S l (ck + 1) fs else .error (parseE y.text)) else .error errT)
    else match typT y with
      | .error e => .error e
      | .ok ty => match takeR t s ck fs ty with
        | none => .error errT
        | some f => typTL t r S l (ck + 1) f
end
theorem er_kind (x : Lx) : x.er.kind = x.kind := by cases x; rfl
theorem er_text (x : Lx) : x.er.text = x.text := by cases x; rfl
theorem er_num (x : Lx) : x.er.num = x.num := by cases x; rfl
theorem er_args (x : Lx) : x.er.args = erL x.args := by cases x; rfl
theorem erL_length : ∀ l : List Lx, (erL l).length = l.length
  | [] => rfl
  | x :: l => by rw [erL, List.length_cons, List.length_cons, erL_length l]
theorem erL_append : ∀ l l' : List Lx, erL (l ++ l') = erL l ++ erL l'
  | [], _ => rfl
  | x :: l, l' => by rw [List.cons_append, erL, erL, erL_append l l']; rfl
theorem erL_map : ∀ l : List Lx, erL l = l.map Lx.er
  | [] => rfl
  | x :: l => by rw [erL, erL_map l]; rfl
mutual
theorem typX_er : ∀ x : Lx, typX x = typT x.er
  | .node a k t n l => by
    unfold typX Lx.er typT
    split
    · rfl
    · split
      · cases hs : sig t with
        | none => rfl
        | some q =>
          obtain ⟨S, r⟩ := q
          dsimp only
          rw [erL_length, typL_er]
      · rfl
theorem typL_er (t : List UInt8) (r : Int) : ∀ (S : List Int) (l : List Lx) (ck : Nat) (fs : Int), typL t r S l ck fs = typTL t r S (erL l) ck fs
  | [], [], ck, fs => by unfold typL erL typTL; rfl
  | [], _ :: _, ck, fs => by unfold typL erL typTL; rfl
  | s :: S, [], ck, fs => by unfold typL erL typTL; rfl
  | s :: S, y :: l, ck, fs => by
    unfold typL erL typTL
    rw [er_kind, er_text, ← typX_er y]
    split
    · split
      · split
        · exact typL_er t r S l (ck + 1) fs
        · rfl
      · rfl
    · cases typX y with
      | error e => rfl
      | ok ty =>
        dsimp only
        cases takeR t s ck fs ty with
        | none => rfl
        | some f => exact typL_er t r S l (ck + 1) f
end
mutual
theorem size_er : ∀ x : Lx, x.size = x.er.size
  | .node a k t n l => by unfold Lx.size Lx.er Tx.size; rw [sizeXL_er l]
theorem sizeXL_er : ∀ l : List Lx, sizeXL l = sizeTL (erL l)
  | [] => rfl
  | x :: l => by unfold sizeXL erL sizeTL; rw [size_er x, sizeXL_er l]
end
mutual
theorem all_er (p : Lx → Bool) (q : Tx → Bool) (h : ∀ x, p x = q x.er) : ∀ x : Lx, x.all p = x.er.all q
  | .node a k t n l => by
    unfold Lx.all
    rw [h, allXL_er p q h l]
    rfl
theorem allXL_er (p : Lx → Bool) (q : Tx → Bool) (h : ∀ x, p x = q x.er) : ∀ l : List Lx, allXL p l = allTL q (erL l)
  | [] => rfl
  | x :: l => by unfold allXL erL allTL; rw [all_er p q h x, allXL_er p q h l]
end
/-- What isNode answers. -/
def isNT (x : Tx) : Bool :=
  if x.kind = 1 then decide (0 ≤ x.num) && decide (x.text = []) && decide (x.args.length = 0)
  else if x.kind = 2 ∨ x.kind = 3 then decide (x.num = 0) && decide (x.args.length = 0)
  else if x.kind = 4 then decide (x.num = 0) else false
theorem isN_er (x : Lx) : isN x = isNT x.er := by unfold isN isNT; rw [er_kind, er_text, er_num, er_args, erL_length]
def shortT (m : Nat) (x : Tx) : Bool := decide (x.text.length ≤ m)
theorem short_sub {m : Nat} {r : Lx} (h : r.er.all (shortT m) = true) (x : Lx) (hx : Sub x r) : x.text.length ≤ m := by
  have h1 : r.all (fun x => decide (x.text.length ≤ m)) = true := by
    rw [all_er _ (shortT m) (fun x => by unfold shortT; rw [er_text]) r]
    exact h
  have := ((Lx.all_iff _ _).1 (hx.all h1)).1
  simpa using this
end Go.Proofs.Ytfdpohceoabinaa
