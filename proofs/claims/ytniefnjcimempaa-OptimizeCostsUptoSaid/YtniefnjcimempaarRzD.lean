/- Plain laws: what the document says of a plan's parts: costs, sizes, uses, the text. The rules of optimize as functions on a plan's steps (plain Lean). -/
import Derived.Test.YtniefnjcimempaarCkP
import Derived.Test.YtniefnjcimempaarRx1
namespace Go.Proofs.Ytniefnjcimempaa
open Go.RowKit
def Caps (y z : List Int) : Prop := y.length = z.length ∧ ∀ j : Nat, min (y.getD j 0) 4097 = z.getD j 0 ∧ 0 ≤ y.getD j 0
theorem Caps.sum {y z : List Int} (h : Caps y z) (b : Int) (hb : 0 ≤ b) : ∀ args : List Int, min (b + sumAt y args) 4097 = min (b + sumAt z args) 4097 ∧ 0 ≤ sumAt y args ∧ 0 ≤ sumAt z args
  | [] => by unfold sumAt; simp
  | a :: args => by
    obtain ⟨h1, h2, h3⟩ := h.sum b hb args
    have h4 := h.2 a.toNat
    have e1 : sumAt y (a :: args) = y.getD a.toNat 0 + sumAt y args := by unfold sumAt; rw [List.map_cons, List.sum_cons]
    have e2 : sumAt z (a :: args) = z.getD a.toNat 0 + sumAt z args := by unfold sumAt; rw [List.map_cons, List.sum_cons]
    rw [e1, e2]
    omega
def bump (z : List Int) (a : Int) : List Int := z.set a.toNat (z.getD a.toNat 0 + 1)
def bumps (z : List Int) (args : List Int) : List Int := args.foldl bump z
def usesK (l : List St) (k : Nat) : List Int := (l.take k).foldl (fun z s => bumps z s.args) (List.replicate l.length 0)
def usesR (l : List St) : List Int := usesK l l.length
theorem bump_len (z : List Int) (a : Int) : (bump z a).length = z.length := by unfold bump; simp
theorem bumps_len : ∀ (args z : List Int), (bumps z args).length = z.length
  | [], _ => rfl
  | a :: args, z => by unfold bumps; rw [List.foldl_cons]; exact (bumps_len args _).trans (bump_len z a)
theorem bumps_snoc (z args : List Int) (a : Int) : bumps z (args ++ [a]) = bump (bumps z args) a := by unfold bumps; rw [List.foldl_append]; rfl
theorem usesK_zero (l : List St) : usesK l 0 = List.replicate l.length 0 := by unfold usesK; simp
theorem usesK_succ {l : List St} {k : Nat} {s : St} (h : l[k]? = some s) : usesK l (k + 1) = bumps (usesK l k) s.args := by
  unfold usesK
  rw [List.take_add_one, h, Option.toList_some, List.foldl_append]
  rfl
theorem foldl_len (n : Nat) : ∀ (t : List St) (z : List Int), z.length = n → (t.foldl (fun z s => bumps z s.args) z).length = n
  | [], _, h => h
  | s :: t, z, h => by rw [List.foldl_cons]; exact foldl_len n t _ ((bumps_len _ _).trans h)
theorem usesK_len (l : List St) (k : Nat) : (usesK l k).length = l.length := by unfold usesK; exact foldl_len _ _ _ (by simp)
def Upto (M : Int) (z : List Int) : Prop := ∀ x ∈ z, 0 ≤ x ∧ x ≤ M
theorem Upto.get {M : Int} {z : List Int} (h : Upto M z) (hM : 0 ≤ M) (a : Nat) : 0 ≤ z.getD a 0 ∧ z.getD a 0 ≤ M := by
  rw [List.getD_eq_getElem?_getD]
  cases e : z[a]? with
  | none => simpa using hM
  | some x => exact h x (List.mem_of_getElem? e)
theorem Upto.bump {M : Int} {z : List Int} (h : Upto M z) (hM : 0 ≤ M) (a : Int) : Upto (M + 1) (bump z a) := fun x hx => by
  rcases List.mem_or_eq_of_mem_set hx with hx | rfl
  · have := h x hx; omega
  · have := h.get hM a.toNat; omega
theorem Upto.bumps : ∀ (args : List Int) {M : Int} {z : List Int}, Upto M z → 0 ≤ M → Upto (M + args.length) (bumps z args)
  | [], M, z, h, _ => by simpa [Go.Proofs.Ytniefnjcimempaa.bumps] using h
  | a :: args, M, z, h, hM => by
    have := Upto.bumps args (h.bump hM a) (by omega)
    have e : M + 1 + (args.length : Int) = M + ((a :: args).length : Int) := by simp; omega
    rw [e] at this
    exact this
theorem upto_fold : ∀ (t : List St) (M : Int) (z : List Int), (∀ s ∈ t, s.args.length ≤ 3) → Upto M z → 0 ≤ M → Upto (M + 3 * t.length) (t.foldl (fun z s => Go.Proofs.Ytniefnjcimempaa.bumps z s.args) z)
  | [], M, z, _, h, _ => by simpa using h
  | s :: t, M, z, hs, h, hM => by
    rw [List.foldl_cons]
    have h3 := hs s (List.mem_cons_self ..)
    have h1 : Upto (M + 3) (Go.Proofs.Ytniefnjcimempaa.bumps z s.args) := fun x hx => by have := h.bumps s.args hM x hx; omega
    have := upto_fold t (M + 3) _ (fun s h => hs s (List.mem_cons_of_mem _ h)) h1 (by omega)
    have e : M + 3 + 3 * (t.length : Int) = M + 3 * ((s :: t).length : Int) := by simp; omega
    rw [e] at this
    exact this
theorem usesK_bd {l : List St} (hs : ∀ s ∈ l, s.args.length ≤ 3) (hl : l.length ≤ 100000) (k : Nat) : Upto 300000 (usesK l k) := fun x hx => by
  have h0 : Upto 0 (List.replicate l.length (0 : Int)) := fun x hx => by have := List.eq_of_mem_replicate hx; omega
  have := upto_fold (l.take k) 0 _ (fun s h => hs s (List.mem_of_mem_take h)) h0 (by omega) x hx
  have hlt : (l.take k).length ≤ l.length := by rw [List.length_take]; omega
  omega
def uarr (z : List Int) : Array Value := (z.map (Value.int .i64)).toArray
theorem uarr_get {z : List Int} {a : Nat} (h : a < z.length) : (uarr z)[a]? = some (.int .i64 (z.getD a 0)) := by
  unfold uarr
  rw [List.getElem?_toArray, List.getElem?_map, List.getElem?_eq_getElem h, List.getD_eq_getElem?_getD, List.getElem?_eq_getElem h]
  rfl
theorem uarr_set (z : List Int) (a : Nat) : (uarr z).setIfInBounds a (.int .i64 (z.getD a 0 + 1)) = uarr (bump z (a : Int)) := by
  unfold uarr bump
  rw [List.setIfInBounds_toArray, ← List.map_set, Int.toNat_natCast]
end Go.Proofs.Ytniefnjcimempaa
namespace Go.Proofs.Ytniefnjcimempaa
open Go.RowKit
namespace Oz
def mk (op : List UInt8) (args : List Int) (num : Int) (text : List UInt8) (ty : Int) : St := ⟨op, args, num, text, ty⟩
def none0 : St := ⟨[], [], 0, [], 0⟩
def at_ (l : List St) (a : Int) : St := (l[a.toNat]?).getD none0
def arg (s : St) (k : Nat) : Int := s.args.getD k 0
def oLen : List UInt8 := [108, 101, 110]
def oLines : List UInt8 := [108, 105, 110, 101, 115]
def oSize : List UInt8 := [115, 105, 122, 101]
def oCommon : List UInt8 := [99, 111, 109, 109, 111, 110]
def oMin : List UInt8 := [109, 105, 110]
def oMax : List UInt8 := [109, 97, 120]
def oAdd : List UInt8 := [43]
def oSub : List UInt8 := [45]
def oMul : List UInt8 := [42]
def oEq : List UInt8 := [61, 61]
def oNe : List UInt8 := [33, 61]
def oLt : List UInt8 := [60]
def oLe : List UInt8 := [60, 61]
def oAnd : List UInt8 := [97, 110, 100]
def oOr : List UInt8 := [111, 114]
def oNot : List UInt8 := [110, 111, 116]
def oWithin : List UInt8 := [119, 105, 116, 104, 105, 110]
def oOver : List UInt8 := [111, 118, 101, 114]
def oMinus : List UInt8 := [109, 105, 110, 117, 115]
def oUnion : List UInt8 := [117, 110, 105, 111, 110]
def oCat : List UInt8 := [43, 43]
def oRep : List UInt8 := [114, 101, 112]
def oCut : List UInt8 := [99, 117, 116]
def oFind : List UInt8 := [102, 105, 110, 100]
def oFirst : List UInt8 := [102, 105, 114, 115, 116]
def maxLn : Int := 1152921504606846976
def safeR (s : St) : Bool :=
  if s.op = nNumber then decide (s.num ≤ maxLn)
  else if s.op = nString then decide (s.text.length ≤ 65536)
  else decide (s.op ∈ [oLen, oSize, oCommon, oMin, oMax, oEq, oNe, oLt, oLe, oAnd, oOr, oNot, oWithin, oOver, oMinus])
def safeB (l : List St) (j i : Nat) : Bool := ((l.take i).drop (j + 1)).all safeR
def canR (l : List St) (i j : Nat) : Bool := decide (i + 1 < l.length) || safeB l j i
def mapA (f : Int → Int) (s : St) : St := { s with args := s.args.map f }
def removeR (l : List St) (i : Nat) : List St := l.take i ++ (l.drop (i + 1)).map (mapA fun a => if (i : Int) < a then a - 1 else a)
def replaceR (l : List St) (i j : Nat) : Option (List St) :=
  if canR l i j = false then none
  else if i + 1 = l.length then some (l.take (j + 1))
  else some (removeR (l.take (i + 1) ++ (l.drop (i + 1)).map (mapA fun a => if a = (i : Int) then (j : Int) else a)) i)
def insertR (l : List St) (i : Nat) (s : St) : List St := l.take i ++ s :: (l.drop i).map (mapA fun a => if (i : Int) ≤ a then a + 1 else a)
def onceR (l : List St) (i : Nat) (op : List UInt8) : Option Nat :=
  let j := (arg (at_ l i) 0).toNat
  if (at_ l j).op = op ∧ (usesR l).getD j 0 = 1 then some j else none
def numR (l : List St) (a : Int) : Option Int := if (at_ l a).op = nNumber ∧ (at_ l a).num ≤ maxLn then some (at_ l a).num else none
def isR (l : List St) (a n : Int) : Bool := decide ((at_ l a).op = nNumber ∧ (at_ l a).num = n)
def strR (l : List St) (a : Int) : Bool := decide ((at_ l a).op = nString ∧ (at_ l a).text.length ≤ 65536)
def emptyR (l : List St) (a : Int) : Bool := decide ((at_ l a).op = nString ∧ (at_ l a).text = [])
def valid (n : Int) : Bool := decide (0 ≤ n ∧ n ≤ maxLn)
def computeR (op : List UInt8) (a b : Int) : Option Int :=
  if op = oMin then some (min a b)
  else if op = oMax then some (max a b)
  else if op = oAdd then (if valid a && valid b && decide (a + b ≤ maxLn) then some (a + b) else none)
  else if op = oSub then (if valid a && valid b && decide (b ≤ a) then some (a - b) else none)
  else if op = oMul then (if valid a && valid b && decide (a * b ≤ maxLn) then some (a * b) else none)
  else some 0
def foldR (l : List St) (i : Nat) : Option (List St) :=
  let s := at_ l i
  if s.op = oMin ∨ s.op = oMax ∨ s.op = oAdd ∨ s.op = oSub ∨ s.op = oMul then
    match numR l (arg s 0), numR l (arg s 1) with
    | some a, some b => (computeR s.op a b).map fun n => l.set i (mk nNumber [] n [] 1)
    | _, _ => none
  else if s.op = oLen then (if strR l (arg s 0) then some (l.set i (mk nNumber [] (at_ l (arg s 0)).text.length [] 1)) else none)
  else if s.op = oLines then (if strR l (arg s 0) then some (l.set i (mk nNumber [] (((at_ l (arg s 0)).text.filter fun b => b = 10).length + 1) [] 1)) else none)
  else if s.op = oCat then
    (if strR l (arg s 0) && strR l (arg s 1) && decide ((at_ l (arg s 0)).text.length + (at_ l (arg s 1)).text.length ≤ 65536) then some (l.set i (mk nString [] 0 ((at_ l (arg s 0)).text ++ (at_ l (arg s 1)).text) 3)) else none)
  else none
def orElse (a b : Option (List St)) : Option (List St) := match a with
  | some x => some x
  | none => b
def neutralR (l : List St) (i : Nat) : Option (List St) :=
  let s := at_ l i
  let by0 := replaceR l i (arg s 0).toNat
  let by1 := replaceR l i (arg s 1).toNat
  if s.op = oAdd then orElse (if isR l (arg s 1) 0 then by0 else none) (if isR l (arg s 0) 0 then by1 else none)
  else if s.op = oSub then (if isR l (arg s 1) 0 then by0 else none)
  else if s.op = oMul then orElse (if isR l (arg s 1) 1 then by0 else none) (if isR l (arg s 0) 1 then by1 else none)
  else if s.op = oMin ∨ s.op = oMax ∨ s.op = oAnd ∨ s.op = oOr ∨ s.op = oUnion ∨ s.op = oWithin then (if arg s 0 = arg s 1 then by0 else none)
  else if s.op = oCat then orElse (if emptyR l (arg s 1) then by0 else none) (if emptyR l (arg s 0) then by1 else none)
  else if s.op = oRep then (if isR l (arg s 1) 1 then by0 else none)
  else if s.op = oCut then
    (let last := at_ l (arg s 2)
     if isR l (arg s 1) 0 && (decide (last.op = oLen) && decide (arg last 0 = arg s 0)) then by0 else none)
  else if s.op = oNot then
    (let inner := at_ l (arg s 0)
     if inner.op = oNot then replaceR l i (arg inner 0).toNat else none)
  else none
def negR (op : List UInt8) (a b : Int) : Option St :=
  if op = oEq then some (mk oNe [a, b] 0 [] 2)
  else if op = oNe then some (mk oEq [a, b] 0 [] 2)
  else if op = oLt then some (mk oLe [b, a] 0 [] 2)
  else if op = oLe then some (mk oLt [b, a] 0 [] 2)
  else none
def negateR (l : List St) (i : Nat) : Option (List St) :=
  let s := at_ l i
  let j := (arg s 0).toNat
  if s.op ≠ oNot ∨ (usesR l).getD j 0 ≠ 1 then none
  else (negR (at_ l j).op (arg (at_ l j) 0) (arg (at_ l j) 1)).map fun t => removeR (l.set i t) j
def commonR (l : List St) (i : Nat) : Option (List St) :=
  let s := at_ l i
  if s.op = oCommon ∧ arg s 0 = arg s 1 then some (l.set i (mk oLen [arg s 0] 0 [] 1)) else none
def matchesR (l : List St) (i : Nat) : Option (List St) :=
  if (at_ l i).op ≠ oSize then none
  else match onceR l i oFind with
    | none => none
    | some j => if canR l i j = false then none else replaceR (l.set j (mk nMatches (at_ l j).args 0 (at_ l j).text 1)) i j
def firstFindR (l : List St) (i : Nat) : Option (List St) :=
  if (at_ l i).op ≠ oFirst then none
  else match onceR l i oFind with
    | none => none
    | some j => if safeB l j i = false then none else some (removeR (l.set i (mk nFirstfind [arg (at_ l j) 0, arg (at_ l i) 1] 0 (at_ l j).text 4)) j)
def lenCutR (l : List St) (i : Nat) : Option (List St) :=
  if (at_ l i).op ≠ oLen then none
  else match onceR l i oCut with
    | none => none
    | some j => if canR l i j = false then none else replaceR (l.set j (mk nLencut (at_ l j).args 0 [] 1)) i j
def lenOf (a : Int) : St := mk oLen [a] 0 [] 1
def lenSumR (l : List St) (i : Nat) : Option (List St) :=
  if (at_ l i).op ≠ oLen ∨ 4096 ≤ l.length then none
  else match onceR l i oCat with
    | none => none
    | some j => if canR l i j = false then none
      else
        let a := arg (at_ l j) 0
        let b := arg (at_ l j) 1
        replaceR ((insertR (insertR l j (lenOf a)) (j + 1) (lenOf b)).set (j + 2) (mk oAdd [(j : Int), (j : Int) + 1] 0 [] 1)) (i + 2) (j + 2)
def lenRepR (l : List St) (i : Nat) : Option (List St) :=
  if (at_ l i).op ≠ oLen then none
  else match onceR l i oRep with
    | none => none
    | some j => if (at_ l (arg (at_ l j) 1)).op ≠ nNumber ∨ canR l i j = false then none
      else
        let a := arg (at_ l j) 0
        let t := arg (at_ l j) 1
        replaceR ((insertR l j (lenOf a)).set (j + 1) (mk oMul [(j : Int), t] 0 [] 1)) (i + 1) (j + 1)
def unusedR (l : List St) (i : Nat) : Option (List St) :=
  if i + 1 = l.length ∨ 0 < (usesR l).getD i 0 ∨ safeR (at_ l i) = false then none else some (removeR l i)
def keyR (s : St) : List UInt8 × List UInt8 × List Int × Int := (s.op, s.text, [arg s 0, arg s 1, arg s 2], s.num)
def sameAt (l : List St) (i : Nat) : Option Nat := (List.range i).find? fun j => decide (keyR (at_ l j) = keyR (at_ l i))
def shareAt (l : List St) (i : Nat) : Option (List St) := match sameAt l i with
  | none => none
  | some j => replaceR l i j
def firstOf (f : List St → Nat → Option (List St)) (l : List St) : Option (List St) := (List.range l.length).findSome? (f l)
def rulesR : List (List St → Nat → Option (List St)) := [shareAt, foldR, neutralR, negateR, commonR, matchesR, firstFindR, lenCutR, lenSumR, lenRepR, unusedR]
def applyR (k : Nat) (l : List St) : Option (List St) := match rulesR[k]? with
  | some f => firstOf f l
  | none => none
def anyR (l : List St) : Option (List St) := (List.range 11).findSome? fun k => applyR k l
def ofN : Nat → List St → List St
  | 0, l => l
  | f + 1, l => match anyR l with
    | none => l
    | some l' => ofN f l'
-- the fixed example
end Oz
end Go.Proofs.Ytniefnjcimempaa
