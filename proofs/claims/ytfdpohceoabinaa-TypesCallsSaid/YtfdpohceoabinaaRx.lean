/- Plain words of the regular expressions: the tree, letter sets, the parser. No program in sight. -/
namespace Go.Proofs.Ytfdpohceoabinaa
/-- A set of letters: which numbers are in it. -/
abbrev LS := Nat → Bool
/-- The word i of a set. -/
def wdN (S : LS) (i : Nat) : Nat → Nat
  | 0 => 0
  | n + 1 => wdN S i n + (if S (64 * i + n) then 2 ^ n else 0)
def wd (S : LS) (i : Nat) : Nat := wdN S i 64
/-- A regular expression: its kind, the words of its set, its bounds, its parts. -/
inductive Rx where
  | node (kind : Nat) (w0 w1 w2 w3 : Nat) (lo hi : Int) (parts : List Rx)
def Rx.plain (kind : Nat) (parts : List Rx) : Rx := .node kind 0 0 0 0 0 0 parts
def Rx.set (S : LS) : Rx := .node 2 (wd S 0) (wd S 1) (wd S 2) (wd S 3) 0 0 []
def Rx.rep (lo hi : Int) (r : Rx) : Rx := .node 5 0 0 0 0 lo hi [r]
def Rx.empty : Rx := Rx.plain 1 []
def oneS (b : Nat) : LS := fun n => n == b
def Rx.one (b : UInt8) : Rx := Rx.set (oneS b.toNat)
def notS (S : LS) : LS := fun n => !S n
def orS (S R : LS) : LS := fun n => S n || R n
def spanS (a b : Nat) : LS := fun n => decide (a ≤ n) && decide (n ≤ b)
def noneS : LS := fun _ => false
def dotS : LS := notS (oneS 10)
def Rx.seq : List Rx → Rx
  | [] => Rx.empty
  | [r] => r
  | l => Rx.plain 3 l
def Rx.alt : List Rx → Rx
  | [r] => r
  | l => Rx.plain 4 l
def punct (b : UInt8) : Bool := (33 ≤ b && b ≤ 47) || (58 ≤ b && b ≤ 64) || (91 ≤ b && b ≤ 96) || (123 ≤ b && b ≤ 126)
def specials : List UInt8 := [92, 46, 91, 93, 40, 41, 123, 125, 124, 42, 43, 63]
/-- A hexadecimal digit. -/
def hexd (b : UInt8) : Option Nat :=
  if 48 ≤ b ∧ b ≤ 57 then some (b.toNat - 48) else if 97 ≤ b ∧ b ≤ 102 then some (b.toNat - 87) else if 65 ≤ b ∧ b ≤ 70 then some (b.toNat - 55) else none
def digitP (T : List UInt8) (k : Nat) : Option (Nat × Nat) := match T[k]? with
  | none => none
  | some b => match hexd b with
    | none => none
    | some d => some (d, k + 1)
/-- What follows a backslash. -/
def escP (T : List UInt8) (k : Nat) : Option (UInt8 × Nat) := match T[k]? with
  | none => none
  | some b =>
    if b = 110 then some (10, k + 1)
    else if b = 116 then some (9, k + 1)
    else if b = 114 then some (13, k + 1)
    else if b = 120 then match digitP T (k + 1) with
      | none => none
      | some (h, k1) => match digitP T k1 with
        | none => none
        | some (l, k2) => some (UInt8.ofNat (16 * h + l), k2)
    else if punct b then some (b, k + 1) else none
/-- An element of a class at a place of a text: the letter and the number of its bytes. -/
def elemP (t : List UInt8) : Option (UInt8 × Nat) := match t with
  | [] => none
  | b :: t => if b = 93 ∨ b = 45 then none
    else if b ≠ 92 then some (b, 1)
    else match escP t 0 with
      | none => none
      | some (x, k) => some (x, k + 1)
/-- The inside of a class, from a place on. -/
def lsP : Nat → List UInt8 → LS → Option LS
  | 0, _, _ => none
  | f + 1, t, S => match t with
    | [] => some S
    | _ :: _ => match elemP t with
      | none => none
      | some (lo, u) => match t.drop u with
        | 45 :: t' => match elemP t' with
          | none => none
          | some (hi, u') => if hi < lo then none else lsP f (t'.drop u') (orS S (spanS lo.toNat hi.toNat))
        | t' => lsP f t' (orS S (spanS lo.toNat lo.toNat))
/-- The place behind the closing bracket. -/
def endP (T : List UInt8) : Nat → Nat → Option Nat
  | 0, _ => none
  | f + 1, k => match T[k]? with
    | none => none
    | some b => if b = 93 then some (k + 1) else if b = 92 then (match T[k + 1]? with
        | none => none
        | some _ => endP T f (k + 2))
      else endP T f (k + 1)
def classP (T : List UInt8) (k : Nat) : Option (LS × Nat) :=
  let from_ := if T[k]? = some 94 then k + 1 else k
  match endP T (T.length + 1) from_ with
  | none => none
  | some e => match lsP (e - 1 - from_ + 1) ((T.drop from_).take (e - 1 - from_)) noneS with
    | none => none
    | some S => some (if T[k]? = some 94 then notS S else S, e)
/-- A decimal number: its value and the place behind it, from a place and a value on; none above 64. -/
def numL (T : List UInt8) : Nat → Nat → Nat → Option (Nat × Nat)
  | 0, _, _ => none
  | f + 1, k, n => match T[k]? with
    | none => some (n, k)
    | some b => if 48 ≤ b ∧ b ≤ 57 then (if 64 < n * 10 + (b.toNat - 48) then none else numL T f (k + 1) (n * 10 + (b.toNat - 48))) else some (n, k)
def numP (T : List UInt8) (k : Nat) : Option (Nat × Nat) := match numL T (T.length + 1) k 0 with
  | none => none
  | some (n, e) => if e = k ∨ (T[k]? = some 48 ∧ k + 1 < e) then none else some (n, e)
/-- A counter: nothing is refused; an absent one; its bounds and the place behind it. -/
def cntP (T : List UInt8) (k : Nat) : Option (Option (Int × Int) × Nat) :=
  if T[k]? = some 42 then some (some (0, -1), k + 1)
  else if T[k]? = some 43 then some (some (1, -1), k + 1)
  else if T[k]? = some 63 then some (some (0, 1), k + 1)
  else if T[k]? = some 123 then match numP T (k + 1) with
    | none => none
    | some (lo, k1) =>
      if T[k1]? = some 44 then
        (if k1 + 1 < T.length ∧ T[k1 + 1]? ≠ some 125 then match numP T (k1 + 1) with
          | none => none
          | some (hi, k2) => if T[k2]? = some 125 ∧ lo ≤ hi then some (some ((lo : Int), (hi : Int)), k2 + 1) else none
        else if T[k1 + 1]? = some 125 then some (some ((lo : Int), -1), k1 + 2) else none)
      else if T[k1]? = some 125 then some (some ((lo : Int), (lo : Int)), k1 + 1) else none
  else some (none, k)
/-- A term without its counters; E reads what stands in parentheses. -/
def termP (T : List UInt8) (E : Nat → Option (Rx × Nat)) (k : Nat) : Option (Rx × Nat) := match T[k]? with
  | none => none
  | some b =>
    if b = 92 then match escP T (k + 1) with
      | none => none
      | some (x, k') => some (Rx.one x, k')
    else if b = 46 then some (Rx.set dotS, k + 1)
    else if b = 91 then match classP T (k + 1) with
      | none => none
      | some (S, k') => some (Rx.set S, k')
    else if b = 40 then match E (k + 1) with
      | none => none
      | some (r, k') => if T[k']? = some 41 then some (r, k' + 1) else none
    else if specials.contains b then none
    else some (Rx.one b, k + 1)
/-- The counters behind a term. -/
def cntsP (T : List UInt8) : Nat → Rx → Nat → Option (Rx × Nat)
  | 0, _, _ => none
  | f + 1, r, k => match cntP T k with
    | none => none
    | some (none, k') => some (r, k')
    | some (some (lo, hi), k') => cntsP T f (Rx.rep lo hi r) k'
def stopP (T : List UInt8) (k : Nat) : Bool := decide (T.length ≤ k) || T[k]? == some 124 || T[k]? == some 41
/-- The terms from a place on, behind those that were read. -/
def termsL (T : List UInt8) (E : Nat → Option (Rx × Nat)) : Nat → List Rx → Nat → Option (List Rx × Nat)
  | 0, _, _ => none
  | f + 1, l, k => if stopP T k then some (l, k) else match termP T E k with
    | none => none
    | some (r, k1) => match cntsP T (T.length + 1) r k1 with
      | none => none
      | some (r', k2) => termsL T E f (l ++ [r']) k2
def termsP (T : List UInt8) (E : Nat → Option (Rx × Nat)) (k : Nat) : Option (Rx × Nat) := match termsL T E (T.length + 1) [] k with
  | none => none
  | some (l, k') => some (Rx.seq l, k')
def barsL (T : List UInt8) (E : Nat → Option (Rx × Nat)) : Nat → List Rx → Nat → Option (List Rx × Nat)
  | 0, _, _ => none
  | f + 1, l, k => if T[k]? = some 124 then match termsP T E (k + 1) with
      | none => none
      | some (r, k') => barsL T E f (l ++ [r]) k'
    else some (l, k)
def exprN (T : List UInt8) : Nat → Nat → Option (Rx × Nat)
  | 0, _ => none
  | n + 1, k => match termsP T (exprN T n) k with
    | none => none
    | some (r, k1) => match barsL T (exprN T n) (T.length + 1) [r] k1 with
      | none => none
      | some (l, k2) => some (Rx.alt l, k2)
end Go.Proofs.Ytfdpohceoabinaa
