/- The walks of plan.operands and plan.stepOf. The memory of plan.Of: the open visits, and the steps that are laid. Steps in the memory of plan.Of. The walk of steps of the laws on plans: the program's plan of the steps that came in. The rules of optimize as functions on a plan's steps (plain Lean). The walks of plan.Uses of a plan that is right, and of the document's Uses and Cost. The walk of is of the laws on optimize: a plan has exactly the steps that are given (printed by gen_ori.py out of XPpI). -/
import Derived.Test.YtamhdmkolfmmdaaGreatDoorsao
import Derived.Test.YtamhdmkolfmmdaaGreatDoorsar
import Derived.Test.YtamhdmkolfmmdaaGreatDoorsan
import Derived.Test.YtamhdmkolfmmdaaGreatDoorsak
import Derived.Test.YtamhdmkolfmmdaaGreatDoorsam
import Derived.Deep.RegionHeld3
import Derived.Deep.LoopGhost
import Derived.IntWalk
import Derived.Test.YtamhdmkolfmmdaaGreatDoorsap
import Derived.Great.BuildSlice
import Derived.Test.YtamhdmkolfmmdaaGreatDoorsal
import Derived.Lib.ItoaLen
import Derived.Lib.UnsafeStr
import Derived.BigQuiet
import Derived.Laws.Concat
import Derived.Test.YtamhdmkolfmmdaaGreatDoorsaa
import Derived.Lib.QuietBelow
import Derived.Deep.Cut
set_option linter.unusedVariables false
set_option linter.unusedSimpArgs false
namespace Go.Proofs.YtamhdmkolfmmdaaGreatDoor
open Go.RowKit
theorem blk5 {w : World} {g : Nat} {t : TypeId} {a b c d e : Value} (h : Blk w g t #[a, b, c, d, e]) : w.cell? ⟨g, 0, none⟩ = some a ∧ w.cell? ⟨g, 1, none⟩ = some b ∧ w.cell? ⟨g, 2, none⟩ = some c ∧ w.cell? ⟨g, 3, none⟩ = some d ∧ w.cell? ⟨g, 4, none⟩ = some e ∧
  w.frozen? ⟨g, 0, none⟩ = false ∧ w.frozen? ⟨g, 1, none⟩ = false ∧ w.frozen? ⟨g, 2, none⟩ = false ∧ w.frozen? ⟨g, 3, none⟩ = false ∧ w.frozen? ⟨g, 4, none⟩ = false :=
 ⟨h.cell 0, h.cell 1, h.cell 2, h.cell 3, h.cell 4, h.frozen 0, h.frozen 1, h.frozen 2, h.frozen 3, h.frozen 4⟩
theorem kaA {w w' : World} {base e size n : Nat} {v : Value} {xs : List Value} (h : w.ownsRow base e size v n xs) (hk : ∀ g, v.ownBlock = some g → w'.heap[g]? = w.heap[g]?) : w'.ownsRow base e size v n xs := by
 refine ⟨h.1, ?_⟩
 rcases h.2 with h | ⟨g, cap, cur, h1, h2, h3, h4⟩
 ·
  exact .inl h
 ·
  exact .inr ⟨g, cap, cur, h1, h2, (hk g (by rw [h1]; rfl)).trans h3, h4⟩
def stF (w : World) (base : Nat) (D : List (Option Nat)) (i : Nat) : Prop := base ≤ i ∧ i < w.heap.size ∧ some i ∉ D ∧ ∃ cur, Blk w i 3 cur
theorem kfO (w : World) (a b c d e : Value) (t : TypeId) : Reads (w.alloc (.cells #[a, b, c, d, e] t)) (w.heap.size + 1) 5 (some ⟨w.heap.size, 0, none⟩) 1 [a, b, c, d, e] :=
 ⟨rfl, fun _ => ⟨_, rfl, by simp, fun j u hu => kdh w #[a, b, c, d, e] t j u hu⟩⟩
theorem StVs.keep_int {w w' : World} {base : Nat} {D D' : List (Option Nat)} {P : List St} {css : List Value} (h : StVs w (stF w base D) P css) (hk : ∀ i cur, some i ∉ D → Blk w i 3 cur → w'.heap[i]? = w.heap[i]?) (hs : w.heap.size ≤ w'.heap.size)
  (hD : ∀ i, i < w.heap.size → some i ∉ D → some i ∉ D') : StVs w' (stF w' base D') P css :=
 h.keep (fun i hi _ => by obtain ⟨_, _, h3, cur, h4⟩ := hi; exact hk i cur h3 h4) hs (fun i hi hl => by
  obtain ⟨h1, h2, h3, cur, h4⟩ := hi
  exact ⟨h1, by omega, hD i hl h3, cur, (hk i cur h3 h4).trans h4⟩)
def ArgPl (w : World) (A : Option Addr) (l : List St) : Prop := ∀ (i : Nat) (s : St), l[i]? = some s → ∃ b o As c, A = some ⟨b, o, none⟩ ∧ b < w.heap.size ∧ w.cell? ⟨b, o + i * 5, none⟩ = some (.string ⟨s.op.toArray⟩) ∧ w.cell? ⟨b, o + i * 5 + 1, none⟩ = some (.slice As s.args.length c) ∧
 w.cell? ⟨b, o + i * 5 + 2, none⟩ = some (.int .i64 s.num) ∧ w.cell? ⟨b, o + i * 5 + 3, none⟩ = some (.string ⟨s.text.toArray⟩) ∧ w.cell? ⟨b, o + i * 5 + 4, none⟩ = some (.int .i64 s.ty) ∧ Reads w w.heap.size 1 As s.args.length (s.args.map (Value.int .i64))
theorem ArgPl.below {w w' : World} {A : Option Addr} {l : List St} (h : ArgPl w A l) (hb : Below w.heap.size w w') : ArgPl w' A l := fun i s hs => by
 obtain ⟨b, o, As, c, e, hl, c0, c1, c2, c3, c4, hr⟩ := h i s hs
 exact ⟨b, o, As, c, e, Nat.lt_of_lt_of_le hl hb.size, (hb.cell (p := ⟨b, _, none⟩) hl).trans c0, (hb.cell (p := ⟨b, _, none⟩) hl).trans c1, (hb.cell (p := ⟨b, _, none⟩) hl).trans c2, (hb.cell (p := ⟨b, _, none⟩) hl).trans c3, (hb.cell (p := ⟨b, _, none⟩) hl).trans c4, (hr.below hb).more hb.size⟩
def StpEnd (w : World) (l : List St) (e : Ending) (w' : World) : Prop := Below w.heap.size w w' ∧ ∃ A c, e = .returned (.agg #[.slice A l.length c]) ∧ PlAt w' (fun i => w.heap.size ≤ i ∧ i < w'.heap.size) A l
def SpRel (w : World) (l : List St) (f : Nat) (i : Value) (wr : World) : Prop := ∃ (k : Nat) (A : Option Addr) (c : Nat) (css : List Value), i = .int .i64 k ∧ k ≤ l.length ∧ l.length - k < f ∧ Hid (Blk wr (w.heap.size + 1) 26 #[.slice A k c]) ∧ Hid (Blk wr w.heap.size 26 #[.slice none 0 0]) ∧
 Hid (wr.ownsRow (w.heap.size + 1) 77 5 (.slice A k c) k css) ∧ Hid (StVs wr (stF wr (w.heap.size + 1) []) (l.take k) css) ∧ Hid (Below w.heap.size w wr)
theorem klW : (Tryz.prog.info? 77).map (fun i => (i.zero, i.size, i.bytes)) = some (some (.agg #[.string ⟨#[]⟩, .slice none 0 0, .int .i64 0, .string ⟨#[]⟩, .int .i64 0]), 5, 72) := by kernel_rfl
theorem kcK : (Tryz.prog.info? 3).map (fun i => (i.zero, i.size, i.bytes)) = some (some (.int .i64 0), 1, 8) := by kernel_rfl
namespace Oz
def mk (op : List UInt8) (args : List Int) (num : Int) (text : List UInt8) (ty : Int) : St := ⟨op, args, num, text, ty⟩
def none0 : St := ⟨[], [], 0, [], 0⟩
def at_ (l : List St) (a : Int) : St := (l[a.toNat]?).getD none0
def arg (s : St) (k : Nat) : Int := s.args.getD k 0
def oLen : List UInt8 := [108, 101, 110]
def oLines : List UInt8 := [108, 105, 110, 101, 115]
def oSize : List UInt8 := [115, 105, 122, 101]
def oCommon : List UInt8 := [99, 111, 109, 109, 111, 110]
def oMin : List UInt8 := [109, 105, 110]
def oMax : List UInt8 := [109, 97, 120]
def oAdd : List UInt8 := [43]
def oSub : List UInt8 := [45]
def oMul : List UInt8 := [42]
def oEq : List UInt8 := [61, 61]
def oNe : List UInt8 := [33, 61]
def oLt : List UInt8 := [60]
def oLe : List UInt8 := [60, 61]
def oAnd : List UInt8 := [97, 110, 100]
def oOr : List UInt8 := [111, 114]
def oNot : List UInt8 := [110, 111, 116]
def oWithin : List UInt8 := [119, 105, 116, 104, 105, 110]
def oOver : List UInt8 := [111, 118, 101, 114]
def oMinus : List UInt8 := [109, 105, 110, 117, 115]
def oUnion : List UInt8 := [117, 110, 105, 111, 110]
def oCat : List UInt8 := [43, 43]
def oRep : List UInt8 := [114, 101, 112]
def oCut : List UInt8 := [99, 117, 116]
def oFind : List UInt8 := [102, 105, 110, 100]
def oFirst : List UInt8 := [102, 105, 114, 115, 116]
def maxLn : Int := 1152921504606846976
def safeR (s : St) : Bool :=
 if s.op = kab then decide (s.num ≤ maxLn)
 else if s.op = kai then decide (s.text.length ≤ 65536)
 else decide (s.op ∈ [oLen, oSize, oCommon, oMin, oMax, oEq, oNe, oLt, oLe, oAnd, oOr, oNot, oWithin, oOver, oMinus])
def safeB (l : List St) (j i : Nat) : Bool := ((l.take i).drop (j + 1)).all safeR
def canR (l : List St) (i j : Nat) : Bool := decide (i + 1 < l.length) || safeB l j i
def mapA (f : Int → Int) (s : St) : St := { s with args := s.args.map f }
def removeR (l : List St) (i : Nat) : List St := l.take i ++ (l.drop (i + 1)).map (mapA fun a => if (i : Int) < a then a - 1 else a)
def replaceR (l : List St) (i j : Nat) : Option (List St) :=
 if canR l i j = false then none
 else if i + 1 = l.length then some (l.take (j + 1))
 else some (removeR (l.take (i + 1) ++ (l.drop (i + 1)).map (mapA fun a => if a = (i : Int) then (j : Int) else a)) i)
def insertR (l : List St) (i : Nat) (s : St) : List St := l.take i ++ s :: (l.drop i).map (mapA fun a => if (i : Int) ≤ a then a + 1 else a)
def onceR (l : List St) (i : Nat) (op : List UInt8) : Option Nat :=
 let j := (arg (at_ l i) 0).toNat
 if (at_ l j).op = op ∧ (kag l).getD j 0 = 1 then some j else none
def numR (l : List St) (a : Int) : Option Int := if (at_ l a).op = kab ∧ (at_ l a).num ≤ maxLn then some (at_ l a).num else none
def isR (l : List St) (a n : Int) : Bool := decide ((at_ l a).op = kab ∧ (at_ l a).num = n)
def strR (l : List St) (a : Int) : Bool := decide ((at_ l a).op = kai ∧ (at_ l a).text.length ≤ 65536)
def emptyR (l : List St) (a : Int) : Bool := decide ((at_ l a).op = kai ∧ (at_ l a).text = [])
def valid (n : Int) : Bool := decide (0 ≤ n ∧ n ≤ maxLn)
def computeR (op : List UInt8) (a b : Int) : Option Int :=
 if op = oMin then some (min a b)
 else if op = oMax then some (max a b)
 else if op = oAdd then (if valid a && valid b && decide (a + b ≤ maxLn) then some (a + b) else none)
 else if op = oSub then (if valid a && valid b && decide (b ≤ a) then some (a - b) else none)
 else if op = oMul then (if valid a && valid b && decide (a * b ≤ maxLn) then some (a * b) else none)
 else some 0
def foldR (l : List St) (i : Nat) : Option (List St) :=
 let s := at_ l i
 if s.op = oMin ∨ s.op = oMax ∨ s.op = oAdd ∨ s.op = oSub ∨ s.op = oMul then
  match numR l (arg s 0), numR l (arg s 1) with
  | some a, some b => (computeR s.op a b).map fun n => l.set i (mk kab [] n [] 1)
  | _, _ => none
 else if s.op = oLen then (if strR l (arg s 0) then some (l.set i (mk kab [] (at_ l (arg s 0)).text.length [] 1)) else none)
 else if s.op = oLines then (if strR l (arg s 0) then some (l.set i (mk kab [] (((at_ l (arg s 0)).text.filter fun b => b = 10).length + 1) [] 1)) else none)
 else if s.op = oCat then
  (if strR l (arg s 0) && strR l (arg s 1) && decide ((at_ l (arg s 0)).text.length + (at_ l (arg s 1)).text.length ≤ 65536) then some (l.set i (mk kai [] 0 ((at_ l (arg s 0)).text ++ (at_ l (arg s 1)).text) 3)) else none)
 else none
def orElse (a b : Option (List St)) : Option (List St) := match a with
 | some x => some x
 | none => b
def neutralR (l : List St) (i : Nat) : Option (List St) :=
 let s := at_ l i
 let by0 := replaceR l i (arg s 0).toNat
 let by1 := replaceR l i (arg s 1).toNat
 if s.op = oAdd then orElse (if isR l (arg s 1) 0 then by0 else none) (if isR l (arg s 0) 0 then by1 else none)
 else if s.op = oSub then (if isR l (arg s 1) 0 then by0 else none)
 else if s.op = oMul then orElse (if isR l (arg s 1) 1 then by0 else none) (if isR l (arg s 0) 1 then by1 else none)
 else if s.op = oMin ∨ s.op = oMax ∨ s.op = oAnd ∨ s.op = oOr ∨ s.op = oUnion ∨ s.op = oWithin then (if arg s 0 = arg s 1 then by0 else none)
 else if s.op = oCat then orElse (if emptyR l (arg s 1) then by0 else none) (if emptyR l (arg s 0) then by1 else none)
 else if s.op = oRep then (if isR l (arg s 1) 1 then by0 else none)
 else if s.op = oCut then
  (let last := at_ l (arg s 2)
   if isR l (arg s 1) 0 && (decide (last.op = oLen) && decide (arg last 0 = arg s 0)) then by0 else none)
 else if s.op = oNot then
  (let inner := at_ l (arg s 0)
   if inner.op = oNot then replaceR l i (arg inner 0).toNat else none)
 else none
def negR (op : List UInt8) (a b : Int) : Option St :=
 if op = oEq then some (mk oNe [a, b] 0 [] 2)
 else if op = oNe then some (mk oEq [a, b] 0 [] 2)
 else if op = oLt then some (mk oLe [b, a] 0 [] 2)
 else if op = oLe then some (mk oLt [b, a] 0 [] 2)
 else none
def negateR (l : List St) (i : Nat) : Option (List St) :=
 let s := at_ l i
 let j := (arg s 0).toNat
 if s.op ≠ oNot ∨ (kag l).getD j 0 ≠ 1 then none
 else (negR (at_ l j).op (arg (at_ l j) 0) (arg (at_ l j) 1)).map fun t => removeR (l.set i t) j
def commonR (l : List St) (i : Nat) : Option (List St) :=
 let s := at_ l i
 if s.op = oCommon ∧ arg s 0 = arg s 1 then some (l.set i (mk oLen [arg s 0] 0 [] 1)) else none
def matchesR (l : List St) (i : Nat) : Option (List St) :=
 if (at_ l i).op ≠ oSize then none
 else match onceR l i oFind with
  | none => none
  | some j => if canR l i j = false then none else replaceR (l.set j (mk ka0 (at_ l j).args 0 (at_ l j).text 1)) i j
def firstFindR (l : List St) (i : Nat) : Option (List St) :=
 if (at_ l i).op ≠ oFirst then none
 else match onceR l i oFind with
  | none => none
  | some j => if safeB l j i = false then none else some (removeR (l.set i (mk kaF [arg (at_ l j) 0, arg (at_ l i) 1] 0 (at_ l j).text 4)) j)
def lenCutR (l : List St) (i : Nat) : Option (List St) :=
 if (at_ l i).op ≠ oLen then none
 else match onceR l i oCut with
  | none => none
  | some j => if canR l i j = false then none else replaceR (l.set j (mk kbf (at_ l j).args 0 [] 1)) i j
def lenOf (a : Int) : St := mk oLen [a] 0 [] 1
def lenSumR (l : List St) (i : Nat) : Option (List St) :=
 if (at_ l i).op ≠ oLen ∨ 4096 ≤ l.length then none
 else match onceR l i oCat with
  | none => none
  | some j => if canR l i j = false then none
   else
    let a := arg (at_ l j) 0
    let b := arg (at_ l j) 1
    replaceR ((insertR (insertR l j (lenOf a)) (j + 1) (lenOf b)).set (j + 2) (mk oAdd [(j : Int), (j : Int) + 1] 0 [] 1)) (i + 2) (j + 2)
def lenRepR (l : List St) (i : Nat) : Option (List St) :=
 if (at_ l i).op ≠ oLen then none
 else match onceR l i oRep with
  | none => none
  | some j => if (at_ l (arg (at_ l j) 1)).op ≠ kab ∨ canR l i j = false then none
   else
    let a := arg (at_ l j) 0
    let t := arg (at_ l j) 1
    replaceR ((insertR l j (lenOf a)).set (j + 1) (mk oMul [(j : Int), t] 0 [] 1)) (i + 1) (j + 1)
def unusedR (l : List St) (i : Nat) : Option (List St) :=
 if i + 1 = l.length ∨ 0 < (kag l).getD i 0 ∨ safeR (at_ l i) = false then none else some (removeR l i)
def keyR (s : St) : List UInt8 × List UInt8 × List Int × Int := (s.op, s.text, [arg s 0, arg s 1, arg s 2], s.num)
def sameAt (l : List St) (i : Nat) : Option Nat := (List.range i).find? fun j => decide (keyR (at_ l j) = keyR (at_ l i))
def shareAt (l : List St) (i : Nat) : Option (List St) := match sameAt l i with
 | none => none
 | some j => replaceR l i j
def firstOf (f : List St → Nat → Option (List St)) (l : List St) : Option (List St) := (List.range l.length).findSome? (f l)
def rulesR : List (List St → Nat → Option (List St)) := [shareAt, foldR, neutralR, negateR, commonR, matchesR, firstFindR, lenCutR, lenSumR, lenRepR, unusedR]
def applyR (k : Nat) (l : List St) : Option (List St) := match rulesR[k]? with
 | some f => firstOf f l
 | none => none
def anyR (l : List St) : Option (List St) := (List.range 11).findSome? fun k => applyR k l
def ofN : Nat → List St → List St
 | 0, l => l
 | f + 1, l => match anyR l with
  | none => l
  | some l' => ofN f l'
example : ofN 10 [mk kab [] 2 [] 1, mk kab [] 3 [] 1, mk oAdd [0, 1] 0 [] 1] = [mk kab [] 5 [] 1] := by decide +kernel
end Oz
set_option maxRecDepth 100000
set_option maxHeartbeats 8000000
theorem kfE {l : List St} (hc : kac l = 0) : ∀ s ∈ l, s.args.length ≤ 3 := fun s hs => by
 obtain ⟨i, hi⟩ := List.getElem?_of_mem hs
 obtain ⟨o, ho⟩ := kdd ((kbK hc).2.2 i s hi)
 rw [ho.len]; exact kcZ ho.op
def UsRel (w : World) (l : List St) (G f : Nat) (i : Value) (wr : World) : Prop := ∃ k : Nat, i = .int .i64 k ∧ k ≤ l.length ∧ l.length - k < f ∧ Hid (Blk wr G 3 (uarr (ka6 l k))) ∧ Hid (Below w.heap.size w wr)
def UiRel (w : World) (z args : List Int) (G f : Nat) (i : Value) (wr : World) : Prop := ∃ j : Nat, i = .int .i64 j ∧ j ≤ args.length ∧ args.length - j < f ∧ Hid (Blk wr G 3 (uarr (bumps z (args.take j)))) ∧ Hid (Below w.heap.size w wr)
theorem khG (A : Option Addr) (c : Nat) (l : List St) (w : World) (h : ArgPl w A l) (hc : kac l = 0) :
  Calls Tryz.prog 29 #[.slice A l.length c] w fun e w' => e = .returned (.slice (some ⟨w.heap.size, 0, none⟩) l.length l.length) ∧ Blk w' w.heap.size 3 (uarr (kag l)) ∧ Below w.heap.size w w' := by
 exact y13
def IoRl (w : World) (n f : Nat) (i : Value) (wr : World) : Prop := ∃ k : Nat, i = .int .i64 k ∧ k ≤ n ∧ n - k < f ∧ Hid (Below w.heap.size w wr)
theorem ints_o (A B : Option Addr) (c d : Nat) (xs : List Int) (w : World) (hlim : xs.length ≤ 100000) (h1 : Reads w w.heap.size 1 A xs.length (xs.map (Value.int .i64))) (h2 : Reads w w.heap.size 1 B xs.length (xs.map (Value.int .i64))) :
  Calls Tryz.prog 28 #[.slice A xs.length c, .slice B xs.length d] w (ke4 w) := by
 have H1 := hD h1
 have H2 := hD h2
 obtain ⟨n, hn⟩ := xE xs.length
 have HN := hD hn
 rw [← hn] at H1 H2 hlim ⊢
 clear h1 h2 hn
 go_enter Tryz.func28, Tryz.ntmps28
 go_wp2_with fail
 go_loopg [5] (n + 1) (fun f i wr => IoRl w n f i wr)
 case atStart => exact ⟨0, rfl, by omega, by omega, hD (Below.refl _ _)⟩
 case round =>
  obtain ⟨k, rfl, hk, hkf, HB⟩ := hrel
  obtain ⟨f, rfl⟩ : ∃ f, gk = f + 1 := ⟨gk - 1, by omega⟩
  by_cases hlt : k < n
  ·
   obtain ⟨x, hx⟩ : ∃ x, xs[k]? = some x := ⟨xs[k]'(by have := HN.out; omega), List.getElem?_eq_getElem _⟩
   obtain ⟨ba, oa, rfl, _, hca⟩ := (H1.out.below HB.out).form (by omega)
   obtain ⟨bb, ob, rfl, _, hcb⟩ := (H2.out.below HB.out).form (by omega)
   have z1 := hca k (.int .i64 x) (by rw [List.getElem?_map, hx]; rfl)
   have z2 := hcb k (.int .i64 x) (by rw [List.getElem?_map, hx]; rfl)
   have q0 : (k : Int) < (n : Int) := by omega
   have q1 : (0 : Int) ≤ (k : Int) := by omega
   clear hca hcb hx
   go_wp2_with fail
   go_quiet (fail)
   go_wp2_with fail
   go_roundg f
   case measure => omega
   case rel => exact ⟨k + 1, by go_num, by omega, by omega, hD (kaf HB.out _)⟩
  ·
   have hkn : k = n := by omega
   subst hkn
   have q0 : ¬ ((k : Int) < (k : Int)) := by omega
   go_wp2_with fail
   go_ret
   exact ⟨rfl, HB.out⟩
def IoRel (w : World) (l : List St) (A : Option Addr) (c f : Nat) (i : Value) (wr : World) : Prop := ∃ k : Nat, i = .int .i64 k ∧ k ≤ l.length ∧ l.length - k < f ∧ Hid (Blk wr w.heap.size 26 #[.slice A l.length c]) ∧ Hid (Below w.heap.size w wr)
theorem kd6 (A B : Option Addr) (c d : Nat) (l : List St) (w : World) (hP : PlAt w (fun i => i < w.heap.size) A l) (hA : ArgPl w B l) (hn : l.length ≤ 100000) (ha : ∀ s ∈ l, s.args.length ≤ 100000) :
  Calls Tryz.prog 13 #[.agg #[.slice A l.length c], .slice B l.length d] w (ke4 w) := by
 have HP := hD hP
 have HA := hD hA
 have HS := hD ha
 have HX0 := hD (Blk.new w 26 #[.slice A l.length c])
 have HB0 := hD (kaa w (.cells #[.slice A l.length c] 26))
 clear hP hA ha
 go_enter Tryz.func13, Tryz.ntmps13
 go_wp2_with fail
 go_loopg [5, 6, 16] (l.length + 1) (fun f _ _ i wr => IoRel w l A c f i wr)
 case atStart => exact ⟨0, rfl, by omega, by omega, HX0, HB0⟩
 case round =>
  clear HX0 HB0
  obtain ⟨k, rfl, hk, hkf, HX, HB⟩ := hrel
  obtain ⟨f, rfl⟩ : ∃ f, gk = f + 1 := ⟨gk - 1, by omega⟩
  have hzr := HB.out.size
  have hxl := HX.out.lt
  by_cases hlt : k < l.length
  ·
   obtain ⟨s, hs⟩ : ∃ s, l[k]? = some s := ⟨l[k], List.getElem?_eq_getElem hlt⟩
   have hsa := HS.out s (List.mem_of_getElem? hs)
   have s0 := HX.out.cell 0
   simp only [gA, gB] at s0
   obtain ⟨b, ob, As, cs, rfl, hbF, hbl, x0, x1, x2, x3, x4, har⟩ := (HP.out.at_ HB.out).step hs
   obtain ⟨b2, ob2, As2, cs2, rfl, hbl2, y0, y1, y2, y3, y4, har2⟩ := (HA.out.below HB.out) k s hs
   have q0 : (k : Int) < (l.length : Int) := by omega
   have q1 : (0 : Int) ≤ (k : Int) := by omega
   obtain ⟨op, args, num, text, ty⟩ := s
   dsimp only at x0 x1 x2 x3 x4 y0 y1 y2 y3 y4 har har2 hsa
   have HAR := hD har
   have HAR2 := hD har2
   clear hs har har2
   go_upto_region 6 with (fail)
   obtain ⟨w2, hw2⟩ := xE (wr.alloc (.cells #[.string ⟨op.toArray⟩, .slice As args.length cs, .int .i64 num, .string ⟨text.toArray⟩, .int .i64 ty] 77))
   rw [← hw2]
   have hb2 : Below wr.heap.size wr w2 := by rw [hw2]; exact kaa _ _
   have HB2 := hD (HB.out.trans (hb2.mono hzr))
   have HX2 := hD (HX.out.below hb2 hxl)
   have HST := hD (show Blk w2 wr.heap.size 77 #[.string ⟨op.toArray⟩, .slice As args.length cs, .int .i64 num, .string ⟨text.toArray⟩, .int .i64 ty] by rw [hw2]; exact Blk.new _ _ _)
   have p0 := HST.out.cell 0
   have p1 := HST.out.cell 1
   have p2 := HST.out.cell 2
   have p3 := HST.out.cell 3
   have p4 := HST.out.cell 4
   simp only [gA, gB, gC] at p0 p1 p2 p3 p4
   have k0 := cell_regrown p0
   have k1 := cell_regrown p1
   have k2 := cell_regrown p2
   have k3 := cell_regrown p3
   have k4 := cell_regrown p4
   have z0 := cell_regrown ((hb2.cell (p := ⟨b2, _, none⟩) hbl2).trans y0)
   have z1 := cell_regrown ((hb2.cell (p := ⟨b2, _, none⟩) hbl2).trans y1)
   have z2 := cell_regrown ((hb2.cell (p := ⟨b2, _, none⟩) hbl2).trans y2)
   have z3 := cell_regrown ((hb2.cell (p := ⟨b2, _, none⟩) hbl2).trans y3)
   have z4 := cell_regrown ((hb2.cell (p := ⟨b2, _, none⟩) hbl2).trans y4)
   have hr1 : Reads w2 w2.heap.size 1 As args.length (args.map (Value.int .i64)) := ⟨by simp, fun hn0 => by
    obtain ⟨g, o', e1, e2, e3, e4⟩ := HAR.out.form (by simpa using hn0)
    refine ⟨⟨g, o', none⟩, e1, Nat.lt_of_lt_of_le e3 hb2.size, fun j u hj => ?_⟩
    rw [ka1]
    exact (hb2.cell (p := ⟨g, o' + j, none⟩) e3).trans (e4 j u hj)⟩
   have hr2 : Reads w2 w2.heap.size 1 As2 args.length (args.map (Value.int .i64)) := (HAR2.out.below hb2).more hb2.size
   have cI : ∀ dd os, Calls Tryz.prog 28 #[.slice As args.length cs, .slice As2 args.length cs2] (Go.Sort.grow (redrawn w2 dd) os) fun e w'' => e = .returned (.bool true) ∧ ∃ p : Regrown, w'' = Go.Sort.grow (redrawn w2 p.d) p.os :=
    fun dd os => Calls.regrown_of (ints_o As As2 cs cs2 args _ hsa ((hr1.below (below_regrown w2 dd os)).more (below_regrown w2 dd os).size) ((hr2.below (below_regrown w2 dd os)).more (below_regrown w2 dd os).size))
   have HW2 := hD hw2
   clear hw2 hb2 p0 p1 p2 p3 p4 x0 x1 x2 x3 x4 y0 y1 y2 y3 y4 s0 hr1 hr2
   refine wp_region_quiet_below (by kernel_rfl) (by kernel_rfl) ?_
   repeat (quiet_step (exact cI _ _))
   refine wpQuiet_nil ?_
   intro _ hw'
   obtain ⟨⟨dq, osq⟩, hw''⟩ := hw'
   subst hw''
   have hq := below_regrown w2 dq osq
   simp only
   have HB3 := hD (HB2.out.trans (hq.mono HB2.out.size))
   have HX3 := hD (HX2.out.below hq HX2.out.lt)
   clear hq cI k0 k1 k2 k3 k4 z0 z1 z2 z3 z4
   go_wp2_with fail
   go_roundg f
   case measure => omega
   case rel => exact ⟨k + 1, by go_num, by omega, by omega, HX3, HB3⟩
  ·
   have hkl : k = l.length := by omega
   subst hkl
   have q0 : ¬ ((l.length : Int) < (l.length : Int)) := by omega
   go_wp2_with fail
   go_ret
   exact ⟨rfl, HB.out⟩
end Go.Proofs.YtamhdmkolfmmdaaGreatDoor
