/- The document's rules of optimize as functions on a plan's steps, and that they are the program's (plain Lean). The document's rules of optimize are the program's (plain Lean): neutral, negate, and the rules over two steps. -/
import Derived.Test.YtamhdmkolfmmdaaGreatDoorsbc
import Derived.Test.YtamhdmkolfmmdaaGreatDoorsaa
set_option linter.unusedVariables false
set_option linter.unusedSimpArgs false
namespace Go.Proofs.YtamhdmkolfmmdaaGreatDoor
open Go.RowKit
namespace Rf
def removeL (l : List St) (i : Nat) : List St := (l.take i).map (Oz.mapA (fRm i)) ++ (l.drop (i + 1)).map (Oz.mapA (fRm i))
def insertL (l : List St) (j : Nat) (x : St) : List St := (l.take j).map (Oz.mapA (fIn j)) ++ x :: (l.drop j).map (Oz.mapA (fIn j))
def replaceL (l : List St) (i j : Nat) : Option (List St) :=
 if i + 1 = l.length then (if Oz.safeB l j i then some (l.take (j + 1)) else none)
 else some (removeL (l.map (Oz.mapA (fRp i j))) i)
def equalL (a b : St) : Bool := decide (a.op = b.op ∧ a.num = b.num ∧ a.text = b.text ∧ a.args = b.args)
def shareL (l : List St) (i : Nat) : Option (List St) := match (List.range i).find? fun j : Nat => equalL (Oz.at_ l (j : Int)) (Oz.at_ l (i : Int)) with
 | none => none
 | some j => replaceL l i j
def numL (n : Int) : Option Int := if n < -Oz.maxLn ∨ Oz.maxLn < n then none else some n
def prodL (a b : Int) : Option Int := if a ≠ 0 ∧ b ≠ 0 ∧ Oz.maxLn / max a (-a) < max b (-b) then none else numL (a * b)
def arithL (op : List UInt8) (a b : Int) : Option Int :=
 if op = Oz.oMin then numL (min a b)
 else if op = Oz.oMax then numL (max a b)
 else if op = Oz.oAdd then numL (a + b)
 else if op = Oz.oSub then numL (a - b)
 else prodL a b
def foldL (l : List St) (i : Nat) : Option (List St) :=
 let s := Oz.at_ l i
 let a := Oz.at_ l (Oz.arg s 0)
 let b := Oz.at_ l (Oz.arg s 1)
 if s.op = Oz.oMin ∨ s.op = Oz.oMax ∨ s.op = Oz.oAdd ∨ s.op = Oz.oSub ∨ s.op = Oz.oMul then
  (if a.op ≠ kab ∨ b.op ≠ kab ∨ Oz.maxLn < a.num ∨ Oz.maxLn < b.num then none
  else match arithL s.op a.num b.num with
   | none => none
   | some n => if n < 0 then none else some (l.set i (Oz.mk kab [] n [] 1)))
 else if s.op = Oz.oLen ∨ s.op = Oz.oLines then
  (if a.op ≠ kai ∨ 65536 < a.text.length then none
  else some (l.set i (Oz.mk kab [] (if s.op = Oz.oLines then ((a.text.filter fun b => b = 10).length : Int) + 1 else a.text.length) [] 1)))
 else if s.op = Oz.oCat then
  (if a.op ≠ kai ∨ b.op ≠ kai ∨ 65536 < a.text.length + b.text.length then none
  else some (l.set i (Oz.mk kai [] 0 (a.text ++ b.text) 3)))
 else none
def onceL (l : List St) (j : Nat) : Bool := decide ((kag l).getD j 0 = 1)
def overL (l : List St) (i : Nat) (op below : List UInt8) : Option Nat :=
 if (Oz.at_ l i).op ≠ op ∨ (Oz.at_ l (Oz.arg (Oz.at_ l i) 0)).op ≠ below ∨ onceL l (Oz.arg (Oz.at_ l i) 0).toNat = false then none else some (Oz.arg (Oz.at_ l i) 0).toNat
end Rf
def kcD (l : List St) : Prop := ∀ (q : Nat) (s : St), l[q]? = some s → ∀ a ∈ s.args, 0 ≤ a ∧ a < (q : Int)
theorem fit_back {l : List St} (h : Fit l) : kcD l := fun q s hs => by
 obtain ⟨o, f⟩ := h q s hs
 exact f.back
theorem kie {f : Int → Int} {l : List St} {i : Nat} (h : kcD l) (hf : ∀ a : Int, a < (i : Int) → f a = a) : (l.take i).map (Oz.mapA f) = l.take i := by
 apply List.ext_getElem?
 intro q
 rw [List.getElem?_map, List.getElem?_take]
 by_cases hq : q < i
 ·
  rw [if_pos hq]
  cases hl : l[q]? with
  | none => rfl
  | some s =>
   rw [Option.map_some, kd5 (f := f) (s := s) (fun a ha => hf a (by have := (h q s hl a ha).2; omega))]
 ·
  rw [if_neg hq]
  rfl
theorem kdf {l : List St} (h : kcD l) (i : Nat) : Rf.removeL l i = Oz.removeR l i := by
 unfold Rf.removeL Oz.removeR
 rw [kie (f := fRm i) h (fun a ha => if_neg (by omega))]
 rfl
theorem kek {l : List St} (h : kcD l) (j : Nat) (x : St) : Rf.insertL l j x = Oz.insertR l j x := by
 unfold Rf.insertL Oz.insertR
 rw [kie (f := fIn j) h (fun a ha => if_neg (by omega))]
 rfl
theorem kbI {l : List St} (h : kcD l) {i j : Nat} (hi : i < l.length) (hji : j < i) : Rf.replaceL l i j = Oz.replaceR l i j := by
 unfold Rf.replaceL Oz.replaceR
 by_cases hlast : i + 1 = l.length
 ·
  rw [if_pos hlast]
  have hcan : Oz.canR l i j = Oz.safeB l j i := by
   unfold Oz.canR
   rw [decide_eq_false (by omega), Bool.false_or]
  rw [hcan]
  cases Oz.safeB l j i with
  | false => rw [if_neg (by decide), if_pos rfl]
  | true => rw [if_pos rfl, if_neg (by decide), if_pos hlast]
 ·
  rw [if_neg hlast]
  have hcan : Oz.canR l i j = true := by
   unfold Oz.canR
   rw [decide_eq_true (by omega), Bool.true_or]
  rw [hcan, if_neg (by decide), if_neg hlast]
  have hM : l.map (Oz.mapA (fRp i j)) = l.take (i + 1) ++ (l.drop (i + 1)).map (Oz.mapA (fRp i j)) := by
   conv => lhs; rw [← List.take_append_drop (i + 1) l]
   rw [List.map_append]
   congr 1
   apply List.ext_getElem?
   intro q
   rw [List.getElem?_map, List.getElem?_take]
   by_cases hq : q < i + 1
   ·
    rw [if_pos hq]
    cases hl : l[q]? with
    | none => rfl
    | some s =>
     rw [Option.map_some, kd5 (f := fRp i j) (s := s) (fun a ha => if_neg (by have := (h q s hl a ha).2; omega))]
   ·
    rw [if_neg hq]
    rfl
  rw [hM]
  have hB : kcD (l.take (i + 1) ++ (l.drop (i + 1)).map (Oz.mapA (fRp i j))) := fun q s hs a ha => by
   rw [kjt hi] at hs
   by_cases hq : q ≤ i
   ·
    rw [if_pos hq] at hs
    exact h q s hs a ha
   ·
    rw [if_neg hq] at hs
    cases hl : l[q]? with
    | none => rw [hl] at hs; cases hs
    | some t =>
     rw [hl, Option.map_some] at hs
     injection hs with hs
     subst hs
     unfold Oz.mapA at ha
     obtain ⟨b, hb, rfl⟩ := List.mem_map.1 ha
     have := h q t hl b hb
     unfold fRp
     split <;> omega
  rw [kdf hB]
  rfl
theorem okB {l : List St} (hc : kac l = 0) : kcD l := fit_back (check_fit.1 hc).2.2
section
variable {l : List St} (hc : kac l = 0) {i : Nat} {s : St} (hs : l[i]? = some s)
include hc hs
theorem klv : Rf.shareL l i = Oz.shareAt l i := by
 have hil := (gH hs).1
 unfold Rf.shareL Oz.shareAt
 have hf : ((List.range i).find? fun j : Nat => Rf.equalL (Oz.at_ l (j : Int)) (Oz.at_ l (i : Int))) = Oz.sameAt l i := by
  unfold Oz.sameAt
  have : ∀ xs : List Nat, (∀ j ∈ xs, j < i) → (xs.find? fun j : Nat => Rf.equalL (Oz.at_ l (j : Int)) (Oz.at_ l (i : Int))) = xs.find? fun j : Nat => decide (Oz.keyR (Oz.at_ l (j : Int)) = Oz.keyR (Oz.at_ l (i : Int))) := by
   intro xs
   induction xs with
   | nil => intro _; rfl
   | cons j xs ih =>
    intro hx
    have hj := hx j (List.mem_cons_self ..)
    obtain ⟨t, ht⟩ : ∃ t, l[j]? = some t := ⟨_, List.getElem?_eq_getElem (by omega)⟩
    have he : Rf.equalL (Oz.at_ l (j : Int)) (Oz.at_ l (i : Int)) = decide (Oz.keyR (Oz.at_ l (j : Int)) = Oz.keyR (Oz.at_ l (i : Int))) := by
     rw [kad ht, kad hs]
     unfold Rf.equalL
     have hiff : (t.op = s.op ∧ t.num = s.num ∧ t.text = s.text ∧ t.args = s.args) ↔ Oz.keyR t = Oz.keyR s := by
      unfold Oz.keyR
      simp only [Prod.mk.injEq, List.cons.injEq, and_true]
      constructor
      ·
       rintro ⟨a, b, c, d⟩
       unfold Oz.arg
       rw [d]
       exact ⟨a, c, ⟨rfl, rfl, rfl⟩, b⟩
      ·
       rintro ⟨a, b, ⟨c1, c2, c3⟩, d⟩
       refine ⟨a, d, b, ?_⟩
       obtain ⟨o, f⟩ := (check_fit.1 hc).2.2 i s hs
       have ft := kaB hc ht (by rw [a]; exact f.op)
       have hl3 := kcZ f.op
       have h1 := f.len
       have h2 := ft.len
       apply List.ext_getElem?
       intro k
       by_cases hk : k < o.args.length
       ·
        have hg : ∀ x : St, x.args.length = o.args.length → x.args[k]? = some (Oz.arg x k) := fun x hx => by
         unfold Oz.arg
         rw [List.getD_eq_getElem?_getD, List.getElem?_eq_getElem (by omega)]
         rfl
        rw [hg t h2, hg s h1]
        have hk3 : k = 0 ∨ k = 1 ∨ k = 2 := by omega
        rcases hk3 with rfl | rfl | rfl
        ·
         rw [c1]
        ·
         rw [c2]
        ·
         rw [c3]
       ·
        rw [List.getElem?_eq_none (by omega), List.getElem?_eq_none (by omega)]
     by_cases hk : Oz.keyR t = Oz.keyR s
     ·
      rw [decide_eq_true hk, decide_eq_true (hiff.2 hk)]
     ·
      rw [decide_eq_false hk, decide_eq_false (fun e => hk (hiff.1 e))]
    rw [List.find?_cons, List.find?_cons, he, ih (fun q hq => hx q (List.mem_cons_of_mem _ hq))]
  exact this _ (fun j hj => List.mem_range.1 hj)
 rw [hf]
 cases hsa : Oz.sameAt l i with
 | none => rfl
 | some j =>
  have hji : j < i := by
   rw [keD] at hsa
   exact fk_lt hsa
  exact kbI (okB hc) hil hji
end
theorem kmd (op : List UInt8) (hop : op = Oz.oMin ∨ op = Oz.oMax ∨ op = Oz.oAdd ∨ op = Oz.oSub ∨ op = Oz.oMul) {a b : Int} (ha : 0 ≤ a) (ha' : a ≤ Oz.maxLn) (hb : 0 ≤ b) (hb' : b ≤ Oz.maxLn) : (match Rf.arithL op a b with | none => none | some n => if n < 0 then none else some n) = Oz.computeR op a b := by
 have hm : Oz.maxLn = 1152921504606846976 := rfl
 have hva : Oz.valid a = true := decide_eq_true ⟨ha, ha'⟩
 have hvb : Oz.valid b = true := decide_eq_true ⟨hb, hb'⟩
 have hnum : ∀ n : Int, 0 ≤ n → n ≤ Oz.maxLn → (match Rf.numL n with | none => none | some n => if n < 0 then none else some n) = some n := fun n h0 h1 => by
  have : Rf.numL n = some n := by unfold Rf.numL; rw [if_neg (by omega)]
  rw [this]
  exact if_neg (by omega)
 have hnum2 : ∀ n : Int, -Oz.maxLn ≤ n → n < 0 → (match Rf.numL n with | none => none | some n => if n < 0 then none else some n) = none := fun n h0 h1 => by
  have : Rf.numL n = some n := by unfold Rf.numL; rw [if_neg (by omega)]
  rw [this]
  exact if_pos h1
 have hnum3 : ∀ n : Int, Oz.maxLn < n → (match Rf.numL n with | none => none | some n => if n < 0 then none else some n) = none := fun n h0 => by
  have : Rf.numL n = none := by unfold Rf.numL; rw [if_pos (.inr h0)]
  rw [this]
 rcases hop with rfl | rfl | rfl | rfl | rfl
 ·
  have h1 : Rf.arithL Oz.oMin a b = Rf.numL (min a b) := by unfold Rf.arithL; rw [if_pos rfl]
  have h2 : Oz.computeR Oz.oMin a b = some (min a b) := by unfold Oz.computeR; rw [if_pos rfl]
  rw [h1, h2]
  exact hnum _ (by omega) (by omega)
 ·
  have h1 : Rf.arithL Oz.oMax a b = Rf.numL (max a b) := by unfold Rf.arithL; rw [if_neg (by decide), if_pos rfl]
  have h2 : Oz.computeR Oz.oMax a b = some (max a b) := by unfold Oz.computeR; rw [if_neg (by decide), if_pos rfl]
  rw [h1, h2]
  exact hnum _ (by omega) (by omega)
 ·
  have h1 : Rf.arithL Oz.oAdd a b = Rf.numL (a + b) := by unfold Rf.arithL; rw [if_neg (by decide), if_neg (by decide), if_pos rfl]
  have h2 : Oz.computeR Oz.oAdd a b = if decide (a + b ≤ Oz.maxLn) then some (a + b) else none := by unfold Oz.computeR; rw [if_neg (by decide), if_neg (by decide), if_pos rfl, hva, hvb]; rfl
  rw [h1, h2]
  by_cases h : a + b ≤ Oz.maxLn
  ·
   rw [if_pos (decide_eq_true h)]
   exact hnum _ (by omega) h
  ·
   rw [if_neg (by simpa using h)]
   exact hnum3 _ (by omega)
 ·
  have h1 : Rf.arithL Oz.oSub a b = Rf.numL (a - b) := by unfold Rf.arithL; rw [if_neg (by decide), if_neg (by decide), if_neg (by decide), if_pos rfl]
  have h2 : Oz.computeR Oz.oSub a b = if decide (b ≤ a) then some (a - b) else none := by unfold Oz.computeR; rw [if_neg (by decide), if_neg (by decide), if_neg (by decide), if_pos rfl, hva, hvb]; rfl
  rw [h1, h2]
  by_cases h : b ≤ a
  ·
   rw [if_pos (decide_eq_true h)]
   exact hnum _ (by omega) (by omega)
  ·
   rw [if_neg (by simpa using h)]
   exact hnum2 _ (by omega) (by omega)
 ·
  have h1 : Rf.arithL Oz.oMul a b = Rf.prodL a b := by unfold Rf.arithL; rw [if_neg (by decide), if_neg (by decide), if_neg (by decide), if_neg (by decide)]
  have h2 : Oz.computeR Oz.oMul a b = if decide (a * b ≤ Oz.maxLn) then some (a * b) else none := by unfold Oz.computeR; rw [if_neg (by decide), if_neg (by decide), if_neg (by decide), if_neg (by decide), if_pos rfl, hva, hvb]; rfl
  rw [h1, h2]
  have hmul : 0 ≤ a * b := Int.mul_nonneg ha hb
  have hma : max a (-a) = a := by omega
  have hmb : max b (-b) = b := by omega
  unfold Rf.prodL
  rw [hma, hmb]
  by_cases h : a * b ≤ Oz.maxLn
  ·
   have hno : ¬ (a ≠ 0 ∧ b ≠ 0 ∧ Oz.maxLn / a < b) := by
    rintro ⟨h1, _, h3⟩
    have hap : 0 < a := by omega
    have := (Int.le_ediv_iff_mul_le hap).2 (show b * a ≤ Oz.maxLn by rw [Int.mul_comm]; exact h)
    omega
   rw [if_neg hno, if_pos (decide_eq_true h)]
   exact hnum _ hmul h
  ·
   have hyes : a ≠ 0 ∧ b ≠ 0 ∧ Oz.maxLn / a < b := by
    have h1 : a ≠ 0 := fun e => h (by rw [e, Int.zero_mul]; decide)
    have h2 : b ≠ 0 := fun e => h (by rw [e, Int.mul_zero]; decide)
    refine ⟨h1, h2, ?_⟩
    have hap : 0 < a := by omega
    rcases Int.lt_or_le (Oz.maxLn / a) b with h3 | h3
    ·
     exact h3
    ·
     have := (Int.le_ediv_iff_mul_le hap).1 h3
     rw [Int.mul_comm] at this
     exact absurd this h
   rw [if_pos hyes, if_neg (by simpa using h)]
section
variable {l : List St} (hc : kac l = 0) {i : Nat} {s : St} (hs : l[i]? = some s)
include hc hs
theorem foldL_eq : Rf.foldL l i = Oz.foldR l i := by
 unfold Rf.foldL Oz.foldR
 rw [kad hs]
 dsimp only
 by_cases h0 : s.op = Oz.oMin ∨ s.op = Oz.oMax ∨ s.op = Oz.oAdd ∨ s.op = Oz.oSub ∨ s.op = Oz.oMul
 ·
  rw [if_pos h0, if_pos h0]
  have hop : opR s.op = some ⟨[1, 1], 1, false, false⟩ := by
   rcases h0 with h | h | h | h | h <;> rw [h] <;> (show (_ : Option OpI) = _; kernel_rfl)
  have f := kaB hc hs hop
  have hl : s.args.length = 2 := f.len
  obtain ⟨j0, t0, e0, _, ht0, a0, _⟩ := kaO hc hs f (k := 0) (by omega)
  obtain ⟨j1, t1, e1, _, ht1, a1, _⟩ := kaO hc hs f (k := 1) (by omega)
  obtain ⟨o0, f0⟩ := (check_fit.1 hc).2.2 j0 t0 ht0
  obtain ⟨o1, f1⟩ := (check_fit.1 hc).2.2 j1 t1 ht1
  rw [e0, e1]
  unfold Oz.numR
  rw [a0, a1]
  by_cases h1 : t0.op = kab ∧ t0.num ≤ Oz.maxLn
  ·
   by_cases h2 : t1.op = kab ∧ t1.num ≤ Oz.maxLn
   ·
    rw [if_neg (by simp only [not_or, Classical.not_not]; exact ⟨h1.1, h2.1, by omega, by omega⟩), if_pos h1, if_pos h2]
    dsimp only
    have ha := kmd s.op h0 f0.num h1.2 f1.num h2.2
    rw [← ha]
    cases Rf.arithL s.op t0.num t1.num with
    | none => rfl
    | some n =>
     dsimp only
     by_cases hn : n < 0
     ·
      rw [if_pos hn, if_pos hn]; rfl
     ·
      rw [if_neg hn, if_neg hn]; rfl
   ·
    rw [if_pos (by by_cases h3 : t1.op = kab; exact .inr (.inr (.inr (by have : ¬ t1.num ≤ Oz.maxLn := fun e => h2 ⟨h3, e⟩; omega))); exact .inr (.inl h3)), if_pos h1, if_neg h2]
  ·
   rw [if_pos (by by_cases h3 : t0.op = kab; exact .inr (.inr (.inl (by have : ¬ t0.num ≤ Oz.maxLn := fun e => h1 ⟨h3, e⟩; omega))); exact .inl h3), if_neg h1]
 rw [if_neg h0, if_neg h0]
 by_cases h1 : s.op = Oz.oLen
 ·
  rw [if_pos (.inl h1), if_pos h1]
  unfold Oz.strR
  by_cases h2 : (Oz.at_ l (Oz.arg s 0)).op = kai ∧ (Oz.at_ l (Oz.arg s 0)).text.length ≤ 65536
  ·
   rw [if_neg (by simp only [not_or, Classical.not_not]; exact ⟨h2.1, by omega⟩), if_pos (decide_eq_true h2), if_neg (by rw [h1]; decide)]
  ·
   rw [if_pos (by by_cases h3 : (Oz.at_ l (Oz.arg s 0)).op = kai; exact .inr (by have : ¬ (Oz.at_ l (Oz.arg s 0)).text.length ≤ 65536 := fun e => h2 ⟨h3, e⟩; omega); exact .inl h3), if_neg (by rw [decide_eq_false h2]; decide)]
 rw [if_neg h1]
 by_cases h2 : s.op = Oz.oLines
 ·
  rw [if_pos (.inr h2), if_pos h2]
  unfold Oz.strR
  by_cases h3 : (Oz.at_ l (Oz.arg s 0)).op = kai ∧ (Oz.at_ l (Oz.arg s 0)).text.length ≤ 65536
  ·
   rw [if_neg (by simp only [not_or, Classical.not_not]; exact ⟨h3.1, by omega⟩), if_pos (decide_eq_true h3), if_pos h2]
  ·
   rw [if_pos (by by_cases h4 : (Oz.at_ l (Oz.arg s 0)).op = kai; exact .inr (by have : ¬ (Oz.at_ l (Oz.arg s 0)).text.length ≤ 65536 := fun e => h3 ⟨h4, e⟩; omega); exact .inl h4), if_pos h2, if_neg (by rw [decide_eq_false h3]; decide)]
 rw [if_neg (by simp only [not_or]; exact ⟨h1, h2⟩), if_neg h2]
 by_cases h3 : s.op = Oz.oCat
 ·
  rw [if_pos h3, if_pos h3]
  obtain ⟨a, ha⟩ := xE (Oz.at_ l (Oz.arg s 0))
  obtain ⟨b, hb⟩ := xE (Oz.at_ l (Oz.arg s 1))
  unfold Oz.strR
  rw [← ha, ← hb]
  by_cases h4 : a.op = kai ∧ b.op = kai ∧ a.text.length + b.text.length ≤ 65536
  ·
   rw [if_neg (by simp only [not_or, Classical.not_not]; exact ⟨h4.1, h4.2.1, by omega⟩), if_pos (by rw [decide_eq_true ⟨h4.1, by omega⟩, decide_eq_true ⟨h4.2.1, by omega⟩, decide_eq_true h4.2.2]; rfl)]
  ·
   rw [if_pos (by
    by_cases h5 : a.op = kai
    ·
     by_cases h6 : b.op = kai
     ·
      exact .inr (.inr (by have : ¬ a.text.length + b.text.length ≤ 65536 := fun e => h4 ⟨h5, h6, e⟩; omega))
     ·
      exact .inr (.inl h6)
    ·
     exact .inl h5), if_neg (by
    simp only [Bool.and_eq_true, decide_eq_true_eq]
    rintro ⟨⟨h5, h6⟩, h7⟩
    exact h4 ⟨h5.1, h6.1, h7⟩)]
 ·
  rw [if_neg h3, if_neg h3]
theorem kcF (op below : List UInt8) (hne : op = s.op → 0 < s.args.length) : (if (Oz.at_ l i).op ≠ op then none else Oz.onceR l i below) = Rf.overL l i op below := by
 unfold Rf.overL Oz.onceR Rf.onceL
 rw [kad hs]
 dsimp only
 by_cases h0 : s.op = op
 ·
  rw [if_neg (by simpa using h0)]
  have hl := hne h0.symm
  obtain ⟨o, f⟩ := (check_fit.1 hc).2.2 i s hs
  obtain ⟨j, t, e, _, ht, at0, _⟩ := kaO hc hs f hl
  rw [e, Int.toNat_natCast, at0]
  by_cases h1 : t.op = below
  ·
   by_cases h2 : (kag l).getD j 0 = 1
   ·
    rw [if_pos ⟨h1, h2⟩, if_neg (by simp only [not_or, Classical.not_not]; exact ⟨h0, h1, by rw [decide_eq_true h2]; decide⟩)]
   ·
    rw [if_neg (fun e => h2 e.2), if_pos (.inr (.inr (decide_eq_false h2)))]
  ·
   rw [if_neg (fun e => h1 e.1), if_pos (.inr (.inl h1))]
 ·
  rw [if_pos h0, if_pos (.inl h0)]
end
namespace Rf
def addL (l : List Nat) (b : Bool) (j : Int) : List Nat := if b then l ++ [j.toNat] else l
def targetsL (l : List St) (i : Nat) : List Nat :=
 let s := Oz.at_ l i
 if s.op = Oz.oNot then (if (Oz.at_ l (Oz.arg s 0)).op = Oz.oNot then [(Oz.arg (Oz.at_ l (Oz.arg s 0)) 0).toNat] else [])
 else if s.args.length < 2 then []
 else
  let a := Oz.arg s 0
  let b := Oz.arg s 1
  if s.op = Oz.oAdd then addL (addL [] (Oz.isR l b 0) a) (Oz.isR l a 0) b
  else if s.op = Oz.oSub then addL [] (Oz.isR l b 0) a
  else if s.op = Oz.oMul then addL (addL [] (Oz.isR l b 1) a) (Oz.isR l a 1) b
  else if s.op = Oz.oMin ∨ s.op = Oz.oMax ∨ s.op = Oz.oAnd ∨ s.op = Oz.oOr ∨ s.op = Oz.oUnion ∨ s.op = Oz.oWithin then addL [] (decide (a = b)) a
  else if s.op = Oz.oCat then addL (addL [] (Oz.emptyR l b) a) (Oz.emptyR l a) b
  else if s.op = Oz.oRep then addL [] (Oz.isR l b 1) a
  else if s.op = Oz.oCut then addL [] (Oz.isR l b 0 && (decide ((Oz.at_ l (Oz.arg s 2)).op = Oz.oLen) && decide (Oz.arg (Oz.at_ l (Oz.arg s 2)) 0 = a))) a
  else []
def neutralL (l : List St) (i : Nat) : Option (List St) := (targetsL l i).findSome? fun j => replaceL l i j
def negL (t : St) : Option St :=
 if t.op = Oz.oEq then some (Oz.mk Oz.oNe t.args 0 [] 2)
 else if t.op = Oz.oNe then some (Oz.mk Oz.oEq t.args 0 [] 2)
 else if t.op = Oz.oLt then some (Oz.mk Oz.oLe [Oz.arg t 1, Oz.arg t 0] 0 [] 2)
 else if t.op = Oz.oLe then some (Oz.mk Oz.oLt [Oz.arg t 1, Oz.arg t 0] 0 [] 2)
 else none
def negateL (l : List St) (i : Nat) : Option (List St) :=
 let j := (Oz.arg (Oz.at_ l i) 0).toNat
 if (Oz.at_ l i).op ≠ Oz.oNot ∨ onceL l j = false then none
 else (negL (Oz.at_ l j)).map fun x => removeL (l.set i x) j
def matchesL (l : List St) (i : Nat) : Option (List St) := match overL l i Oz.oSize Oz.oFind with
 | none => none
 | some j => replaceL (l.set j (Oz.mk ka0 (Oz.at_ l j).args 0 (Oz.at_ l j).text 1)) i j
def firstFindL (l : List St) (i : Nat) : Option (List St) := match overL l i Oz.oFirst Oz.oFind with
 | none => none
 | some j => if Oz.safeB l j i = false then none else some (removeL (l.set i (Oz.mk kaF [Oz.arg (Oz.at_ l j) 0, Oz.arg (Oz.at_ l i) 1] 0 (Oz.at_ l j).text 4)) j)
def lenCutL (l : List St) (i : Nat) : Option (List St) := match overL l i Oz.oLen Oz.oCut with
 | none => none
 | some j => replaceL (l.set j (Oz.mk kbf (Oz.at_ l j).args 0 [] 1)) i j
def lenSumL (l : List St) (i : Nat) : Option (List St) := match overL l i Oz.oLen Oz.oCat with
 | none => none
 | some j => if 4096 ≤ l.length then none
  else replaceL ((insertL (insertL l j (Oz.lenOf (Oz.arg (Oz.at_ l j) 0))) (j + 1) (Oz.lenOf (Oz.arg (Oz.at_ l j) 1))).set (j + 2) (Oz.mk Oz.oAdd [(j : Int), (j : Int) + 1] 0 [] 1)) (i + 2) (j + 2)
def lenRepL (l : List St) (i : Nat) : Option (List St) := match overL l i Oz.oLen Oz.oRep with
 | none => none
 | some j => if (Oz.at_ l (Oz.arg (Oz.at_ l j) 1)).op ≠ kab then none
  else replaceL ((insertL l j (Oz.lenOf (Oz.arg (Oz.at_ l j) 0))).set (j + 1) (Oz.mk Oz.oMul [(j : Int), Oz.arg (Oz.at_ l j) 1] 0 [] 1)) (i + 1) (j + 1)
def unusedL (l : List St) (i : Nat) : Option (List St) := if i + 1 = l.length ∨ Oz.safeR (Oz.at_ l i) = false ∨ (kag l).getD i 0 ≠ 0 then none else some (removeL l i)
end Rf
theorem kcP {l : List St} (h : kcD l) {j : Nat} {x : St} (hx : ∀ a ∈ x.args, 0 ≤ a ∧ a < (j : Int)) : kcD (l.set j x) := fun q s hs a ha => by
 have hql := (gH hs).1
 by_cases e : j = q
 ·
  subst e
  rw [List.getElem?_set_self (by rw [List.length_set] at hql; exact hql)] at hs
  injection hs with hs
  subst hs
  exact hx a ha
 ·
  rw [List.getElem?_set_ne e] at hs
  exact h q s hs a ha
theorem kfB {l : List St} (h : kcD l) {j : Nat} (hj : j ≤ l.length) {x : St} (hx : ∀ a ∈ x.args, 0 ≤ a ∧ a < (j : Int)) : kcD (Oz.insertR l j x) := fun q s hs a ha => by
 rw [kbq l j x hj] at hs
 by_cases h1 : q < j
 ·
  rw [if_pos h1] at hs
  exact h q s hs a ha
 ·
  rw [if_neg h1] at hs
  by_cases h2 : q = j
  ·
   rw [if_pos h2] at hs
   injection hs with hs
   subst hs h2
   exact hx a ha
  ·
   rw [if_neg h2] at hs
   cases hl : l[q - 1]? with
   | none => rw [hl] at hs; cases hs
   | some t =>
    rw [hl, Option.map_some] at hs
    injection hs with hs
    subst hs
    unfold Oz.mapA at ha
    obtain ⟨b, hb, rfl⟩ := List.mem_map.1 ha
    have := h (q - 1) t hl b hb
    unfold fIn
    split <;> omega
theorem keG {l : List St} {i j : Nat} : (if Oz.canR l i j = false then none else Oz.replaceR l i j) = Oz.replaceR l i j := by
 unfold Oz.replaceR
 cases Oz.canR l i j with
 | false => rw [if_pos rfl]; rfl
 | true => rw [if_neg (by decide)]
section
variable {l : List St} (hc : kac l = 0) {i : Nat} {s : St} (hs : l[i]? = some s)
include hc hs
theorem kf7 {o : OpI} (f : Fine l i s o) {k : Nat} (hk : k < s.args.length) : Rf.replaceL l i (Oz.arg s k).toNat = Oz.replaceR l i (Oz.arg s k).toNat := by
 obtain ⟨j, t, e, hji, _, _, _⟩ := kaO hc hs f hk
 rw [e, Int.toNat_natCast]
 exact kbI (okB hc) (gH hs).1 hji
theorem kdg (b : Bool) {o : OpI} (f : Fine l i s o) (hk : 0 < s.args.length) : (Rf.addL [] b (Oz.arg s 0)).findSome? (fun j => Rf.replaceL l i j) = if b then Oz.replaceR l i (Oz.arg s 0).toNat else none := by
 unfold Rf.addL
 cases b with
 | false => rfl
 | true =>
  rw [if_pos rfl, if_pos rfl, List.nil_append, List.findSome?_cons, kf7 hc hs f hk]
  cases Oz.replaceR l i (Oz.arg s 0).toNat <;> rfl
theorem kdN (b c : Bool) {o : OpI} (f : Fine l i s o) (hk : 1 < s.args.length) : (Rf.addL (Rf.addL [] b (Oz.arg s 0)) c (Oz.arg s 1)).findSome? (fun j => Rf.replaceL l i j) = Oz.orElse (if b then Oz.replaceR l i (Oz.arg s 0).toNat else none) (if c then Oz.replaceR l i (Oz.arg s 1).toNat else none) := by
 have h0 := kf7 hc hs f (k := 0) (by omega)
 have h1 := kf7 hc hs f (k := 1) hk
 unfold Rf.addL
 cases b with
 | false =>
  cases c with
  | false => rfl
  | true =>
   show ([(Oz.arg s 1).toNat] : List Nat).findSome? (fun j => Rf.replaceL l i j) = Oz.orElse none (Oz.replaceR l i (Oz.arg s 1).toNat)
   rw [List.findSome?_cons, h1]
   cases Oz.replaceR l i (Oz.arg s 1).toNat <;> rfl
 | true =>
  cases c with
  | false =>
   show ([(Oz.arg s 0).toNat] : List Nat).findSome? (fun j => Rf.replaceL l i j) = Oz.orElse (Oz.replaceR l i (Oz.arg s 0).toNat) none
   rw [List.findSome?_cons, h0]
   cases Oz.replaceR l i (Oz.arg s 0).toNat <;> rfl
  | true =>
   show ([(Oz.arg s 0).toNat, (Oz.arg s 1).toNat] : List Nat).findSome? (fun j => Rf.replaceL l i j) = Oz.orElse (Oz.replaceR l i (Oz.arg s 0).toNat) (Oz.replaceR l i (Oz.arg s 1).toNat)
   rw [List.findSome?_cons, List.findSome?_cons, h0, h1]
   cases Oz.replaceR l i (Oz.arg s 0).toNat <;> cases Oz.replaceR l i (Oz.arg s 1).toNat <;> rfl
theorem kiX : Rf.neutralL l i = Oz.neutralR l i := by
 obtain ⟨o, f⟩ := (check_fit.1 hc).2.2 i s hs
 unfold Rf.neutralL Rf.targetsL Oz.neutralR
 rw [kad hs]
 dsimp only
 have har : ∀ (op : List UInt8) (k : Nat), s.op = op → (opR op).map (fun o => o.args.length) = some k → s.args.length = k := fun op k h ho => kae hc hs k (by rw [h]; exact ho)
 by_cases h0 : s.op = Oz.oAdd
 ·
  have hl := har _ 2 h0 (by show (_ : Option Nat) = _; kernel_rfl)
  rw [if_neg (by rw [h0]; decide), if_neg (by omega), if_pos h0, if_pos h0]
  exact kdN hc hs _ _ f (by omega)
 rw [if_neg h0, if_neg h0]
 by_cases h1 : s.op = Oz.oSub
 ·
  have hl := har _ 2 h1 (by show (_ : Option Nat) = _; kernel_rfl)
  rw [if_neg (by rw [h1]; decide), if_neg (by omega), if_pos h1, if_pos h1]
  exact kdg hc hs _ f (by omega)
 rw [if_neg h1, if_neg h1]
 by_cases h2 : s.op = Oz.oMul
 ·
  have hl := har _ 2 h2 (by show (_ : Option Nat) = _; kernel_rfl)
  rw [if_neg (by rw [h2]; decide), if_neg (by omega), if_pos h2, if_pos h2]
  exact kdN hc hs _ _ f (by omega)
 rw [if_neg h2, if_neg h2]
 by_cases h3 : s.op = Oz.oMin ∨ s.op = Oz.oMax ∨ s.op = Oz.oAnd ∨ s.op = Oz.oOr ∨ s.op = Oz.oUnion ∨ s.op = Oz.oWithin
 ·
  have hl : s.args.length = 2 := by
   rcases h3 with h | h | h | h | h | h <;> exact har _ 2 h (by show (_ : Option Nat) = _; kernel_rfl)
  have hnn : s.op ≠ Oz.oNot := by rcases h3 with h | h | h | h | h | h <;> rw [h] <;> decide
  rw [if_neg hnn, if_neg (by omega), if_pos h3, if_pos h3]
  rw [kdg hc hs _ f (by omega)]
  by_cases he : Oz.arg s 0 = Oz.arg s 1
  ·
   rw [if_pos he, if_pos (decide_eq_true he)]
  ·
   rw [if_neg he, if_neg (by rw [decide_eq_false he]; decide)]
 rw [if_neg h3, if_neg h3]
 by_cases h4 : s.op = Oz.oCat
 ·
  have hl := har _ 2 h4 (by show (_ : Option Nat) = _; kernel_rfl)
  rw [if_neg (by rw [h4]; decide), if_neg (by omega), if_pos h4, if_pos h4]
  exact kdN hc hs _ _ f (by omega)
 rw [if_neg h4, if_neg h4]
 by_cases h5 : s.op = Oz.oRep
 ·
  have hl := har _ 2 h5 (by show (_ : Option Nat) = _; kernel_rfl)
  rw [if_neg (by rw [h5]; decide), if_neg (by omega), if_pos h5, if_pos h5]
  exact kdg hc hs _ f (by omega)
 rw [if_neg h5, if_neg h5]
 by_cases h6 : s.op = Oz.oCut
 ·
  have hl := har _ 3 h6 (by show (_ : Option Nat) = _; kernel_rfl)
  rw [if_neg (by rw [h6]; decide), if_neg (by omega), if_pos h6, if_pos h6]
  exact kdg hc hs _ f (by omega)
 rw [if_neg h6, if_neg h6]
 by_cases h7 : s.op = Oz.oNot
 ·
  have hl := har _ 1 h7 (by show (_ : Option Nat) = _; kernel_rfl)
  rw [if_pos h7, if_pos h7]
  obtain ⟨j, t, e, hji, ht, at0, _⟩ := kaO hc hs f (k := 0) (by omega)
  rw [e, at0]
  by_cases h8 : t.op = Oz.oNot
  ·
   rw [if_pos h8, if_pos h8]
   have ft := kaB hc ht (o := ⟨[2], 2, false, false⟩) (by rw [h8]; show (_ : Option OpI) = _; kernel_rfl)
   have hlt : t.args.length = 1 := ft.len
   obtain ⟨m, _, em, hmj, _, _, _⟩ := kaO hc ht ft (k := 0) (by omega)
   rw [em, Int.toNat_natCast, List.findSome?_cons, kbI (okB hc) (gH hs).1 (Nat.lt_trans hmj hji)]
   cases Oz.replaceR l i m <;> rfl
  ·
   rw [if_neg h8, if_neg h8]
   rfl
 rw [if_neg h7, if_neg h7]
 by_cases hl : s.args.length < 2
 ·
  rw [if_pos hl]; rfl
 ·
  rw [if_neg hl]; rfl
theorem kkw : Rf.negateL l i = Oz.negateR l i := by
 unfold Rf.negateL Oz.negateR Rf.onceL
 rw [kad hs]
 dsimp only
 by_cases hop : s.op = Oz.oNot
 ·
  have f := kaB hc hs (o := ⟨[2], 2, false, false⟩) (by rw [hop]; show (_ : Option OpI) = _; kernel_rfl)
  obtain ⟨j, t, e, hji, ht, at0, _⟩ := kaO hc hs f (k := 0) (by rw [f.len]; decide)
  rw [e, Int.toNat_natCast, at0]
  by_cases hu : (kag l).getD j 0 = 1
  ·
   rw [if_neg (by simp only [not_or, Classical.not_not]; exact ⟨hop, by rw [decide_eq_true hu]; decide⟩), if_neg (by simp only [not_or, Classical.not_not]; exact ⟨hop, hu⟩)]
   have hneg : Rf.negL t = Oz.negR t.op (Oz.arg t 0) (Oz.arg t 1) ∧ ∀ x, Rf.negL t = some x → ∀ a ∈ x.args, 0 ≤ a ∧ a < (i : Int) := by
    have hcm : (t.op = Oz.oEq ∨ t.op = Oz.oNe ∨ t.op = Oz.oLt ∨ t.op = Oz.oLe) → t.args.length = 2 := fun h => kae hc ht 2 (by rcases h with h | h | h | h <;> rw [h] <;> (show (_ : Option Nat) = _; kernel_rfl))
    have hbk : ∀ a ∈ t.args, 0 ≤ a ∧ a < (i : Int) := fun a ha => by have := okB hc j t ht a ha; omega
    have hbk2 : t.args.length = 2 → ∀ a ∈ [Oz.arg t 1, Oz.arg t 0], 0 ≤ a ∧ a < (i : Int) := fun h2 a ha => hbk a (by
     rw [keT h2]
     simp only [List.mem_cons, List.not_mem_nil, or_false] at ha ⊢
     rcases ha with h | h
     ·
      exact .inr h
     ·
      exact .inl h)
    unfold Rf.negL Oz.negR
    by_cases h0 : t.op = Oz.oEq
    ·
     rw [if_pos h0, if_pos h0, keT (hcm (.inl h0))]
     exact ⟨rfl, fun x hx a ha => by injection hx with hx; subst hx; exact hbk a (by rw [keT (hcm (.inl h0))]; exact ha)⟩
    rw [if_neg h0, if_neg h0]
    by_cases h1 : t.op = Oz.oNe
    ·
     rw [if_pos h1, if_pos h1, keT (hcm (.inr (.inl h1)))]
     exact ⟨rfl, fun x hx a ha => by injection hx with hx; subst hx; exact hbk a (by rw [keT (hcm (.inr (.inl h1)))]; exact ha)⟩
    rw [if_neg h1, if_neg h1]
    by_cases h2 : t.op = Oz.oLt
    ·
     rw [if_pos h2]
     exact ⟨rfl, fun x hx a ha => by injection hx with hx; subst hx; exact hbk2 (hcm (.inr (.inr (.inl h2)))) a ha⟩
    rw [if_neg h2]
    by_cases h3 : t.op = Oz.oLe
    ·
     rw [if_pos h3]
     exact ⟨rfl, fun x hx a ha => by injection hx with hx; subst hx; exact hbk2 (hcm (.inr (.inr (.inr h3)))) a ha⟩
    rw [if_neg h3]
    exact ⟨rfl, fun x hx => by cases hx⟩
   obtain ⟨h1, h2⟩ := hneg
   rw [← h1]
   cases hx : Rf.negL t with
   | none => rfl
   | some x =>
    rw [Option.map_some, Option.map_some, kdf (kcP (okB hc) (h2 x hx))]
  ·
   rw [if_pos (.inr (decide_eq_false hu)), if_pos (.inr hu)]
 ·
  rw [if_pos (.inl hop), if_pos (.inl hop)]
theorem kd2 {op below : List UInt8} {j : Nat} (hne : op = s.op → 0 < s.args.length) (h : Rf.overL l i op below = some j) : s.op = op ∧ ∃ t, l[j]? = some t ∧ t.op = below ∧ (kag l).getD j 0 = 1 ∧ j < i ∧ s.args[0]? = some (j : Int) := by
 rw [← kcF hc hs op below hne, kad hs] at h
 by_cases h0 : s.op = op
 ·
  rw [if_neg (by simpa using h0)] at h
  obtain ⟨o, f⟩ := (check_fit.1 hc).2.2 i s hs
  exact ⟨h0, kdo hc hs f (hne h0.symm) h⟩
 ·
  rw [if_pos h0] at h
  cases h
theorem ki4 : Rf.matchesL l i = Oz.matchesR l i := by
 have hne : Oz.oSize = s.op → 0 < s.args.length := fun h => by rw [kae hc hs 1 (by rw [← h]; show (_ : Option Nat) = _; kernel_rfl)]; decide
 have ho := kcF hc hs Oz.oSize Oz.oFind hne
 unfold Rf.matchesL Oz.matchesR
 cases hov : Rf.overL l i Oz.oSize Oz.oFind with
 | none =>
  rw [hov] at ho
  by_cases h0 : (Oz.at_ l i).op ≠ Oz.oSize
  ·
   rw [if_pos h0]
  ·
   rw [if_neg h0] at ho ⊢
   rw [ho]
 | some j =>
  obtain ⟨h0, t, ht, _, _, hji, _⟩ := kd2 hc hs hne hov
  rw [hov] at ho
  rw [kad hs] at ho ⊢
  rw [if_neg (by simpa using h0)] at ho ⊢
  rw [ho]
  dsimp only
  rw [← kb7 l i j (Oz.mk ka0 (Oz.at_ l j).args 0 (Oz.at_ l j).text 1), keG]
  exact kbI (kcP (okB hc) (by rw [kad ht]; exact okB hc j t ht)) (by rw [List.length_set]; exact (gH hs).1) hji
theorem kkI : Rf.lenCutL l i = Oz.lenCutR l i := by
 have hne : Oz.oLen = s.op → 0 < s.args.length := fun h => by rw [kae hc hs 1 (by rw [← h]; show (_ : Option Nat) = _; kernel_rfl)]; decide
 have ho := kcF hc hs Oz.oLen Oz.oCut hne
 unfold Rf.lenCutL Oz.lenCutR
 cases hov : Rf.overL l i Oz.oLen Oz.oCut with
 | none =>
  rw [hov] at ho
  by_cases h0 : (Oz.at_ l i).op ≠ Oz.oLen
  ·
   rw [if_pos h0]
  ·
   rw [if_neg h0] at ho ⊢
   rw [ho]
 | some j =>
  obtain ⟨h0, t, ht, _, _, hji, _⟩ := kd2 hc hs hne hov
  rw [hov] at ho
  rw [kad hs] at ho ⊢
  rw [if_neg (by simpa using h0)] at ho ⊢
  rw [ho]
  dsimp only
  rw [← kb7 l i j (Oz.mk kbf (Oz.at_ l j).args 0 [] 1), keG]
  exact kbI (kcP (okB hc) (by rw [kad ht]; exact okB hc j t ht)) (by rw [List.length_set]; exact (gH hs).1) hji
theorem khb : Rf.firstFindL l i = Oz.firstFindR l i := by
 have hne2 : Oz.oFirst = s.op → s.args.length = 2 := fun h => kae hc hs 2 (by rw [← h]; show (_ : Option Nat) = _; kernel_rfl)
 have hne : Oz.oFirst = s.op → 0 < s.args.length := fun h => by rw [hne2 h]; decide
 have ho := kcF hc hs Oz.oFirst Oz.oFind hne
 unfold Rf.firstFindL Oz.firstFindR
 cases hov : Rf.overL l i Oz.oFirst Oz.oFind with
 | none =>
  rw [hov] at ho
  by_cases h0 : (Oz.at_ l i).op ≠ Oz.oFirst
  ·
   rw [if_pos h0]
  ·
   rw [if_neg h0] at ho ⊢
   rw [ho]
 | some j =>
  obtain ⟨h0, t, ht, htop, _, hji, _⟩ := kd2 hc hs hne hov
  rw [hov] at ho
  rw [kad hs] at ho ⊢
  rw [if_neg (by simpa using h0)] at ho ⊢
  rw [ho]
  dsimp only
  have hlt : t.args.length = 1 := kae hc ht 1 (by rw [htop]; show (_ : Option Nat) = _; kernel_rfl)
  have hl2 := hne2 h0.symm
  rw [kad ht, kdf (kcP (okB hc) (fun a ha => by
   have ha : a ∈ [Oz.arg t 0, Oz.arg s 1] := ha
   simp only [List.mem_cons, List.not_mem_nil, or_false] at ha
   rcases ha with rfl | rfl
   ·
    have := okB hc j t ht (Oz.arg t 0) (kb5 (by omega)); omega
   ·
    exact okB hc i s hs (Oz.arg s 1) (kb5 (by omega))))]
theorem kkF : Rf.lenRepL l i = Oz.lenRepR l i := by
 have hne : Oz.oLen = s.op → 0 < s.args.length := fun h => by rw [kae hc hs 1 (by rw [← h]; show (_ : Option Nat) = _; kernel_rfl)]; decide
 have ho := kcF hc hs Oz.oLen Oz.oRep hne
 have hil := (gH hs).1
 unfold Rf.lenRepL Oz.lenRepR
 cases hov : Rf.overL l i Oz.oLen Oz.oRep with
 | none =>
  rw [hov] at ho
  by_cases h0 : (Oz.at_ l i).op ≠ Oz.oLen
  ·
   rw [if_pos h0]
  ·
   rw [if_neg h0] at ho ⊢
   rw [ho]
 | some j =>
  obtain ⟨h0, t, ht, htop, _, hji, _⟩ := kd2 hc hs hne hov
  rw [hov] at ho
  rw [kad hs] at ho ⊢
  rw [if_neg (by simpa using h0)] at ho ⊢
  rw [ho]
  dsimp only
  have hlt : t.args.length = 2 := kae hc ht 2 (by rw [htop]; show (_ : Option Nat) = _; kernel_rfl)
  rw [kad ht]
  by_cases h1 : (Oz.at_ l (Oz.arg t 1)).op ≠ kab
  ·
   rw [if_pos h1, if_pos (.inl h1)]
  ·
   have ha0 := okB hc j t ht (Oz.arg t 0) (kb5 (by omega))
   have ha1 := okB hc j t ht (Oz.arg t 1) (kb5 (by omega))
   have hj : j ≤ l.length := by omega
   rw [if_neg h1]
   have hb1 := kfB (x := Oz.lenOf (Oz.arg t 0)) (okB hc) hj (fun a ha => by
    have ha : a ∈ [Oz.arg t 0] := ha
    simp only [List.mem_cons, List.not_mem_nil, or_false] at ha
    rw [ha]; exact ha0)
   rw [kek (okB hc), kbI (kcP hb1 (fun a ha => by
    have ha : a ∈ [(j : Int), Oz.arg t 1] := ha
    simp only [List.mem_cons, List.not_mem_nil, or_false] at ha
    rcases ha with rfl | rfl <;> omega)) (by rw [List.length_set, kaQ]; omega) (by omega)]
   cases hcan : Oz.canR l i j with
   | false =>
    rw [if_pos (.inr rfl)]
    unfold Oz.replaceR
    rw [kb7, kcO l i j _ hj, hcan, if_pos rfl]
   | true => rw [if_neg (by simp only [not_or]; exact ⟨h1, by decide⟩)]
theorem kkC : Rf.lenSumL l i = Oz.lenSumR l i := by
 have hne : Oz.oLen = s.op → 0 < s.args.length := fun h => by rw [kae hc hs 1 (by rw [← h]; show (_ : Option Nat) = _; kernel_rfl)]; decide
 have ho := kcF hc hs Oz.oLen Oz.oCat hne
 have hil := (gH hs).1
 unfold Rf.lenSumL Oz.lenSumR
 cases hov : Rf.overL l i Oz.oLen Oz.oCat with
 | none =>
  rw [hov] at ho
  by_cases h0 : (Oz.at_ l i).op ≠ Oz.oLen ∨ 4096 ≤ l.length
  ·
   rw [if_pos h0]
  ·
   rw [if_neg h0]
   simp only [not_or] at h0
   rw [if_neg h0.1] at ho
   rw [ho]
 | some j =>
  obtain ⟨h0, t, ht, htop, _, hji, _⟩ := kd2 hc hs hne hov
  rw [hov] at ho
  rw [kad hs] at ho ⊢
  rw [if_neg (by simpa using h0)] at ho
  dsimp only
  by_cases hbig : 4096 ≤ l.length
  ·
   rw [if_pos hbig, if_pos (.inr hbig)]
  ·
   rw [if_neg hbig, if_neg (by simp only [not_or, Classical.not_not]; exact ⟨h0, hbig⟩), ho]
   dsimp only
   have hlt : t.args.length = 2 := kae hc ht 2 (by rw [htop]; show (_ : Option Nat) = _; kernel_rfl)
   rw [kad ht]
   have ha0 := okB hc j t ht (Oz.arg t 0) (kb5 (by omega))
   have ha1 := okB hc j t ht (Oz.arg t 1) (kb5 (by omega))
   have hj : j ≤ l.length := by omega
   have hb1 := kfB (x := Oz.lenOf (Oz.arg t 0)) (okB hc) hj (fun a ha => by
    have ha : a ∈ [Oz.arg t 0] := ha
    simp only [List.mem_cons, List.not_mem_nil, or_false] at ha
    rw [ha]; exact ha0)
   have hl1 : (Oz.insertR l j (Oz.lenOf (Oz.arg t 0))).length = l.length + 1 := kaQ _ _ _
   have hb2 := kfB (x := Oz.lenOf (Oz.arg t 1)) (j := j + 1) hb1 (by omega) (fun a ha => by
    have ha : a ∈ [Oz.arg t 1] := ha
    simp only [List.mem_cons, List.not_mem_nil, or_false] at ha
    rw [ha]; omega)
   rw [kek (okB hc), kek hb1, kbI (kcP hb2 (fun a ha => by
    have ha : a ∈ [(j : Int), (j : Int) + 1] := ha
    simp only [List.mem_cons, List.not_mem_nil, or_false] at ha
    rcases ha with rfl | rfl <;> omega)) (by rw [List.length_set, kaQ, kaQ]; omega) (by omega)]
   cases hcan : Oz.canR l i j with
   | false =>
    rw [if_pos rfl]
    unfold Oz.replaceR
    rw [kb7, kcO _ (i + 1) (j + 1) _ (by omega), kcO l i j _ hj, hcan, if_pos rfl]
   | true => rw [if_neg (by decide)]
theorem kjV : Rf.unusedL l i = Oz.unusedR l i := by
 have _ := hs
 unfold Rf.unusedL Oz.unusedR
 have hu : 0 ≤ (kag l).getD i 0 := by
  rw [keX (bd57 hc)]
  exact kbT (fun s : St => cnt (i : Int) s.args) l (fun x _ => kaC _ _)
 by_cases h0 : i + 1 = l.length
 ·
  rw [if_pos (.inl h0), if_pos (.inl h0)]
 by_cases h1 : Oz.safeR (Oz.at_ l i) = false
 ·
  rw [if_pos (.inr (.inl h1)), if_pos (.inr (.inr h1))]
 by_cases h2 : (kag l).getD i 0 = 0
 ·
  rw [if_neg (by simp only [not_or, Classical.not_not]; exact ⟨h0, h1, h2⟩), if_neg (by simp only [not_or]; exact ⟨h0, by omega, h1⟩), kdf (okB hc)]
 ·
  rw [if_pos (.inr (.inr h2)), if_pos (.inr (.inl (by omega)))]
end
end Go.Proofs.YtamhdmkolfmmdaaGreatDoor
