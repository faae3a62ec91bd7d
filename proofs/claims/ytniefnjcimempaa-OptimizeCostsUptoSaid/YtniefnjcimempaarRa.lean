/- Plain words of the regular expressions: the tree, letter sets, the parser. No program in sight. Plain laws of the parser: where each part of it ends. A regular expression in memory; what is kept of a world whose blocks F alone may be written. No function of the program is named. Plain laws of the measures of a regular expression: its nodes, its depth, its positions, its written-out size. Plain laws of letter sets: the words of a set, bit by bit. Plain: what the parser makes is tame. -/
import Derived.Test.YtniefnjcimempaarMem
namespace Go.Proofs.Ytniefnjcimempaa
abbrev LS := Nat → Bool
def wdN (S : LS) (i : Nat) : Nat → Nat
  | 0 => 0
  | n + 1 => wdN S i n + (if S (64 * i + n) then 2 ^ n else 0)
def wd (S : LS) (i : Nat) : Nat := wdN S i 64
inductive Rx where
  | node (kind : Nat) (w0 w1 w2 w3 : Nat) (lo hi : Int) (parts : List Rx)
def Rx.plain (kind : Nat) (parts : List Rx) : Rx := .node kind 0 0 0 0 0 0 parts
def Rx.set (S : LS) : Rx := .node 2 (wd S 0) (wd S 1) (wd S 2) (wd S 3) 0 0 []
def Rx.rep (lo hi : Int) (r : Rx) : Rx := .node 5 0 0 0 0 lo hi [r]
def Rx.empty : Rx := Rx.plain 1 []
def oneS (b : Nat) : LS := fun n => n == b
def Rx.one (b : UInt8) : Rx := Rx.set (oneS b.toNat)
def notS (S : LS) : LS := fun n => !S n
def orS (S R : LS) : LS := fun n => S n || R n
def spanS (a b : Nat) : LS := fun n => decide (a ≤ n) && decide (n ≤ b)
def noneS : LS := fun _ => false
def dotS : LS := notS (oneS 10)
def Rx.seq : List Rx → Rx
  | [] => Rx.empty
  | [r] => r
  | l => Rx.plain 3 l
def Rx.alt : List Rx → Rx
  | [r] => r
  | l => Rx.plain 4 l
def punct (b : UInt8) : Bool := (33 ≤ b && b ≤ 47) || (58 ≤ b && b ≤ 64) || (91 ≤ b && b ≤ 96) || (123 ≤ b && b ≤ 126)
def specials : List UInt8 := [92, 46, 91, 93, 40, 41, 123, 125, 124, 42, 43, 63]
def hexd (b : UInt8) : Option Nat :=
  if 48 ≤ b ∧ b ≤ 57 then some (b.toNat - 48) else if 97 ≤ b ∧ b ≤ 102 then some (b.toNat - 87) else if 65 ≤ b ∧ b ≤ 70 then some (b.toNat - 55) else none
def digitP (T : List UInt8) (k : Nat) : Option (Nat × Nat) := match T[k]? with
  | none => none
  | some b => match hexd b with
    | none => none
    | some d => some (d, k + 1)
def escP (T : List UInt8) (k : Nat) : Option (UInt8 × Nat) := match T[k]? with
  | none => none
  | some b =>
    if b = 110 then some (10, k + 1)
    else if b = 116 then some (9, k + 1)
    else if b = 114 then some (13, k + 1)
    else if b = 120 then match digitP T (k + 1) with
      | none => none
      | some (h, k1) => match digitP T k1 with
        | none => none
        | some (l, k2) => some (UInt8.ofNat (16 * h + l), k2)
    else if punct b then some (b, k + 1) else none
def elemP (t : List UInt8) : Option (UInt8 × Nat) := match t with
  | [] => none
  | b :: t => if b = 93 ∨ b = 45 then none
    else if b ≠ 92 then some (b, 1)
    else match escP t 0 with
      | none => none
      | some (x, k) => some (x, k + 1)
def lsP : Nat → List UInt8 → LS → Option LS
  | 0, _, _ => none
  | f + 1, t, S => match t with
    | [] => some S
    | _ :: _ => match elemP t with
      | none => none
      | some (lo, u) => match t.drop u with
        | 45 :: t' => match elemP t' with
          | none => none
          | some (hi, u') => if hi < lo then none else lsP f (t'.drop u') (orS S (spanS lo.toNat hi.toNat))
        | t' => lsP f t' (orS S (spanS lo.toNat lo.toNat))
def endP (T : List UInt8) : Nat → Nat → Option Nat
  | 0, _ => none
  | f + 1, k => match T[k]? with
    | none => none
    | some b => if b = 93 then some (k + 1) else if b = 92 then (match T[k + 1]? with
        | none => none
        | some _ => endP T f (k + 2))
      else endP T f (k + 1)
def classP (T : List UInt8) (k : Nat) : Option (LS × Nat) :=
  let from_ := if T[k]? = some 94 then k + 1 else k
  match endP T (T.length + 1) from_ with
  | none => none
  | some e => match lsP (e - 1 - from_ + 1) ((T.drop from_).take (e - 1 - from_)) noneS with
    | none => none
    | some S => some (if T[k]? = some 94 then notS S else S, e)
def numL (T : List UInt8) : Nat → Nat → Nat → Option (Nat × Nat)
  | 0, _, _ => none
  | f + 1, k, n => match T[k]? with
    | none => some (n, k)
    | some b => if 48 ≤ b ∧ b ≤ 57 then (if 64 < n * 10 + (b.toNat - 48) then none else numL T f (k + 1) (n * 10 + (b.toNat - 48))) else some (n, k)
def numP (T : List UInt8) (k : Nat) : Option (Nat × Nat) := match numL T (T.length + 1) k 0 with
  | none => none
  | some (n, e) => if e = k ∨ (T[k]? = some 48 ∧ k + 1 < e) then none else some (n, e)
def cntP (T : List UInt8) (k : Nat) : Option (Option (Int × Int) × Nat) :=
  if T[k]? = some 42 then some (some (0, -1), k + 1)
  else if T[k]? = some 43 then some (some (1, -1), k + 1)
  else if T[k]? = some 63 then some (some (0, 1), k + 1)
  else if T[k]? = some 123 then match numP T (k + 1) with
    | none => none
    | some (lo, k1) =>
      if T[k1]? = some 44 then
        (if k1 + 1 < T.length ∧ T[k1 + 1]? ≠ some 125 then match numP T (k1 + 1) with
          | none => none
          | some (hi, k2) => if T[k2]? = some 125 ∧ lo ≤ hi then some (some ((lo : Int), (hi : Int)), k2 + 1) else none
        else if T[k1 + 1]? = some 125 then some (some ((lo : Int), -1), k1 + 2) else none)
      else if T[k1]? = some 125 then some (some ((lo : Int), (lo : Int)), k1 + 1) else none
  else some (none, k)
def termP (T : List UInt8) (E : Nat → Option (Rx × Nat)) (k : Nat) : Option (Rx × Nat) := match T[k]? with
  | none => none
  | some b =>
    if b = 92 then match escP T (k + 1) with
      | none => none
      | some (x, k') => some (Rx.one x, k')
    else if b = 46 then some (Rx.set dotS, k + 1)
    else if b = 91 then match classP T (k + 1) with
      | none => none
      | some (S, k') => some (Rx.set S, k')
    else if b = 40 then match E (k + 1) with
      | none => none
      | some (r, k') => if T[k']? = some 41 then some (r, k' + 1) else none
    else if specials.contains b then none
    else some (Rx.one b, k + 1)
def cntsP (T : List UInt8) : Nat → Rx → Nat → Option (Rx × Nat)
  | 0, _, _ => none
  | f + 1, r, k => match cntP T k with
    | none => none
    | some (none, k') => some (r, k')
    | some (some (lo, hi), k') => cntsP T f (Rx.rep lo hi r) k'
def stopP (T : List UInt8) (k : Nat) : Bool := decide (T.length ≤ k) || T[k]? == some 124 || T[k]? == some 41
def termsL (T : List UInt8) (E : Nat → Option (Rx × Nat)) : Nat → List Rx → Nat → Option (List Rx × Nat)
  | 0, _, _ => none
  | f + 1, l, k => if stopP T k then some (l, k) else match termP T E k with
    | none => none
    | some (r, k1) => match cntsP T (T.length + 1) r k1 with
      | none => none
      | some (r', k2) => termsL T E f (l ++ [r']) k2
def termsP (T : List UInt8) (E : Nat → Option (Rx × Nat)) (k : Nat) : Option (Rx × Nat) := match termsL T E (T.length + 1) [] k with
  | none => none
  | some (l, k') => some (Rx.seq l, k')
def barsL (T : List UInt8) (E : Nat → Option (Rx × Nat)) : Nat → List Rx → Nat → Option (List Rx × Nat)
  | 0, _, _ => none
  | f + 1, l, k => if T[k]? = some 124 then match termsP T E (k + 1) with
      | none => none
      | some (r, k') => barsL T E f (l ++ [r]) k'
    else some (l, k)
def exprN (T : List UInt8) : Nat → Nat → Option (Rx × Nat)
  | 0, _ => none
  | n + 1, k => match termsP T (exprN T n) k with
    | none => none
    | some (r, k1) => match barsL T (exprN T n) (T.length + 1) [r] k1 with
      | none => none
      | some (l, k2) => some (Rx.alt l, k2)
end Go.Proofs.Ytniefnjcimempaa
namespace Go.Proofs.Ytniefnjcimempaa
variable {T : List UInt8}
theorem at_lt {k : Nat} {b : UInt8} (h : T[k]? = some b) : k < T.length := by
  rcases Nat.lt_or_ge k T.length with h1 | h1
  · exact h1
  · rw [List.getElem?_eq_none h1] at h; cases h
theorem digitP_pos {k d k' : Nat} (h : digitP T k = some (d, k')) : k' = k + 1 ∧ k < T.length := by
  unfold digitP at h
  split at h
  · cases h
  · rename_i b hb
    split at h
    · cases h
    · injection h with h
      injection h with h1 h2
      exact ⟨h2.symm, at_lt hb⟩
theorem escP_pos {k k' : Nat} {x : UInt8} (h : escP T k = some (x, k')) : k < k' ∧ k' ≤ T.length := by
  unfold escP at h
  split at h
  · cases h
  rename_i b hb
  have hl := at_lt hb
  split at h
  · injection h with h; injection h with h1 h2; omega
  split at h
  · injection h with h; injection h with h1 h2; omega
  split at h
  · injection h with h; injection h with h1 h2; omega
  split at h
  · split at h
    · cases h
    rename_i h1 k1 e1
    split at h
    · cases h
    rename_i h2 k2 e2
    have := digitP_pos e1
    have := digitP_pos e2
    injection h with h; injection h with h1 h2; omega
  split at h
  · injection h with h; injection h with h1 h2; omega
  · cases h
theorem endP_pos : ∀ (f k e : Nat), endP T f k = some e → k < e ∧ e ≤ T.length
  | 0, _, _, h => by cases h
  | f + 1, k, e, h => by
    unfold endP at h
    split at h
    · cases h
    rename_i b hb
    have hl := at_lt hb
    split at h
    · injection h with h; omega
    split at h
    · split at h
      · cases h
      · have := endP_pos f _ _ h; omega
    · have := endP_pos f _ _ h; omega
theorem classP_pos {k k' : Nat} {S : LS} (h : classP T k = some (S, k')) : k < k' ∧ k' ≤ T.length := by
  unfold classP at h
  simp only at h
  split at h
  · cases h
  rename_i e he
  split at h
  · cases h
  injection h with h
  injection h with h1 h2
  have := endP_pos _ _ _ he
  split at this <;> omega
theorem numL_pos : ∀ (f k n m e : Nat), k ≤ T.length → numL T f k n = some (m, e) → k ≤ e ∧ e ≤ T.length
  | 0, _, _, _, _, _, h => by cases h
  | f + 1, k, n, m, e, hk, h => by
    unfold numL at h
    split at h
    · injection h with h; injection h with h1 h2; omega
    rename_i b hb
    have hl := at_lt hb
    split at h
    · split at h
      · cases h
      · have := numL_pos f _ _ _ _ (by omega) h; omega
    · injection h with h; injection h with h1 h2; omega
theorem numL_le : ∀ (f k n m e : Nat), n ≤ 64 → numL T f k n = some (m, e) → m ≤ 64
  | 0, _, _, _, _, _, h => by cases h
  | f + 1, k, n, m, e, hk, h => by
    unfold numL at h
    split at h
    · injection h with h; injection h with h1 h2; omega
    split at h
    · split at h
      · cases h
      · exact numL_le f _ _ _ _ (by omega) h
    · injection h with h; injection h with h1 h2; omega
theorem numP_pos {k n e : Nat} (hk : k ≤ T.length) (h : numP T k = some (n, e)) : k < e ∧ e ≤ T.length ∧ n ≤ 64 := by
  unfold numP at h
  split at h
  · cases h
  rename_i m e' he
  split at h
  · cases h
  rename_i hne
  injection h with h
  injection h with h1 h2
  subst h1 h2
  have h1 := numL_pos _ _ _ _ _ hk he
  have h2 := numL_le _ _ _ _ _ (by omega) he
  simp only [not_or] at hne
  omega
theorem cntP_pos {k k' : Nat} {c : Option (Int × Int)} (hk : k ≤ T.length) (h : cntP T k = some (c, k')) : k ≤ k' ∧ k' ≤ T.length ∧ (c ≠ none → k < k') := by
  unfold cntP at h
  split at h
  · rename_i hb; have := at_lt hb; injection h with h; injection h with h1 h2; omega
  split at h
  · rename_i hb; have := at_lt hb; injection h with h; injection h with h1 h2; omega
  split at h
  · rename_i hb; have := at_lt hb; injection h with h; injection h with h1 h2; omega
  split at h
  · rename_i hb
    have hl := at_lt hb
    split at h
    · cases h
    rename_i lo k1 e1
    have h1 := numP_pos (by omega) e1
    split at h
    · rename_i hb1
      have hl1 := at_lt hb1
      split at h
      · split at h
        · cases h
        rename_i hi k2 e2
        have h2 := numP_pos (by omega) e2
        split at h
        · rename_i hc
          have := at_lt hc.1
          injection h with h; injection h with h1 h2; omega
        · cases h
      split at h
      · rename_i hc
        have := at_lt hc
        injection h with h; injection h with h1 h2; omega
      · cases h
    split at h
    · rename_i hc
      have := at_lt hc
      injection h with h; injection h with h1 h2; omega
    · cases h
  · injection h with h; injection h with h1 h2
    exact ⟨by omega, by omega, fun hc => absurd h1.symm hc⟩
theorem termP_pos {E : Nat → Option (Rx × Nat)} {k k' : Nat} {r : Rx} (hE : ∀ k k' r, k ≤ T.length → E k = some (r, k') → k ≤ k' ∧ k' ≤ T.length) (h : termP T E k = some (r, k')) : k < k' ∧ k' ≤ T.length := by
  unfold termP at h
  split at h
  · cases h
  rename_i b hb
  have hl := at_lt hb
  split at h
  · split at h
    · cases h
    rename_i x k1 e1
    have := escP_pos e1
    injection h with h; injection h with h1 h2; omega
  split at h
  · injection h with h; injection h with h1 h2; omega
  split at h
  · split at h
    · cases h
    rename_i x k1 e1
    have := classP_pos e1
    injection h with h; injection h with h1 h2; omega
  split at h
  · split at h
    · cases h
    rename_i x k1 e1
    have := hE _ _ _ (by omega) e1
    split at h
    · rename_i hc
      have := at_lt hc
      injection h with h; injection h with h1 h2; omega
    · cases h
  split at h
  · cases h
  · injection h with h; injection h with h1 h2; omega
theorem cntsP_pos : ∀ (f k k' : Nat) (r r' : Rx), k ≤ T.length → cntsP T f r k = some (r', k') → k ≤ k' ∧ k' ≤ T.length
  | 0, _, _, _, _, _, h => by cases h
  | f + 1, k, k', r, r', hk, h => by
    unfold cntsP at h
    split at h
    · cases h
    · rename_i k1 e1
      have := cntP_pos hk e1
      injection h with h; injection h with h1 h2; omega
    · rename_i lo hi k1 e1
      have := cntP_pos hk e1
      have := cntsP_pos f _ _ _ _ (by omega) h
      omega
theorem termsL_pos {E : Nat → Option (Rx × Nat)} (hE : ∀ k k' r, k ≤ T.length → E k = some (r, k') → k ≤ k' ∧ k' ≤ T.length) : ∀ (f k k' : Nat) (l l' : List Rx), k ≤ T.length → termsL T E f l k = some (l', k') → k ≤ k' ∧ k' ≤ T.length
  | 0, _, _, _, _, _, h => by cases h
  | f + 1, k, k', l, l', hk, h => by
    unfold termsL at h
    split at h
    · injection h with h; injection h with h1 h2; omega
    split at h
    · cases h
    rename_i r1 k1 e1
    have h1 := termP_pos hE e1
    split at h
    · cases h
    rename_i r2 k2 e2
    have h2 := cntsP_pos _ _ _ _ _ (by omega) e2
    have := termsL_pos hE f _ _ _ _ (by omega) h
    omega
theorem termsP_pos {E : Nat → Option (Rx × Nat)} {k k' : Nat} {r : Rx} (hE : ∀ k k' r, k ≤ T.length → E k = some (r, k') → k ≤ k' ∧ k' ≤ T.length) (hk : k ≤ T.length) (h : termsP T E k = some (r, k')) : k ≤ k' ∧ k' ≤ T.length := by
  unfold termsP at h
  split at h
  · cases h
  rename_i l k1 e1
  have := termsL_pos hE _ _ _ _ _ hk e1
  injection h with h; injection h with h1 h2; omega
theorem barsL_pos {E : Nat → Option (Rx × Nat)} (hE : ∀ k k' r, k ≤ T.length → E k = some (r, k') → k ≤ k' ∧ k' ≤ T.length) : ∀ (f k k' : Nat) (l l' : List Rx), k ≤ T.length → barsL T E f l k = some (l', k') → k ≤ k' ∧ k' ≤ T.length
  | 0, _, _, _, _, _, h => by cases h
  | f + 1, k, k', l, l', hk, h => by
    unfold barsL at h
    split at h
    · rename_i hb
      have hl := at_lt hb
      split at h
      · cases h
      rename_i r1 k1 e1
      have h1 := termsP_pos hE (by omega) e1
      have := barsL_pos hE f _ _ _ _ (by omega) h
      omega
    · injection h with h; injection h with h1 h2; omega
theorem exprN_pos : ∀ (n k k' : Nat) (r : Rx), k ≤ T.length → exprN T n k = some (r, k') → k ≤ k' ∧ k' ≤ T.length
  | 0, _, _, _, _, h => by cases h
  | n + 1, k, k', r, hk, h => by
    have ih := exprN_pos n
    unfold exprN at h
    split at h
    · cases h
    rename_i r1 k1 e1
    have h1 := termsP_pos ih hk e1
    split at h
    · cases h
    rename_i l k2 e2
    have h2 := barsL_pos ih _ _ _ _ _ (by omega) e2
    injection h with h; injection h with h1 h2; omega
theorem numL_step {f k n : Nat} {b : UInt8} (hb : T[k]? = some b) : numL T (f + 1) k n = if 48 ≤ b ∧ b ≤ 57 then (if 64 < n * 10 + (b.toNat - 48) then none else numL T f (k + 1) (n * 10 + (b.toNat - 48))) else some (n, k) := by
  rw [numL, hb]
end Go.Proofs.Ytniefnjcimempaa
namespace Go.Proofs.Ytniefnjcimempaa
open Go.RowKit
structure Kept (F : Nat → Prop) (w w' : World) : Prop where
  os : w'.os = w.os
  tape : w'.tape = w.tape
  output : w'.output = w.output
  size : w.heap.size ≤ w'.heap.size
  block : ∀ i, i < w.heap.size → ¬ F i → w'.heap[i]? = w.heap[i]?
def Grow (F : Nat → Prop) (n : Nat) : Nat → Prop := fun i => F i ∨ n ≤ i
def isG (g : Nat) : Nat → Prop := fun i => i = g
theorem Kept.refl (F : Nat → Prop) (w : World) : Kept F w w := ⟨rfl, rfl, rfl, Nat.le_refl _, fun _ _ _ => rfl⟩
theorem Kept.trans {F : Nat → Prop} {a b c : World} (h : Kept F a b) (k : Kept (Grow F a.heap.size) b c) : Kept F a c :=
  ⟨k.os.trans h.os, k.tape.trans h.tape, k.output.trans h.output, Nat.le_trans h.size k.size, fun i hi hF =>
    (k.block i (Nat.lt_of_lt_of_le hi h.size) (by rintro (h1 | h1); exact hF h1; omega)).trans (h.block i hi hF)⟩
theorem Kept.mono {F G : Nat → Prop} {a b : World} (h : Kept F a b) (hFG : ∀ i, F i → G i) : Kept G a b :=
  ⟨h.os, h.tape, h.output, h.size, fun i hi hG => h.block i hi fun hF => hG (hFG i hF)⟩
theorem Kept.then_ {F : Nat → Prop} {a b c : World} (h : Kept F a b) (k : Kept F b c) : Kept F a c := h.trans (k.mono fun _ hi => .inl hi)
theorem Kept.of_grown {F : Nat → Prop} {a b : World} {row : Option Nat} (h : a.grownBy b row) (hF : ∀ g, row = some g → F g) : Kept F a b :=
  ⟨h.os, h.tape, h.output, h.size, fun i hi hne => h.block i hi fun e => hne (hF i e.symm)⟩
theorem Kept.of_below {F : Nat → Prop} {a b : World} (h : Below a.heap.size a b) : Kept F a b := Kept.of_grown (only_of_below h none) (fun _ e => by cases e)
theorem Kept.cell {F : Nat → Prop} {a b : World} (h : Kept F a b) {p : Addr} (hp : p.block < a.heap.size) (hF : ¬ F p.block) : b.cell? p = a.cell? p := World.cell?_of_block (h.block _ hp hF)
theorem Kept.below {F : Nat → Prop} {B : Nat} {a b c : World} (h : Kept F b c) (hb : Below B a b) (hB : B ≤ b.heap.size) (hF : ∀ i, F i → B ≤ i) : Below B a c :=
  ⟨h.os.trans hb.os, h.tape.trans hb.tape, h.output.trans hb.output, Nat.le_trans hb.size h.size, fun k hk => (h.block k (by omega) fun hf => by have := hF k hf; omega).trans (hb.block k hk)⟩
theorem Kept.setCell {F : Nat → Prop} {a b : World} (h : Kept F a b) {p : Addr} (hp : F p.block ∨ a.heap.size ≤ p.block) (u : Value) : Kept F a (b.setCell p u) :=
  h.trans ⟨rfl, rfl, rfl, by simp [World.setCell], fun i _ hF => Below.heap_setCell _ _ _ _ fun e => by subst e; exact hF hp⟩
theorem Kept.alloc {F : Nat → Prop} {a b : World} (h : Kept F a b) (o : Obj) : Kept F a (b.alloc o) :=
  h.trans ⟨rfl, rfl, rfl, by simp, fun i hi _ => Below.heap_alloc _ _ _ hi⟩
theorem Kept.drew {F : Nat → Prop} {a b : World} (h : Kept F a b) : Kept F a b.drew := ⟨h.os, h.tape, h.output, h.size, h.block⟩
theorem Kept.drewN {F : Nat → Prop} {a b : World} (h : Kept F a b) (n : Nat) : Kept F a (b.drewN n) := ⟨h.os, h.tape, h.output, h.size, h.block⟩
theorem Blk.kept {F : Nat → Prop} {w w' : World} {g : Nat} {t : TypeId} {cs : Array Value} (h : Blk w g t cs) (k : Kept F w w') (hg : ¬ F g) : Blk w' g t cs := (k.block g h.lt hg).trans h
def RdF (w : World) (F : Nat → Prop) (size : Nat) (A : Option Addr) (n : Nat) (xs : List Value) : Prop :=
  xs.length = n * size ∧ (0 < n → ∃ b o, A = some ⟨b, o, none⟩ ∧ F b ∧ b < w.heap.size ∧ ∀ j u, xs[j]? = some u → w.cell? ⟨b, o + j, none⟩ = some u)
theorem RdF.keep {w w' : World} {F G : Nat → Prop} {size n : Nat} {A : Option Addr} {xs : List Value} (h : RdF w F size A n xs) (hk : ∀ i, F i → i < w.heap.size → w'.heap[i]? = w.heap[i]?) (hs : w.heap.size ≤ w'.heap.size) (hG : ∀ i, F i → i < w.heap.size → G i) : RdF w' G size A n xs :=
  ⟨h.1, fun hn => by
    obtain ⟨b, o, e, hF, hb, hc⟩ := h.2 hn
    exact ⟨b, o, e, hG b hF hb, by omega, fun j u hu => (World.cell?_of_block (hk b hF hb)).trans (hc j u hu)⟩⟩
theorem RdF.reads {w : World} {F : Nat → Prop} {size n : Nat} {A : Option Addr} {xs : List Value} (h : RdF w F size A n xs) : Reads w w.heap.size size A n xs :=
  ⟨h.1, fun hn => by
    obtain ⟨b, o, e, _, hb, hc⟩ := h.2 hn
    exact ⟨_, e, hb, fun j u hu => by rw [addr_add]; exact hc j u hu⟩⟩
mutual
def RxV (w : World) (F : Nat → Prop) : Rx → List Value → Prop
  | .node kind w0 w1 w2 w3 lo hi parts, cs => ∃ A c css, cs = [.int .i64 kind, .int .u64 w0, .int .u64 w1, .int .u64 w2, .int .u64 w3, .int .i64 lo, .int .i64 hi, .slice A parts.length c] ∧
      RdF w F 8 A parts.length css ∧ RxVs w F parts css
def RxVs (w : World) (F : Nat → Prop) : List Rx → List Value → Prop
  | [], css => css = []
  | r :: rs, css => ∃ cs css', css = cs ++ css' ∧ RxV w F r cs ∧ RxVs w F rs css'
end
mutual
theorem RxV.keep {w w' : World} {F G : Nat → Prop} (hk : ∀ i, F i → i < w.heap.size → w'.heap[i]? = w.heap[i]?) (hs : w.heap.size ≤ w'.heap.size) (hG : ∀ i, F i → i < w.heap.size → G i) : ∀ (r : Rx) (cs : List Value), RxV w F r cs → RxV w' G r cs
  | .node _ _ _ _ _ _ _ parts, _, h => by
    unfold RxV at h ⊢
    obtain ⟨A, c, css, h1, h2, h3⟩ := h
    exact ⟨A, c, css, h1, h2.keep hk hs hG, RxVs.keep hk hs hG parts css h3⟩
theorem RxVs.keep {w w' : World} {F G : Nat → Prop} (hk : ∀ i, F i → i < w.heap.size → w'.heap[i]? = w.heap[i]?) (hs : w.heap.size ≤ w'.heap.size) (hG : ∀ i, F i → i < w.heap.size → G i) : ∀ (l : List Rx) (cs : List Value), RxVs w F l cs → RxVs w' G l cs
  | [], _, h => by unfold RxVs at h ⊢; exact h
  | r :: rs, _, h => by
    unfold RxVs at h ⊢
    obtain ⟨cs, css', h1, h2, h3⟩ := h
    exact ⟨cs, css', h1, RxV.keep hk hs hG r cs h2, RxVs.keep hk hs hG rs css' h3⟩
end
theorem RxV.len {w : World} {F : Nat → Prop} {r : Rx} {cs : List Value} (h : RxV w F r cs) : cs.length = 8 := by
  cases r
  unfold RxV at h
  obtain ⟨A, c, css, rfl, _⟩ := h
  rfl
theorem RxVs.len {w : World} {F : Nat → Prop} : ∀ {l : List Rx} {cs : List Value}, RxVs w F l cs → cs.length = l.length * 8
  | [], _, h => by unfold RxVs at h; subst h; rfl
  | r :: rs, _, h => by
    unfold RxVs at h
    obtain ⟨cs, css', rfl, h2, h3⟩ := h
    rw [List.length_append, h2.len, h3.len, List.length_cons]
    omega
theorem RxVs.append {w : World} {F : Nat → Prop} : ∀ {l l' : List Rx} {cs cs' : List Value}, RxVs w F l cs → RxVs w F l' cs' → RxVs w F (l ++ l') (cs ++ cs')
  | [], _, _, _, h, h' => by unfold RxVs at h; subst h; exact h'
  | r :: rs, _, _, _, h, h' => by
    unfold RxVs at h
    obtain ⟨cs, css', rfl, h2, h3⟩ := h
    rw [List.cons_append, List.append_assoc]
    unfold RxVs
    exact ⟨_, _, rfl, h2, h3.append h'⟩
theorem RxVs.one {w : World} {F : Nat → Prop} {r : Rx} {cs : List Value} (h : RxV w F r cs) : RxVs w F [r] cs := by
  unfold RxVs RxVs
  exact ⟨cs, [], by simp, h, rfl⟩
theorem RxVs.get {w : World} {F : Nat → Prop} : ∀ {l : List Rx} {css : List Value}, RxVs w F l css → ∀ (i : Nat) (r : Rx), l[i]? = some r → ∃ cs, RxV w F r cs ∧ ∀ j u, cs[j]? = some u → css[i * 8 + j]? = some u
  | [], _, _, i, r, hr => by simp at hr
  | r0 :: rs, _, h, i, r, hr => by
    unfold RxVs at h
    obtain ⟨cs, css', rfl, h2, h3⟩ := h
    cases i with
    | zero =>
      simp only [List.getElem?_cons_zero, Option.some.injEq] at hr
      subst hr
      exact ⟨cs, h2, fun j u hu => by
        have : j < cs.length := by
          rcases Nat.lt_or_ge j cs.length with h1 | h1
          · exact h1
          · rw [List.getElem?_eq_none h1] at hu; cases hu
        rw [Nat.zero_mul, Nat.zero_add, List.getElem?_append_left this]
        exact hu⟩
    | succ i =>
      simp only [List.getElem?_cons_succ] at hr
      obtain ⟨cs', h4, h5⟩ := h3.get i r hr
      exact ⟨cs', h4, fun j u hu => by
        rw [List.getElem?_append_right (by rw [h2.len]; omega), h2.len, show (i + 1) * 8 + j - 8 = i * 8 + j by omega]
        exact h5 j u hu⟩
end Go.Proofs.Ytniefnjcimempaa
namespace Go.Proofs.Ytniefnjcimempaa
def copZ (lo hi : Int) : Nat := if hi = -1 then max lo.toNat 1 else hi.toNat
mutual
def Rx.size : Rx → Nat
  | .node _ _ _ _ _ _ _ ps => 1 + sizeL ps
def sizeL : List Rx → Nat
  | [] => 0
  | r :: rs => r.size + sizeL rs
end
mutual
def Rx.depth : Rx → Nat
  | .node _ _ _ _ _ _ _ ps => 1 + depthL ps
def depthL : List Rx → Nat
  | [] => 0
  | r :: rs => max r.depth (depthL rs)
end
def baseP (kind : Nat) : Nat := if kind = 2 then 1 else 0
def mulC (kind : Nat) (lo hi : Int) (n : Nat) : Nat := if kind = 5 then n * copZ lo hi else n
mutual
def Rx.pos : Rx → Nat
  | .node kind _ _ _ _ lo hi ps => mulC kind lo hi (baseP kind + posL ps)
def posL : List Rx → Nat
  | [] => 0
  | r :: rs => r.pos + posL rs
end
mutual
def Rx.wri : Rx → Nat
  | .node kind _ _ _ _ lo hi ps => mulC kind lo hi (wriL ps) + 1
def wriL : List Rx → Nat
  | [] => 0
  | r :: rs => r.wri + wriL rs
end
def Rx.fits (r : Rx) : Bool := decide (r.size ≤ 256) && decide (r.depth ≤ 32) && decide (r.pos ≤ 64) && decide (r.wri ≤ 4096)
mutual
def Rx.tame : Rx → Prop
  | .node kind w0 w1 w2 w3 lo hi ps => kind ≤ 5 ∧ w0 < 2 ^ 64 ∧ w1 < 2 ^ 64 ∧ w2 < 2 ^ 64 ∧ w3 < 2 ^ 64 ∧ 0 ≤ lo ∧ lo ≤ 64 ∧ -1 ≤ hi ∧ hi ≤ 64 ∧ tameL ps
def tameL : List Rx → Prop
  | [] => True
  | r :: rs => r.tame ∧ tameL rs
end
theorem tameL_append : ∀ {l l' : List Rx}, tameL l → tameL l' → tameL (l ++ l')
  | [], _, _, h => h
  | r :: rs, l', h, h' => by
    unfold tameL at h
    rw [List.cons_append]
    unfold tameL
    exact ⟨h.1, tameL_append h.2 h'⟩
theorem tameL_get : ∀ {l : List Rx} {i : Nat} {r : Rx}, tameL l → l[i]? = some r → r.tame
  | [], i, r, _, hr => by simp at hr
  | r0 :: rs, i, r, h, hr => by
    unfold tameL at h
    cases i with
    | zero => simp only [List.getElem?_cons_zero, Option.some.injEq] at hr; subst hr; exact h.1
    | succ i => exact tameL_get h.2 (by simpa using hr)
theorem Rx.size_pos (r : Rx) : 1 ≤ r.size := by cases r; unfold Rx.size; omega
theorem sizeL_append : ∀ (l l' : List Rx), sizeL (l ++ l') = sizeL l + sizeL l'
  | [], _ => by simp [sizeL]
  | r :: rs, l' => by rw [List.cons_append, sizeL, sizeL, sizeL_append rs l']; omega
theorem sizeL_take (l : List Rx) (i : Nat) (r : Rx) (h : l[i]? = some r) : sizeL (l.take (i + 1)) = sizeL (l.take i) + r.size := by
  rw [List.take_add_one, h, sizeL_append]
  simp [sizeL]
theorem sizeL_le (l : List Rx) (i : Nat) : sizeL (l.take i) ≤ sizeL l := by
  conv => rhs; rw [← List.take_append_drop i l, sizeL_append]
  omega
theorem depthL_append : ∀ (l l' : List Rx), depthL (l ++ l') = max (depthL l) (depthL l')
  | [], _ => by simp [depthL]
  | r :: rs, l' => by rw [List.cons_append, depthL, depthL, depthL_append rs l']; omega
theorem depthL_get {l : List Rx} {i : Nat} {r : Rx} (h : l[i]? = some r) : r.depth ≤ depthL l := by
  have : l = l.take i ++ r :: l.drop (i + 1) := by
    obtain ⟨hi, rfl⟩ := List.getElem?_eq_some_iff.1 h
    rw [List.getElem_cons_drop, List.take_append_drop]
  rw [this, depthL_append, depthL]
  omega
theorem depthL_le {l : List Rx} {n : Nat} (h : ∀ (i : Nat) (r : Rx), l[i]? = some r → r.depth ≤ n) : depthL l ≤ n := by
  induction l with
  | nil => simp [depthL]
  | cons r rs ih =>
    rw [depthL]
    have h0 := h 0 r rfl
    have := ih fun i r' hr => h (i + 1) r' (by simpa using hr)
    omega
def capM : Nat := 1048576
def Rx.posC (r : Rx) : Nat := min r.pos capM
def Rx.wriC (r : Rx) : Nat := min r.wri capM
def sumC (f : Rx → Nat) : List Rx → Nat
  | [] => 0
  | r :: rs => f r + sumC f rs
theorem sumC_append (f : Rx → Nat) : ∀ (l l' : List Rx), sumC f (l ++ l') = sumC f l + sumC f l'
  | [], _ => by simp [sumC]
  | r :: rs, l' => by rw [List.cons_append, sumC, sumC, sumC_append f rs l']; omega
theorem sumC_take (f : Rx → Nat) (l : List Rx) (i : Nat) (r : Rx) (h : l[i]? = some r) : sumC f (l.take (i + 1)) = sumC f (l.take i) + f r := by
  rw [List.take_add_one, h, sumC_append]
  simp [sumC]
theorem sumC_le (f : Rx → Nat) (M : Nat) (hf : ∀ r, f r ≤ M) : ∀ l : List Rx, sumC f l ≤ l.length * M
  | [] => by simp [sumC]
  | r :: rs => by rw [sumC, List.length_cons, Nat.add_mul]; have := hf r; have := sumC_le f M hf rs; omega
theorem min_mul_cap (a b c M : Nat) (h : min a M = min b M) : min (a * c) M = min (b * c) M := by
  rcases Nat.eq_zero_or_pos c with h0 | h0
  · subst h0; simp
  · by_cases ha : a < M
    · have : a = b := by omega
      rw [this]
    · have : M ≤ b := by omega
      have e1 : M ≤ a * c := Nat.le_trans (by omega) (Nat.le_mul_of_pos_right a h0)
      have e2 : M ≤ b * c := Nat.le_trans this (Nat.le_mul_of_pos_right b h0)
      omega
theorem mulC_cap {kind : Nat} {lo hi : Int} {a b M : Nat} (h : min a M = min b M) : min (mulC kind lo hi a) M = min (mulC kind lo hi b) M := by
  unfold mulC
  split
  · exact min_mul_cap _ _ _ _ h
  · exact h
theorem posL_cap (M : Nat) : ∀ l : List Rx, min (sumC (fun r => min r.pos M) l) M = min (posL l) M
  | [] => rfl
  | r :: rs => by rw [sumC, posL]; have := posL_cap M rs; omega
theorem wriL_cap (M : Nat) : ∀ l : List Rx, min (sumC (fun r => min r.wri M) l) M = min (wriL l) M
  | [] => rfl
  | r :: rs => by rw [sumC, wriL]; have := wriL_cap M rs; omega
theorem pos_node (kind w0 w1 w2 w3 : Nat) (lo hi : Int) (ps : List Rx) (M : Nat) : min (mulC kind lo hi (baseP kind + sumC (fun r => min r.pos M) ps)) M = min (Rx.pos (.node kind w0 w1 w2 w3 lo hi ps)) M := by
  rw [Rx.pos]
  apply mulC_cap
  have := posL_cap M ps
  omega
theorem wri_node (kind w0 w1 w2 w3 : Nat) (lo hi : Int) (ps : List Rx) (M : Nat) : min (mulC kind lo hi (sumC (fun r => min r.wri M) ps) + 1) M = min (Rx.wri (.node kind w0 w1 w2 w3 lo hi ps)) M := by
  rw [Rx.wri]
  have := mulC_cap (kind := kind) (lo := lo) (hi := hi) (wriL_cap M ps)
  omega
end Go.Proofs.Ytniefnjcimempaa
namespace Go.Proofs.Ytniefnjcimempaa
theorem wdN_lt (S : LS) (i : Nat) : ∀ n, wdN S i n < 2 ^ n
  | 0 => by simp [wdN]
  | n + 1 => by
    have := wdN_lt S i n
    rw [wdN, Nat.pow_succ]
    split <;> omega
theorem wdN_bit (S : LS) (i : Nat) : ∀ n j, (wdN S i n).testBit j = (decide (j < n) && S (64 * i + j))
  | 0, j => by simp [wdN]
  | n + 1, j => by
    have ih := wdN_bit S i n
    have hlt := wdN_lt S i n
    rw [wdN]
    by_cases hS : S (64 * i + n) = true
    · rw [if_pos hS, Nat.add_comm]
      rcases Nat.lt_trichotomy j n with h | h | h
      · rw [Nat.testBit_two_pow_add_gt h, ih]
        simp [h, Nat.lt_succ_of_lt h]
      · subst h
        rw [Nat.testBit_two_pow_add_eq, ih]
        simp [hS]
      · rw [Nat.testBit_lt_two_pow (Nat.lt_of_lt_of_le (by omega : 2 ^ n + wdN S i n < 2 ^ (n + 1)) (Nat.pow_le_pow_right (by omega) (by omega)))]
        simp
        omega
    · rw [if_neg hS, Nat.add_zero, ih]
      rcases Nat.lt_trichotomy j n with h | h | h
      · simp [h, Nat.lt_succ_of_lt h]
      · subst h
        simp [hS]
      · rw [decide_eq_false (by omega), decide_eq_false (by omega)]
theorem wd_lt (S : LS) (i : Nat) : wd S i < 2 ^ 64 := wdN_lt S i 64
theorem wd_bit (S : LS) (i j : Nat) : (wd S i).testBit j = (decide (j < 64) && S (64 * i + j)) := wdN_bit S i 64 j
theorem wd_ext {S : LS} {i x : Nat} (h : ∀ j, x.testBit j = (decide (j < 64) && S (64 * i + j))) : x = wd S i :=
  Nat.eq_of_testBit_eq fun j => by rw [h, wd_bit]
theorem wd_congr {S R : LS} {i : Nat} (h : ∀ j, j < 64 → S (64 * i + j) = R (64 * i + j)) : wd S i = wd R i :=
  wd_ext fun j => by
    rw [wd_bit]
    by_cases hj : j < 64
    · rw [h j hj]
    · simp [hj]
theorem wd_none (i : Nat) : wd noneS i = 0 := (wd_ext fun j => by simp [noneS]).symm
theorem wd_or (S R : LS) (i : Nat) : wd (orS S R) i = wd S i ||| wd R i := (wd_ext fun j => by rw [Nat.testBit_or, wd_bit, wd_bit]; cases decide (j < 64) <;> simp [orS]).symm
theorem wd_one_at (b : Nat) : wd (oneS b) (b / 64) = 2 ^ (b % 64) := (wd_ext fun j => by
  rw [Nat.testBit_two_pow]
  unfold oneS
  rw [Bool.eq_iff_iff]
  simp
  omega).symm
theorem wd_one_off {b i : Nat} (h : i ≠ b / 64) : wd (oneS b) i = 0 := (wd_ext fun j => by
  unfold oneS
  simp
  intro hj
  omega).symm
theorem wd_not (S : LS) (i : Nat) : wd (notS S) i = 2 ^ 64 - 1 - wd S i := (wd_ext fun j => by
  have := wd_lt S i
  rw [show 2 ^ 64 - 1 - wd S i = 2 ^ 64 - (wd S i + 1) by omega, Nat.testBit_two_pow_sub_succ this, wd_bit]
  unfold notS
  cases h : decide (j < 64) <;> simp).symm
def wds (S : LS) : List Nat := [wd S 0, wd S 1, wd S 2, wd S 3]
theorem wds_get (S : LS) {i : Nat} (h : i < 4) : (wds S)[i]? = some (wd S i) := by
  match i, h with
  | 0, _ => rfl
  | 1, _ => rfl
  | 2, _ => rfl
  | 3, _ => rfl
theorem wds_set (S : LS) (b : Nat) (hb : b < 256) : wds (orS S (oneS b)) = (wds S).set (b / 64) (wd S (b / 64) ||| 2 ^ (b % 64)) := by
  have h : b / 64 < 4 := by omega
  have e := wd_one_at b
  have o := fun i (hi : i ≠ b / 64) => wd_one_off (b := b) hi
  unfold wds
  rw [wd_or, wd_or, wd_or, wd_or]
  generalize b / 64 = q at *
  match q, h with
  | 0, _ => rw [e, o 1 (by omega), o 2 (by omega), o 3 (by omega)]; simp
  | 1, _ => rw [e, o 0 (by omega), o 2 (by omega), o 3 (by omega)]; simp
  | 2, _ => rw [e, o 0 (by omega), o 1 (by omega), o 3 (by omega)]; simp
  | 3, _ => rw [e, o 0 (by omega), o 1 (by omega), o 2 (by omega)]; simp
theorem wds_congr {S R : LS} (h : ∀ n, n < 256 → S n = R n) : wds S = wds R := by
  unfold wds
  rw [wd_congr (S := S) (R := R) (i := 0) fun j hj => h _ (by omega), wd_congr (S := S) (R := R) (i := 1) fun j hj => h _ (by omega), wd_congr (S := S) (R := R) (i := 2) fun j hj => h _ (by omega), wd_congr (S := S) (R := R) (i := 3) fun j hj => h _ (by omega)]
end Go.Proofs.Ytniefnjcimempaa
namespace Go.Proofs.Ytniefnjcimempaa
variable {T : List UInt8}
theorem Rx.tame_set (S : LS) : (Rx.set S).tame := by
  unfold Rx.set Rx.tame tameL
  exact ⟨by omega, wd_lt _ _, wd_lt _ _, wd_lt _ _, wd_lt _ _, by omega, by omega, by omega, by omega, trivial⟩
theorem Rx.tame_plain {kind : Nat} {l : List Rx} (hk : kind ≤ 5) (h : tameL l) : (Rx.plain kind l).tame := by
  unfold Rx.plain Rx.tame
  exact ⟨hk, by decide, by decide, by decide, by decide, by omega, by omega, by omega, by omega, h⟩
theorem Rx.tame_rep {lo hi : Int} {r : Rx} (h : r.tame) (h1 : 0 ≤ lo) (h2 : lo ≤ 64) (h3 : -1 ≤ hi) (h4 : hi ≤ 64) : (Rx.rep lo hi r).tame := by
  unfold Rx.rep Rx.tame tameL tameL
  exact ⟨by omega, by decide, by decide, by decide, by decide, h1, h2, h3, h4, h, trivial⟩
theorem Rx.tame_seq {l : List Rx} (h : tameL l) : (Rx.seq l).tame := by
  match l, h with
  | [], h => exact Rx.tame_plain (by omega) h
  | [r], h => unfold tameL at h; exact h.1
  | r :: q :: l, h => exact Rx.tame_plain (by omega) h
theorem Rx.tame_alt {l : List Rx} (h : tameL l) : (Rx.alt l).tame := by
  match l, h with
  | [], h => exact Rx.tame_plain (by omega) h
  | [r], h => unfold tameL at h; exact h.1
  | r :: q :: l, h => exact Rx.tame_plain (by omega) h
theorem cntP_tame {k k' : Nat} {lo hi : Int} (h : cntP T k = some (some (lo, hi), k')) : 0 ≤ lo ∧ lo ≤ 64 ∧ -1 ≤ hi ∧ hi ≤ 64 := by
  unfold cntP at h
  split at h
  · injection h with h; injection h with h1 h2; injection h1 with h1; injection h1 with h1 h3; omega
  split at h
  · injection h with h; injection h with h1 h2; injection h1 with h1; injection h1 with h1 h3; omega
  split at h
  · injection h with h; injection h with h1 h2; injection h1 with h1; injection h1 with h1 h3; omega
  split at h
  · rename_i hb
    have hl := at_lt hb
    split at h
    · cases h
    rename_i lo k1 e1
    have h1 := numP_pos (by omega) e1
    split at h
    · rename_i hb1
      have hl1 := at_lt hb1
      split at h
      · split at h
        · cases h
        rename_i hi k2 e2
        have h2 := numP_pos (by omega) e2
        split at h
        · injection h with h; injection h with h1 h2; injection h1 with h1; injection h1 with h1 h3; omega
        · cases h
      split at h
      · injection h with h; injection h with h1 h2; injection h1 with h1; injection h1 with h1 h3; omega
      · cases h
    split at h
    · injection h with h; injection h with h1 h2; injection h1 with h1; injection h1 with h1 h3; omega
    · cases h
  · injection h with h; injection h with h1 h2; cases h1
theorem termP_tame {E : Nat → Option (Rx × Nat)} {k k' : Nat} {r : Rx} (hE : ∀ k k' r, k ≤ T.length → E k = some (r, k') → r.tame) (h : termP T E k = some (r, k')) : r.tame := by
  unfold termP at h
  split at h
  · cases h
  rename_i b hb
  have hl := at_lt hb
  split at h
  · split at h
    · cases h
    injection h with h; injection h with h1 h2; subst h1; exact Rx.tame_set _
  split at h
  · injection h with h; injection h with h1 h2; subst h1; exact Rx.tame_set _
  split at h
  · split at h
    · cases h
    injection h with h; injection h with h1 h2; subst h1; exact Rx.tame_set _
  split at h
  · split at h
    · cases h
    rename_i x k1 e1
    have := hE _ _ _ (by omega) e1
    split at h
    · injection h with h; injection h with h1 h2; subst h1; exact this
    · cases h
  split at h
  · cases h
  · injection h with h; injection h with h1 h2; subst h1; exact Rx.tame_set _
theorem cntsP_tame : ∀ (f k k' : Nat) (r r' : Rx), k ≤ T.length → r.tame → cntsP T f r k = some (r', k') → r'.tame
  | 0, _, _, _, _, _, _, h => by cases h
  | f + 1, k, k', r, r', hk, hr, h => by
    unfold cntsP at h
    split at h
    · cases h
    · injection h with h; injection h with h1 h2; subst h1; exact hr
    · rename_i lo hi k1 e1
      have h1 := cntP_pos hk e1
      have h2 := cntP_tame e1
      exact cntsP_tame f _ _ _ _ (by omega) (Rx.tame_rep hr h2.1 h2.2.1 h2.2.2.1 h2.2.2.2) h
theorem termsL_tame {E : Nat → Option (Rx × Nat)} (hp : ∀ k k' r, k ≤ T.length → E k = some (r, k') → k ≤ k' ∧ k' ≤ T.length) (hE : ∀ k k' r, k ≤ T.length → E k = some (r, k') → r.tame) : ∀ (f k k' : Nat) (l l' : List Rx), k ≤ T.length → tameL l → termsL T E f l k = some (l', k') → tameL l'
  | 0, _, _, _, _, _, _, h => by cases h
  | f + 1, k, k', l, l', hk, hl, h => by
    unfold termsL at h
    split at h
    · injection h with h; injection h with h1 h2; subst h1; exact hl
    split at h
    · cases h
    rename_i r1 k1 e1
    have h1 := termP_pos hp e1
    have t1 := termP_tame hE e1
    split at h
    · cases h
    rename_i r2 k2 e2
    have h2 := cntsP_pos _ _ _ _ _ (by omega) e2
    have t2 := cntsP_tame _ _ _ _ _ (by omega) t1 e2
    exact termsL_tame hp hE f _ _ _ _ (by omega) (tameL_append hl (by unfold tameL tameL; exact ⟨t2, trivial⟩)) h
theorem termsP_tame {E : Nat → Option (Rx × Nat)} {k k' : Nat} {r : Rx} (hp : ∀ k k' r, k ≤ T.length → E k = some (r, k') → k ≤ k' ∧ k' ≤ T.length) (hE : ∀ k k' r, k ≤ T.length → E k = some (r, k') → r.tame) (hk : k ≤ T.length) (h : termsP T E k = some (r, k')) : r.tame := by
  unfold termsP at h
  split at h
  · cases h
  rename_i l k1 e1
  have := termsL_tame hp hE _ _ _ _ _ hk (by unfold tameL; trivial) e1
  injection h with h; injection h with h1 h2; subst h1; exact Rx.tame_seq this
theorem barsL_tame {E : Nat → Option (Rx × Nat)} (hp : ∀ k k' r, k ≤ T.length → E k = some (r, k') → k ≤ k' ∧ k' ≤ T.length) (hE : ∀ k k' r, k ≤ T.length → E k = some (r, k') → r.tame) : ∀ (f k k' : Nat) (l l' : List Rx), k ≤ T.length → tameL l → barsL T E f l k = some (l', k') → tameL l'
  | 0, _, _, _, _, _, _, h => by cases h
  | f + 1, k, k', l, l', hk, hl, h => by
    unfold barsL at h
    split at h
    · rename_i hb
      have hbl := at_lt hb
      split at h
      · cases h
      rename_i r1 k1 e1
      have h1 := termsP_pos hp (by omega) e1
      have t1 := termsP_tame hp hE (by omega) e1
      exact barsL_tame hp hE f _ _ _ _ (by omega) (tameL_append hl (by unfold tameL tameL; exact ⟨t1, trivial⟩)) h
    · injection h with h; injection h with h1 h2; subst h1; exact hl
theorem exprN_tame : ∀ (n k k' : Nat) (r : Rx), k ≤ T.length → exprN T n k = some (r, k') → r.tame
  | 0, _, _, _, _, h => by cases h
  | n + 1, k, k', r, hk, h => by
    have ih := exprN_tame n
    have hp := exprN_pos (T := T) n
    unfold exprN at h
    split at h
    · cases h
    rename_i r1 k1 e1
    have h1 := termsP_pos hp hk e1
    have t1 := termsP_tame hp ih hk e1
    split at h
    · cases h
    rename_i l k2 e2
    have t2 := barsL_tame hp ih _ _ _ _ _ (by omega) (by unfold tameL tameL; exact ⟨t1, trivial⟩) e2
    injection h with h; injection h with h1 h2; subst h1; exact Rx.tame_alt t2
def parseP (T : List UInt8) : Option Rx := match exprN T (T.length + 1) 0 with
  | some (r, k) => if k = T.length then some r else none
  | none => none
end Go.Proofs.Ytniefnjcimempaa
