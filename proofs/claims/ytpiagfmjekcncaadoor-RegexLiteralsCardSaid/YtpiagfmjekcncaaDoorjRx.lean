/- Plain words of the regular expressions: the tree, letter sets, the parser. No program in sight. -/

set_option linter.unusedVariables false
set_option linter.unusedSimpArgs false
set_option linter.unusedSectionVars false
namespace Go.Proofs.YtpiagfmjekcncaaDoor
/-- A set of letters: which numbers are in it. -/
abbrev LS := Nat → Bool
/-- The word i of a set. -/
def wdN (S : LS) (i : Nat) : Nat → Nat
  | 0 => 0
  | n + 1 => wdN S i n + (if S (64 * i + n) then 2 ^ n else 0)
def wd (S : LS) (i : Nat) : Nat := wdN S i 64
/-- A regular expression: its kind, the words of its set, its bounds, its parts. -/
inductive Rx where
  | node (kind : Nat) (w0 w1 w2 w3 : Nat) (lo hi : Int) (parts : List Rx)
def Rx.plain (kind : Nat) (parts : List Rx) : Rx := .node kind 0 0 0 0 0 0 parts
def Rx.set (S : LS) : Rx := .node 2 (wd S 0) (wd S 1) (wd S 2) (wd S 3) 0 0 []
def Rx.rep (lo hi : Int) (r : Rx) : Rx := .node 5 0 0 0 0 lo hi [r]
def Rx.empty : Rx := Rx.plain 1 []
def oneS (b : Nat) : LS := fun n => n == b
def Rx.one (b : UInt8) : Rx := Rx.set (oneS b.toNat)
def notS (S : LS) : LS := fun n => !S n
def orS (S R : LS) : LS := fun n => S n || R n
def spanS (a b : Nat) : LS := fun n => decide (a ≤ n) && decide (n ≤ b)
def noneS : LS := fun _ => false
def dotS : LS := notS (oneS 10)
def Rx.seq : List Rx → Rx
  | [] => Rx.empty
  | [r] => r
  | l => Rx.plain 3 l
def Rx.alt : List Rx → Rx
  | [r] => r
  | l => Rx.plain 4 l
def punct (b : UInt8) : Bool := (33 ≤ b && b ≤ 47) || (58 ≤ b && b ≤ 64) || (91 ≤ b && b ≤ 96) || (123 ≤ b && b ≤ 126)
def specials : List UInt8 := [92, 46, 91, 93, 40, 41, 123, 125, 124, 42, 43, 63]
/-- A hexadecimal digit. -/
def hexd (b : UInt8) : Option Nat :=
  if 48 ≤ b ∧ b ≤ 57 then some (b.toNat - 48) else if 97 ≤ b ∧ b ≤ 102 then some (b.toNat - 87) else if 65 ≤ b ∧ b ≤ 70 then some (b.toNat - 55) else none
def digitP (T : List UInt8) (k : Nat) : Option (Nat × Nat) := match T[k]? with
  | none => none
  | some b => match hexd b with
    | none => none
    | some d => some (d, k + 1)
/-- What follows a backslash. -/
def escP (T : List UInt8) (k : Nat) : Option (UInt8 × Nat) := match T[k]? with
  | none => none
  | some b =>
    if b = 110 then some (10, k + 1)
    else if b = 116 then some (9, k + 1)
    else if b = 114 then some (13, k + 1)
    else if b = 120 then match digitP T (k + 1) with
      | none => none
      | some (h, k1) => match digitP T k1 with
        | none => none
        | some (l, k2) => some (UInt8.ofNat (16 * h + l), k2)
    else if punct b then some (b, k + 1) else none
/-- An element of a class at a place of a text: the letter and the number of its bytes. -/
def elemP (t : List UInt8) : Option (UInt8 × Nat) := match t with
  | [] => none
  | b :: t => if b = 93 ∨ b = 45 then none
    else if b ≠ 92 then some (b, 1)
    else match escP t 0 with
      | none => none
      | some (x, k) => some (x, k + 1)
/-- The inside of a class, from a place on. -/
def lsP : Nat → List UInt8 → LS → Option LS
  | 0, _, _ => none
  | f + 1, t, S => match t with
    | [] => some S
    | _ :: _ => match elemP t with
      | none => none
      | some (lo, u) => match t.drop u with
        | 45 :: t' => match elemP t' with
          | none => none
          | some (hi, u') => if hi < lo then none else lsP f (t'.drop u') (orS S (spanS lo.toNat hi.toNat))
        | t' => lsP f t' (orS S (spanS lo.toNat lo.toNat))
/-- The place behind the closing bracket. -/
def endP (T : List UInt8) : Nat → Nat → Option Nat
  | 0, _ => none
  | f + 1, k => match T[k]? with
    | none => none
    | some b => if b = 93 then some (k + 1) else if b = 92 then (match T[k + 1]? with
        | none => none
        | some _ => endP T f (k + 2))
      else endP T f (k + 1)
def classP (T : List UInt8) (k : Nat) : Option (LS × Nat) :=
  let from_ := if T[k]? = some 94 then k + 1 else k
  match endP T (T.length + 1) from_ with
  | none => none
  | some e => match lsP (e - 1 - from_ + 1) ((T.drop from_).take (e - 1 - from_)) noneS with
    | none => none
    | some S => some (if T[k]? = some 94 then notS S else S, e)
/-- A decimal number: its value and the place behind it, from a place and a value on; none above 64. -/
def numL (T : List UInt8) : Nat → Nat → Nat → Option (Nat × Nat)
  | 0, _, _ => none
  | f + 1, k, n => match T[k]? with
    | none => some (n, k)
    | some b => if 48 ≤ b ∧ b ≤ 57 then (if 64 < n * 10 + (b.toNat - 48) then none else numL T f (k + 1) (n * 10 + (b.toNat - 48))) else some (n, k)
def numP (T : List UInt8) (k : Nat) : Option (Nat × Nat) := match numL T (T.length + 1) k 0 with
  | none => none
  | some (n, e) => if e = k ∨ (T[k]? = some 48 ∧ k + 1 < e) then none else some (n, e)
/-- A counter: nothing is refused; an absent one; its bounds and the place behind it. -/
def cntP (T : List UInt8) (k : Nat) : Option (Option (Int × Int) × Nat) :=
  if T[k]? = some 42 then some (some (0, -1), k + 1)
  else if T[k]? = some 43 then some (some (1, -1), k + 1)
  else if T[k]? = some 63 then some (some (0, 1), k + 1)
  else if T[k]? = some 123 then match numP T (k + 1) with
    | none => none
    | some (lo, k1) =>
      if T[k1]? = some 44 then
        (if k1 + 1 < T.length ∧ T[k1 + 1]? ≠ some 125 then match numP T (k1 + 1) with
          | none => none
          | some (hi, k2) => if T[k2]? = some 125 ∧ lo ≤ hi then some (some ((lo : Int), (hi : Int)), k2 + 1) else none
        else if T[k1 + 1]? = some 125 then some (some ((lo : Int), -1), k1 + 2) else none)
      else if T[k1]? = some 125 then some (some ((lo : Int), (lo : Int)), k1 + 1) else none
  else some (none, k)
/-- A term without its counters; E reads what stands in parentheses. -/
def termP (T : List UInt8) (E : Nat → Option (Rx × Nat)) (k : Nat) : Option (Rx × Nat) := match T[k]? with
  | none => none
  | some b =>
    if b = 92 then match escP T (k + 1) with
      | none => none
      | some (x, k') => some (Rx.one x, k')
    else if b = 46 then some (Rx.set dotS, k + 1)
    else if b = 91 then match classP T (k + 1) with
      | none => none
      | some (S, k') => some (Rx.set S, k')
    else if b = 40 then match E (k + 1) with
      | none => none
      | some (r, k') => if T[k']? = some 41 then some (r, k' + 1) else none
    else if specials.contains b then none
    else some (Rx.one b, k + 1)
/-- The counters behind a term. -/
def cntsP (T : List UInt8) : Nat → Rx → Nat → Option (Rx × Nat)
  | 0, _, _ => none
  | f + 1, r, k => match cntP T k with
    | none => none
    | some (none, k') => some (r, k')
    | some (some (lo, hi), k') => cntsP T f (Rx.rep lo hi r) k'
def stopP (T : List UInt8) (k : Nat) : Bool := decide (T.length ≤ k) || T[k]? == some 124 || T[k]? == some 41
/-- The terms from a place on, behind those that were read. -/
def termsL (T : List UInt8) (E : Nat → Option (Rx × Nat)) : Nat → List Rx → Nat → Option (List Rx × Nat)
  | 0, _, _ => none
  | f + 1, l, k => if stopP T k then some (l, k) else match termP T E k with
    | none => none
    | some (r, k1) => match cntsP T (T.length + 1) r k1 with
      | none => none
      | some (r', k2) => termsL T E f (l ++ [r']) k2
def termsP (T : List UInt8) (E : Nat → Option (Rx × Nat)) (k : Nat) : Option (Rx × Nat) := match termsL T E (T.length + 1) [] k with
  | none => none
  | some (l, k') => some (Rx.seq l, k')
def barsL (T : List UInt8) (E : Nat → Option (Rx × Nat)) : Nat → List Rx → Nat → Option (List Rx × Nat)
  | 0, _, _ => none
  | f + 1, l, k => if T[k]? = some 124 then match termsP T E (k + 1) with
      | none => none
      | some (r, k') => barsL T E f (l ++ [r]) k'
    else some (l, k)
def exprN (T : List UInt8) : Nat → Nat → Option (Rx × Nat)
  | 0, _ => none
  | n + 1, k => match termsP T (exprN T n) k with
    | none => none
    | some (r, k1) => match barsL T (exprN T n) (T.length + 1) [r] k1 with
      | none => none
      | some (l, k2) => some (Rx.alt l, k2)
end Go.Proofs.YtpiagfmjekcncaaDoor
namespace Go.Proofs.YtpiagfmjekcncaaDoor
variable {T : List UInt8}
theorem at_lt {k : Nat} {b : UInt8} (h : T[k]? = some b) : k < T.length := by
  rcases Nat.lt_or_ge k T.length with h1 | h1
  · exact h1
  · rw [List.getElem?_eq_none h1] at h; cases h
theorem digitP_pos {k d k' : Nat} (h : digitP T k = some (d, k')) : k' = k + 1 ∧ k < T.length := by
  unfold digitP at h
  split at h
  · cases h
  · rename_i b hb
    split at h
    · cases h
    · injection h with h
      injection h with h1 h2
      exact ⟨h2.symm, at_lt hb⟩
theorem escP_pos {k k' : Nat} {x : UInt8} (h : escP T k = some (x, k')) : k < k' ∧ k' ≤ T.length := by
  unfold escP at h
  split at h
  · cases h
  rename_i b hb
  have hl := at_lt hb
  split at h
  · injection h with h; injection h with h1 h2; omega
  split at h
  · injection h with h; injection h with h1 h2; omega
  split at h
  · injection h with h; injection h with h1 h2; omega
  split at h
  · split at h
    · cases h
    rename_i h1 k1 e1
    split at h
    · cases h
    rename_i h2 k2 e2
    have := digitP_pos e1
    have := digitP_pos e2
    injection h with h; injection h with h1 h2; omega
  split at h
  · injection h with h; injection h with h1 h2; omega
  · cases h
theorem endP_pos : ∀ (f k e : Nat), endP T f k = some e → k < e ∧ e ≤ T.length
  | 0, _, _, h => by cases h
  | f + 1, k, e, h => by
    unfold endP at h
    split at h
    · cases h
    rename_i b hb
    have hl := at_lt hb
    split at h
    · injection h with h; omega
    split at h
    · split at h
      · cases h
      · have := endP_pos f _ _ h; omega
    · have := endP_pos f _ _ h; omega
theorem classP_pos {k k' : Nat} {S : LS} (h : classP T k = some (S, k')) : k < k' ∧ k' ≤ T.length := by
  unfold classP at h
  simp only at h
  split at h
  · cases h
  rename_i e he
  split at h
  · cases h
  injection h with h
  injection h with h1 h2
  have := endP_pos _ _ _ he
  split at this <;> omega
theorem numL_pos : ∀ (f k n m e : Nat), k ≤ T.length → numL T f k n = some (m, e) → k ≤ e ∧ e ≤ T.length
  | 0, _, _, _, _, _, h => by cases h
  | f + 1, k, n, m, e, hk, h => by
    unfold numL at h
    split at h
    · injection h with h; injection h with h1 h2; omega
    rename_i b hb
    have hl := at_lt hb
    split at h
    · split at h
      · cases h
      · have := numL_pos f _ _ _ _ (by omega) h; omega
    · injection h with h; injection h with h1 h2; omega
theorem numL_le : ∀ (f k n m e : Nat), n ≤ 64 → numL T f k n = some (m, e) → m ≤ 64
  | 0, _, _, _, _, _, h => by cases h
  | f + 1, k, n, m, e, hk, h => by
    unfold numL at h
    split at h
    · injection h with h; injection h with h1 h2; omega
    split at h
    · split at h
      · cases h
      · exact numL_le f _ _ _ _ (by omega) h
    · injection h with h; injection h with h1 h2; omega
theorem numP_pos {k n e : Nat} (hk : k ≤ T.length) (h : numP T k = some (n, e)) : k < e ∧ e ≤ T.length ∧ n ≤ 64 := by
  unfold numP at h
  split at h
  · cases h
  rename_i m e' he
  split at h
  · cases h
  rename_i hne
  injection h with h
  injection h with h1 h2
  subst h1 h2
  have h1 := numL_pos _ _ _ _ _ hk he
  have h2 := numL_le _ _ _ _ _ (by omega) he
  simp only [not_or] at hne
  omega
theorem cntP_pos {k k' : Nat} {c : Option (Int × Int)} (hk : k ≤ T.length) (h : cntP T k = some (c, k')) : k ≤ k' ∧ k' ≤ T.length ∧ (c ≠ none → k < k') := by
  unfold cntP at h
  split at h
  · rename_i hb; have := at_lt hb; injection h with h; injection h with h1 h2; omega
  split at h
  · rename_i hb; have := at_lt hb; injection h with h; injection h with h1 h2; omega
  split at h
  · rename_i hb; have := at_lt hb; injection h with h; injection h with h1 h2; omega
  split at h
  · rename_i hb
    have hl := at_lt hb
    split at h
    · cases h
    rename_i lo k1 e1
    have h1 := numP_pos (by omega) e1
    split at h
    · rename_i hb1
      have hl1 := at_lt hb1
      split at h
      · split at h
        · cases h
        rename_i hi k2 e2
        have h2 := numP_pos (by omega) e2
        split at h
        · rename_i hc
          have := at_lt hc.1
          injection h with h; injection h with h1 h2; omega
        · cases h
      split at h
      · rename_i hc
        have := at_lt hc
        injection h with h; injection h with h1 h2; omega
      · cases h
    split at h
    · rename_i hc
      have := at_lt hc
      injection h with h; injection h with h1 h2; omega
    · cases h
  · injection h with h; injection h with h1 h2
    exact ⟨by omega, by omega, fun hc => absurd h1.symm hc⟩
theorem termP_pos {E : Nat → Option (Rx × Nat)} {k k' : Nat} {r : Rx} (hE : ∀ k k' r, k ≤ T.length → E k = some (r, k') → k ≤ k' ∧ k' ≤ T.length) (h : termP T E k = some (r, k')) : k < k' ∧ k' ≤ T.length := by
  unfold termP at h
  split at h
  · cases h
  rename_i b hb
  have hl := at_lt hb
  split at h
  · split at h
    · cases h
    rename_i x k1 e1
    have := escP_pos e1
    injection h with h; injection h with h1 h2; omega
  split at h
  · injection h with h; injection h with h1 h2; omega
  split at h
  · split at h
    · cases h
    rename_i x k1 e1
    have := classP_pos e1
    injection h with h; injection h with h1 h2; omega
  split at h
  · split at h
    · cases h
    rename_i x k1 e1
    have := hE _ _ _ (by omega) e1
    split at h
    · rename_i hc
      have := at_lt hc
      injection h with h; injection h with h1 h2; omega
    · cases h
  split at h
  · cases h
  · injection h with h; injection h with h1 h2; omega
theorem cntsP_pos : ∀ (f k k' : Nat) (r r' : Rx), k ≤ T.length → cntsP T f r k = some (r', k') → k ≤ k' ∧ k' ≤ T.length
  | 0, _, _, _, _, _, h => by cases h
  | f + 1, k, k', r, r', hk, h => by
    unfold cntsP at h
    split at h
    · cases h
    · rename_i k1 e1
      have := cntP_pos hk e1
      injection h with h; injection h with h1 h2; omega
    · rename_i lo hi k1 e1
      have := cntP_pos hk e1
      have := cntsP_pos f _ _ _ _ (by omega) h
      omega
theorem termsL_pos {E : Nat → Option (Rx × Nat)} (hE : ∀ k k' r, k ≤ T.length → E k = some (r, k') → k ≤ k' ∧ k' ≤ T.length) : ∀ (f k k' : Nat) (l l' : List Rx), k ≤ T.length → termsL T E f l k = some (l', k') → k ≤ k' ∧ k' ≤ T.length
  | 0, _, _, _, _, _, h => by cases h
  | f + 1, k, k', l, l', hk, h => by
    unfold termsL at h
    split at h
    · injection h with h; injection h with h1 h2; omega
    split at h
    · cases h
    rename_i r1 k1 e1
    have h1 := termP_pos hE e1
    split at h
    · cases h
    rename_i r2 k2 e2
    have h2 := cntsP_pos _ _ _ _ _ (by omega) e2
    have := termsL_pos hE f _ _ _ _ (by omega) h
    omega
theorem termsP_pos {E : Nat → Option (Rx × Nat)} {k k' : Nat} {r : Rx} (hE : ∀ k k' r, k ≤ T.length → E k = some (r, k') → k ≤ k' ∧ k' ≤ T.length) (hk : k ≤ T.length) (h : termsP T E k = some (r, k')) : k ≤ k' ∧ k' ≤ T.length := by
  unfold termsP at h
  split at h
  · cases h
  rename_i l k1 e1
  have := termsL_pos hE _ _ _ _ _ hk e1
  injection h with h; injection h with h1 h2; omega
theorem barsL_pos {E : Nat → Option (Rx × Nat)} (hE : ∀ k k' r, k ≤ T.length → E k = some (r, k') → k ≤ k' ∧ k' ≤ T.length) : ∀ (f k k' : Nat) (l l' : List Rx), k ≤ T.length → barsL T E f l k = some (l', k') → k ≤ k' ∧ k' ≤ T.length
  | 0, _, _, _, _, _, h => by cases h
  | f + 1, k, k', l, l', hk, h => by
    unfold barsL at h
    split at h
    · rename_i hb
      have hl := at_lt hb
      split at h
      · cases h
      rename_i r1 k1 e1
      have h1 := termsP_pos hE (by omega) e1
      have := barsL_pos hE f _ _ _ _ (by omega) h
      omega
    · injection h with h; injection h with h1 h2; omega
theorem exprN_pos : ∀ (n k k' : Nat) (r : Rx), k ≤ T.length → exprN T n k = some (r, k') → k ≤ k' ∧ k' ≤ T.length
  | 0, _, _, _, _, h => by cases h
  | n + 1, k, k', r, hk, h => by
    have ih := exprN_pos n
    unfold exprN at h
    split at h
    · cases h
    rename_i r1 k1 e1
    have h1 := termsP_pos ih hk e1
    split at h
    · cases h
    rename_i l k2 e2
    have h2 := barsL_pos ih _ _ _ _ _ (by omega) e2
    injection h with h; injection h with h1 h2; omega
theorem numL_step {f k n : Nat} {b : UInt8} (hb : T[k]? = some b) : numL T (f + 1) k n = if 48 ≤ b ∧ b ≤ 57 then (if 64 < n * 10 + (b.toNat - 48) then none else numL T f (k + 1) (n * 10 + (b.toNat - 48))) else some (n, k) := by
  rw [numL, hb]
end Go.Proofs.YtpiagfmjekcncaaDoor
namespace Go.Proofs.YtpiagfmjekcncaaDoor
def copZ (lo hi : Int) : Nat := if hi = -1 then max lo.toNat 1 else hi.toNat
mutual
def Rx.size : Rx → Nat
  | .node _ _ _ _ _ _ _ ps => 1 + sizeL ps
def sizeL : List Rx → Nat
  | [] => 0
  | r :: rs => r.size + sizeL rs
end
mutual
def Rx.depth : Rx → Nat
  | .node _ _ _ _ _ _ _ ps => 1 + depthL ps
def depthL : List Rx → Nat
  | [] => 0
  | r :: rs => max r.depth (depthL rs)
end
def baseP (kind : Nat) : Nat := if kind = 2 then 1 else 0
def mulC (kind : Nat) (lo hi : Int) (n : Nat) : Nat := if kind = 5 then n * copZ lo hi else n
mutual
def Rx.pos : Rx → Nat
  | .node kind _ _ _ _ lo hi ps => mulC kind lo hi (baseP kind + posL ps)
def posL : List Rx → Nat
  | [] => 0
  | r :: rs => r.pos + posL rs
end
mutual
def Rx.wri : Rx → Nat
  | .node kind _ _ _ _ lo hi ps => mulC kind lo hi (wriL ps) + 1
def wriL : List Rx → Nat
  | [] => 0
  | r :: rs => r.wri + wriL rs
end
/-- What the measures answer: none is too great. -/
def Rx.fits (r : Rx) : Bool := decide (r.size ≤ 256) && decide (r.depth ≤ 32) && decide (r.pos ≤ 64) && decide (r.wri ≤ 4096)
mutual
/-- All bounds of counters are small, all kinds are known. -/
def Rx.tame : Rx → Prop
  | .node kind w0 w1 w2 w3 lo hi ps => kind ≤ 5 ∧ w0 < 2 ^ 64 ∧ w1 < 2 ^ 64 ∧ w2 < 2 ^ 64 ∧ w3 < 2 ^ 64 ∧ 0 ≤ lo ∧ lo ≤ 64 ∧ -1 ≤ hi ∧ hi ≤ 64 ∧ tameL ps
def tameL : List Rx → Prop
  | [] => True
  | r :: rs => r.tame ∧ tameL rs
end
theorem tameL_append : ∀ {l l' : List Rx}, tameL l → tameL l' → tameL (l ++ l')
  | [], _, _, h => h
  | r :: rs, l', h, h' => by
    unfold tameL at h
    rw [List.cons_append]
    unfold tameL
    exact ⟨h.1, tameL_append h.2 h'⟩
theorem tameL_get : ∀ {l : List Rx} {i : Nat} {r : Rx}, tameL l → l[i]? = some r → r.tame
  | [], i, r, _, hr => by simp at hr
  | r0 :: rs, i, r, h, hr => by
    unfold tameL at h
    cases i with
    | zero => simp only [List.getElem?_cons_zero, Option.some.injEq] at hr; subst hr; exact h.1
    | succ i => exact tameL_get h.2 (by simpa using hr)
theorem Rx.size_pos (r : Rx) : 1 ≤ r.size := by cases r; unfold Rx.size; omega
theorem Rx.depth_pos (r : Rx) : 1 ≤ r.depth := by cases r; unfold Rx.depth; omega
theorem sizeL_append : ∀ (l l' : List Rx), sizeL (l ++ l') = sizeL l + sizeL l'
  | [], _ => by simp [sizeL]
  | r :: rs, l' => by rw [List.cons_append, sizeL, sizeL, sizeL_append rs l']; omega
theorem sizeL_take (l : List Rx) (i : Nat) (r : Rx) (h : l[i]? = some r) : sizeL (l.take (i + 1)) = sizeL (l.take i) + r.size := by
  rw [List.take_add_one, h, sizeL_append]
  simp [sizeL]
theorem sizeL_le (l : List Rx) (i : Nat) : sizeL (l.take i) ≤ sizeL l := by
  conv => rhs; rw [← List.take_append_drop i l, sizeL_append]
  omega
theorem depthL_append : ∀ (l l' : List Rx), depthL (l ++ l') = max (depthL l) (depthL l')
  | [], _ => by simp [depthL]
  | r :: rs, l' => by rw [List.cons_append, depthL, depthL, depthL_append rs l']; omega
theorem depthL_get {l : List Rx} {i : Nat} {r : Rx} (h : l[i]? = some r) : r.depth ≤ depthL l := by
  have : l = l.take i ++ r :: l.drop (i + 1) := by
    obtain ⟨hi, rfl⟩ := List.getElem?_eq_some_iff.1 h
    rw [List.getElem_cons_drop, List.take_append_drop]
  rw [this, depthL_append, depthL]
  omega
theorem depthL_le {l : List Rx} {n : Nat} (h : ∀ (i : Nat) (r : Rx), l[i]? = some r → r.depth ≤ n) : depthL l ≤ n := by
  induction l with
  | nil => simp [depthL]
  | cons r rs ih =>
    rw [depthL]
    have h0 := h 0 r rfl
    have := ih fun i r' hr => h (i + 1) r' (by simpa using hr)
    omega
/-- The largest number that is kept. -/
def capM : Nat := 1048576
def Rx.posC (r : Rx) : Nat := min r.pos capM
def Rx.wriC (r : Rx) : Nat := min r.wri capM
def sumC (f : Rx → Nat) : List Rx → Nat
  | [] => 0
  | r :: rs => f r + sumC f rs
theorem sumC_append (f : Rx → Nat) : ∀ (l l' : List Rx), sumC f (l ++ l') = sumC f l + sumC f l'
  | [], _ => by simp [sumC]
  | r :: rs, l' => by rw [List.cons_append, sumC, sumC, sumC_append f rs l']; omega
theorem sumC_take (f : Rx → Nat) (l : List Rx) (i : Nat) (r : Rx) (h : l[i]? = some r) : sumC f (l.take (i + 1)) = sumC f (l.take i) + f r := by
  rw [List.take_add_one, h, sumC_append]
  simp [sumC]
theorem sumC_le (f : Rx → Nat) (M : Nat) (hf : ∀ r, f r ≤ M) : ∀ l : List Rx, sumC f l ≤ l.length * M
  | [] => by simp [sumC]
  | r :: rs => by rw [sumC, List.length_cons, Nat.add_mul]; have := hf r; have := sumC_le f M hf rs; omega
theorem min_mul_cap (a b c M : Nat) (h : min a M = min b M) : min (a * c) M = min (b * c) M := by
  rcases Nat.eq_zero_or_pos c with h0 | h0
  · subst h0; simp
  · by_cases ha : a < M
    · have : a = b := by omega
      rw [this]
    · have : M ≤ b := by omega
      have e1 : M ≤ a * c := Nat.le_trans (by omega) (Nat.le_mul_of_pos_right a h0)
      have e2 : M ≤ b * c := Nat.le_trans this (Nat.le_mul_of_pos_right b h0)
      omega
theorem mulC_cap {kind : Nat} {lo hi : Int} {a b M : Nat} (h : min a M = min b M) : min (mulC kind lo hi a) M = min (mulC kind lo hi b) M := by
  unfold mulC
  split
  · exact min_mul_cap _ _ _ _ h
  · exact h
theorem posL_cap (M : Nat) : ∀ l : List Rx, min (sumC (fun r => min r.pos M) l) M = min (posL l) M
  | [] => rfl
  | r :: rs => by rw [sumC, posL]; have := posL_cap M rs; omega
theorem wriL_cap (M : Nat) : ∀ l : List Rx, min (sumC (fun r => min r.wri M) l) M = min (wriL l) M
  | [] => rfl
  | r :: rs => by rw [sumC, wriL]; have := wriL_cap M rs; omega
theorem pos_node (kind w0 w1 w2 w3 : Nat) (lo hi : Int) (ps : List Rx) (M : Nat) : min (mulC kind lo hi (baseP kind + sumC (fun r => min r.pos M) ps)) M = min (Rx.pos (.node kind w0 w1 w2 w3 lo hi ps)) M := by
  rw [Rx.pos]
  apply mulC_cap
  have := posL_cap M ps
  omega
theorem wri_node (kind w0 w1 w2 w3 : Nat) (lo hi : Int) (ps : List Rx) (M : Nat) : min (mulC kind lo hi (sumC (fun r => min r.wri M) ps) + 1) M = min (Rx.wri (.node kind w0 w1 w2 w3 lo hi ps)) M := by
  rw [Rx.wri]
  have := mulC_cap (kind := kind) (lo := lo) (hi := hi) (wriL_cap M ps)
  omega
end Go.Proofs.YtpiagfmjekcncaaDoor
namespace Go.Proofs.YtpiagfmjekcncaaDoor
theorem wdN_lt (S : LS) (i : Nat) : ∀ n, wdN S i n < 2 ^ n
  | 0 => by simp [wdN]
  | n + 1 => by
    have := wdN_lt S i n
    rw [wdN, Nat.pow_succ]
    split <;> omega
theorem wdN_bit (S : LS) (i : Nat) : ∀ n j, (wdN S i n).testBit j = (decide (j < n) && S (64 * i + j))
  | 0, j => by simp [wdN]
  | n + 1, j => by
    have ih := wdN_bit S i n
    have hlt := wdN_lt S i n
    rw [wdN]
    by_cases hS : S (64 * i + n) = true
    · rw [if_pos hS, Nat.add_comm]
      rcases Nat.lt_trichotomy j n with h | h | h
      · rw [Nat.testBit_two_pow_add_gt h, ih]
        simp [h, Nat.lt_succ_of_lt h]
      · subst h
        rw [Nat.testBit_two_pow_add_eq, ih]
        simp [hS]
      · rw [Nat.testBit_lt_two_pow (Nat.lt_of_lt_of_le (by omega : 2 ^ n + wdN S i n < 2 ^ (n + 1)) (Nat.pow_le_pow_right (by omega) (by omega)))]
        simp
        omega
    · rw [if_neg hS, Nat.add_zero, ih]
      rcases Nat.lt_trichotomy j n with h | h | h
      · simp [h, Nat.lt_succ_of_lt h]
      · subst h
        simp [hS]
      · rw [decide_eq_false (by omega), decide_eq_false (by omega)]
theorem wd_lt (S : LS) (i : Nat) : wd S i < 2 ^ 64 := wdN_lt S i 64
theorem wd_bit (S : LS) (i j : Nat) : (wd S i).testBit j = (decide (j < 64) && S (64 * i + j)) := wdN_bit S i 64 j
theorem wd_ext {S : LS} {i x : Nat} (h : ∀ j, x.testBit j = (decide (j < 64) && S (64 * i + j))) : x = wd S i :=
  Nat.eq_of_testBit_eq fun j => by rw [h, wd_bit]
theorem wd_congr {S R : LS} {i : Nat} (h : ∀ j, j < 64 → S (64 * i + j) = R (64 * i + j)) : wd S i = wd R i :=
  wd_ext fun j => by
    rw [wd_bit]
    by_cases hj : j < 64
    · rw [h j hj]
    · simp [hj]
theorem wd_none (i : Nat) : wd noneS i = 0 := (wd_ext fun j => by simp [noneS]).symm
theorem wd_or (S R : LS) (i : Nat) : wd (orS S R) i = wd S i ||| wd R i := (wd_ext fun j => by rw [Nat.testBit_or, wd_bit, wd_bit]; cases decide (j < 64) <;> simp [orS]).symm
theorem wd_one_at (b : Nat) : wd (oneS b) (b / 64) = 2 ^ (b % 64) := (wd_ext fun j => by
  rw [Nat.testBit_two_pow]
  unfold oneS
  rw [Bool.eq_iff_iff]
  simp
  omega).symm
theorem wd_one_off {b i : Nat} (h : i ≠ b / 64) : wd (oneS b) i = 0 := (wd_ext fun j => by
  unfold oneS
  simp
  intro hj
  omega).symm
theorem wd_not (S : LS) (i : Nat) : wd (notS S) i = 2 ^ 64 - 1 - wd S i := (wd_ext fun j => by
  have := wd_lt S i
  rw [show 2 ^ 64 - 1 - wd S i = 2 ^ 64 - (wd S i + 1) by omega, Nat.testBit_two_pow_sub_succ this, wd_bit]
  unfold notS
  cases h : decide (j < 64) <;> simp).symm
/-- The four words of a set. -/
def wds (S : LS) : List Nat := [wd S 0, wd S 1, wd S 2, wd S 3]
theorem wds_get (S : LS) {i : Nat} (h : i < 4) : (wds S)[i]? = some (wd S i) := by
  match i, h with
  | 0, _ => rfl
  | 1, _ => rfl
  | 2, _ => rfl
  | 3, _ => rfl
theorem wds_set (S : LS) (b : Nat) (hb : b < 256) : wds (orS S (oneS b)) = (wds S).set (b / 64) (wd S (b / 64) ||| 2 ^ (b % 64)) := by
  have h : b / 64 < 4 := by omega
  have e := wd_one_at b
  have o := fun i (hi : i ≠ b / 64) => wd_one_off (b := b) hi
  unfold wds
  rw [wd_or, wd_or, wd_or, wd_or]
  generalize b / 64 = q at *
  match q, h with
  | 0, _ => rw [e, o 1 (by omega), o 2 (by omega), o 3 (by omega)]; simp
  | 1, _ => rw [e, o 0 (by omega), o 2 (by omega), o 3 (by omega)]; simp
  | 2, _ => rw [e, o 0 (by omega), o 1 (by omega), o 3 (by omega)]; simp
  | 3, _ => rw [e, o 0 (by omega), o 1 (by omega), o 2 (by omega)]; simp
theorem wds_congr {S R : LS} (h : ∀ n, n < 256 → S n = R n) : wds S = wds R := by
  unfold wds
  rw [wd_congr (S := S) (R := R) (i := 0) fun j hj => h _ (by omega), wd_congr (S := S) (R := R) (i := 1) fun j hj => h _ (by omega), wd_congr (S := S) (R := R) (i := 2) fun j hj => h _ (by omega), wd_congr (S := S) (R := R) (i := 3) fun j hj => h _ (by omega)]
theorem Rx.set_congr {S R : LS} (h : ∀ n, n < 256 → S n = R n) : Rx.set S = Rx.set R := by
  have := wds_congr h
  unfold wds at this
  injection this with h0 h1
  injection h1 with h1 h2
  injection h2 with h2 h3
  injection h3 with h3 h4
  unfold Rx.set
  rw [h0, h1, h2, h3]
theorem spanS_step (S : LS) {a b : Nat} (h : a ≤ b + 1) : ∀ n, orS (orS S (fun n => decide (a ≤ n) && decide (n < b + 1))) (oneS (b + 1)) n = orS S (fun n => decide (a ≤ n) && decide (n < b + 2)) n := by
  intro n
  unfold orS oneS
  cases S n
  · rw [Bool.eq_iff_iff]
    simp
    omega
  · simp
end Go.Proofs.YtpiagfmjekcncaaDoor
namespace Go.Proofs.YtpiagfmjekcncaaDoor
variable {T : List UInt8}
theorem Rx.tame_set (S : LS) : (Rx.set S).tame := by
  unfold Rx.set Rx.tame tameL
  exact ⟨by omega, wd_lt _ _, wd_lt _ _, wd_lt _ _, wd_lt _ _, by omega, by omega, by omega, by omega, trivial⟩
theorem Rx.tame_plain {kind : Nat} {l : List Rx} (hk : kind ≤ 5) (h : tameL l) : (Rx.plain kind l).tame := by
  unfold Rx.plain Rx.tame
  exact ⟨hk, by decide, by decide, by decide, by decide, by omega, by omega, by omega, by omega, h⟩
theorem Rx.tame_rep {lo hi : Int} {r : Rx} (h : r.tame) (h1 : 0 ≤ lo) (h2 : lo ≤ 64) (h3 : -1 ≤ hi) (h4 : hi ≤ 64) : (Rx.rep lo hi r).tame := by
  unfold Rx.rep Rx.tame tameL tameL
  exact ⟨by omega, by decide, by decide, by decide, by decide, h1, h2, h3, h4, h, trivial⟩
theorem Rx.tame_seq {l : List Rx} (h : tameL l) : (Rx.seq l).tame := by
  match l, h with
  | [], h => exact Rx.tame_plain (by omega) h
  | [r], h => unfold tameL at h; exact h.1
  | r :: q :: l, h => exact Rx.tame_plain (by omega) h
theorem Rx.tame_alt {l : List Rx} (h : tameL l) : (Rx.alt l).tame := by
  match l, h with
  | [], h => exact Rx.tame_plain (by omega) h
  | [r], h => unfold tameL at h; exact h.1
  | r :: q :: l, h => exact Rx.tame_plain (by omega) h
theorem cntP_tame {k k' : Nat} {lo hi : Int} (h : cntP T k = some (some (lo, hi), k')) : 0 ≤ lo ∧ lo ≤ 64 ∧ -1 ≤ hi ∧ hi ≤ 64 := by
  unfold cntP at h
  split at h
  · injection h with h; injection h with h1 h2; injection h1 with h1; injection h1 with h1 h3; omega
  split at h
  · injection h with h; injection h with h1 h2; injection h1 with h1; injection h1 with h1 h3; omega
  split at h
  · injection h with h; injection h with h1 h2; injection h1 with h1; injection h1 with h1 h3; omega
  split at h
  · rename_i hb
    have hl := at_lt hb
    split at h
    · cases h
    rename_i lo k1 e1
    have h1 := numP_pos (by omega) e1
    split at h
    · rename_i hb1
      have hl1 := at_lt hb1
      split at h
      · split at h
        · cases h
        rename_i hi k2 e2
        have h2 := numP_pos (by omega) e2
        split at h
        · injection h with h; injection h with h1 h2; injection h1 with h1; injection h1 with h1 h3; omega
        · cases h
      split at h
      · injection h with h; injection h with h1 h2; injection h1 with h1; injection h1 with h1 h3; omega
      · cases h
    split at h
    · injection h with h; injection h with h1 h2; injection h1 with h1; injection h1 with h1 h3; omega
    · cases h
  · injection h with h; injection h with h1 h2; cases h1
theorem termP_tame {E : Nat → Option (Rx × Nat)} {k k' : Nat} {r : Rx} (hE : ∀ k k' r, k ≤ T.length → E k = some (r, k') → r.tame) (h : termP T E k = some (r, k')) : r.tame := by
  unfold termP at h
  split at h
  · cases h
  rename_i b hb
  have hl := at_lt hb
  split at h
  · split at h
    · cases h
    injection h with h; injection h with h1 h2; subst h1; exact Rx.tame_set _
  split at h
  · injection h with h; injection h with h1 h2; subst h1; exact Rx.tame_set _
  split at h
  · split at h
    · cases h
    injection h with h; injection h with h1 h2; subst h1; exact Rx.tame_set _
  split at h
  · split at h
    · cases h
    rename_i x k1 e1
    have := hE _ _ _ (by omega) e1
    split at h
    · injection h with h; injection h with h1 h2; subst h1; exact this
    · cases h
  split at h
  · cases h
  · injection h with h; injection h with h1 h2; subst h1; exact Rx.tame_set _
theorem cntsP_tame : ∀ (f k k' : Nat) (r r' : Rx), k ≤ T.length → r.tame → cntsP T f r k = some (r', k') → r'.tame
  | 0, _, _, _, _, _, _, h => by cases h
  | f + 1, k, k', r, r', hk, hr, h => by
    unfold cntsP at h
    split at h
    · cases h
    · injection h with h; injection h with h1 h2; subst h1; exact hr
    · rename_i lo hi k1 e1
      have h1 := cntP_pos hk e1
      have h2 := cntP_tame e1
      exact cntsP_tame f _ _ _ _ (by omega) (Rx.tame_rep hr h2.1 h2.2.1 h2.2.2.1 h2.2.2.2) h
theorem termsL_tame {E : Nat → Option (Rx × Nat)} (hp : ∀ k k' r, k ≤ T.length → E k = some (r, k') → k ≤ k' ∧ k' ≤ T.length) (hE : ∀ k k' r, k ≤ T.length → E k = some (r, k') → r.tame) : ∀ (f k k' : Nat) (l l' : List Rx), k ≤ T.length → tameL l → termsL T E f l k = some (l', k') → tameL l'
  | 0, _, _, _, _, _, _, h => by cases h
  | f + 1, k, k', l, l', hk, hl, h => by
    unfold termsL at h
    split at h
    · injection h with h; injection h with h1 h2; subst h1; exact hl
    split at h
    · cases h
    rename_i r1 k1 e1
    have h1 := termP_pos hp e1
    have t1 := termP_tame hE e1
    split at h
    · cases h
    rename_i r2 k2 e2
    have h2 := cntsP_pos _ _ _ _ _ (by omega) e2
    have t2 := cntsP_tame _ _ _ _ _ (by omega) t1 e2
    exact termsL_tame hp hE f _ _ _ _ (by omega) (tameL_append hl (by unfold tameL tameL; exact ⟨t2, trivial⟩)) h
theorem termsP_tame {E : Nat → Option (Rx × Nat)} {k k' : Nat} {r : Rx} (hp : ∀ k k' r, k ≤ T.length → E k = some (r, k') → k ≤ k' ∧ k' ≤ T.length) (hE : ∀ k k' r, k ≤ T.length → E k = some (r, k') → r.tame) (hk : k ≤ T.length) (h : termsP T E k = some (r, k')) : r.tame := by
  unfold termsP at h
  split at h
  · cases h
  rename_i l k1 e1
  have := termsL_tame hp hE _ _ _ _ _ hk (by unfold tameL; trivial) e1
  injection h with h; injection h with h1 h2; subst h1; exact Rx.tame_seq this
theorem barsL_tame {E : Nat → Option (Rx × Nat)} (hp : ∀ k k' r, k ≤ T.length → E k = some (r, k') → k ≤ k' ∧ k' ≤ T.length) (hE : ∀ k k' r, k ≤ T.length → E k = some (r, k') → r.tame) : ∀ (f k k' : Nat) (l l' : List Rx), k ≤ T.length → tameL l → barsL T E f l k = some (l', k') → tameL l'
  | 0, _, _, _, _, _, _, h => by cases h
  | f + 1, k, k', l, l', hk, hl, h => by
    unfold barsL at h
    split at h
    · rename_i hb
      have hbl := at_lt hb
      split at h
      · cases h
      rename_i r1 k1 e1
      have h1 := termsP_pos hp (by omega) e1
      have t1 := termsP_tame hp hE (by omega) e1
      exact barsL_tame hp hE f _ _ _ _ (by omega) (tameL_append hl (by unfold tameL tameL; exact ⟨t1, trivial⟩)) h
    · injection h with h; injection h with h1 h2; subst h1; exact hl
theorem exprN_tame : ∀ (n k k' : Nat) (r : Rx), k ≤ T.length → exprN T n k = some (r, k') → r.tame
  | 0, _, _, _, _, h => by cases h
  | n + 1, k, k', r, hk, h => by
    have ih := exprN_tame n
    have hp := exprN_pos (T := T) n
    unfold exprN at h
    split at h
    · cases h
    rename_i r1 k1 e1
    have h1 := termsP_pos hp hk e1
    have t1 := termsP_tame hp ih hk e1
    split at h
    · cases h
    rename_i l k2 e2
    have t2 := barsL_tame hp ih _ _ _ _ _ (by omega) (by unfold tameL tameL; exact ⟨t1, trivial⟩) e2
    injection h with h; injection h with h1 h2; subst h1; exact Rx.tame_alt t2
/-- What a string denotes: the tree; an error's number, 2 for the form, else too large. -/
def brackets (T : List UInt8) : Nat := T.countP (· == 40)
def parseP (T : List UInt8) : Option Rx := match exprN T (T.length + 1) 0 with
  | some (r, k) => if k = T.length then some r else none
  | none => none
end Go.Proofs.YtpiagfmjekcncaaDoor
