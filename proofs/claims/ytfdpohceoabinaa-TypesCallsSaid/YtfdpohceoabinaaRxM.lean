/- Plain laws of the measures of a regular expression: its nodes, its depth, its positions, its written-out size. -/
import Derived.Test.YtfdpohceoabinaaRx
namespace Go.Proofs.Ytfdpohceoabinaa
def copZ (lo hi : Int) : Nat := if hi = -1 then max lo.toNat 1 else hi.toNat
mutual
def Rx.size : Rx → Nat
  | .node _ _ _ _ _ _ _ ps => 1 + sizeL ps
def sizeL : List Rx → Nat
  | [] => 0
  | r :: rs => r.size + sizeL rs
end
mutual
def Rx.depth : Rx → Nat
  | .node _ _ _ _ _ _ _ ps => 1 + depthL ps
def depthL : List Rx → Nat
  | [] => 0
  | r :: rs => max r.depth (depthL rs)
end
def baseP (kind : Nat) : Nat := if kind = 2 then 1 else 0
def mulC (kind : Nat) (lo hi : Int) (n : Nat) : Nat := if kind = 5 then n * copZ lo hi else n
mutual
def Rx.pos : Rx → Nat
  | .node kind _ _ _ _ lo hi ps => mulC kind lo hi (baseP kind + posL ps)
def posL : List Rx → Nat
  | [] => 0
  | r :: rs => r.pos + posL rs
end
mutual
def Rx.wri : Rx → Nat
  | .node kind _ _ _ _ lo hi ps => mulC kind lo hi (wriL ps) + 1
def wriL : List Rx → Nat
  | [] => 0
  | r :: rs => r.wri + wriL rs
end
/-- What the measures answer: none is too great. -/
def Rx.fits (r : Rx) : Bool := decide (r.size ≤ 256) && decide (r.depth ≤ 32) && decide (r.pos ≤ 64) && decide (r.wri ≤ 4096)
mutual
/-- All bounds of counters are small, all kinds are known. -/
def Rx.tame : Rx → Prop
  | .node kind w0 w1 w2 w3 lo hi ps => kind ≤ 5 ∧ w0 < 2 ^ 64 ∧ w1 < 2 ^ 64 ∧ w2 < 2 ^ 64 ∧ w3 < 2 ^ 64 ∧ 0 ≤ lo ∧ lo ≤ 64 ∧ -1 ≤ hi ∧ hi ≤ 64 ∧ tameL ps
def tameL : List Rx → Prop
  | [] => True
  | r :: rs => r.tame ∧ tameL rs
end
theorem tameL_append : ∀ {l l' : List Rx}, tameL l → tameL l' → tameL (l ++ l')
  | [], _, _, h => h
  | r :: rs, l', h, h' => by
    unfold tameL at h
    rw [List.cons_append]
    unfold tameL
    exact ⟨h.1, tameL_append h.2 h'⟩
theorem tameL_get : ∀ {l : List Rx} {i : Nat} {r : Rx}, tameL l → l[i]? = some r → r.tame
  | [], i, r, _, hr => by simp at hr
  | r0 :: rs, i, r, h, hr => by
    unfold tameL at h
    cases i with
    | zero => simp only [List.getElem?_cons_zero, Option.some.injEq] at hr; subst hr; exact h.1
    | succ i => exact tameL_get h.2 (by simpa using hr)
theorem Rx.size_pos (r : Rx) : 1 ≤ r.size := by cases r; unfold Rx.size; omega
theorem Rx.depth_pos (r : Rx) : 1 ≤ r.depth := by cases r; unfold Rx.depth; omega
theorem sizeL_append : ∀ (l l' : List Rx), sizeL (l ++ l') = sizeL l + sizeL l'
  | [], _ => by simp [sizeL]
  | r :: rs, l' => by rw [List.cons_append, sizeL, sizeL, sizeL_append rs l']; omega
theorem sizeL_take (l : List Rx) (i : Nat) (r : Rx) (h : l[i]? = some r) : sizeL (l.take (i + 1)) = sizeL (l.take i) + r.size := by
  rw [List.take_add_one, h, sizeL_append]
  simp [sizeL]
theorem sizeL_le (l : List Rx) (i : Nat) : sizeL (l.take i) ≤ sizeL l := by
  conv => rhs; rw [← List.take_append_drop i l, sizeL_append]
  omega
theorem depthL_append : ∀ (l l' : List Rx), depthL (l ++ l') = max (depthL l) (depthL l')
  | [], _ => by simp [depthL]
  | r :: rs, l' => by rw [List.cons_append, depthL, depthL, depthL_append rs l']; omega
theorem depthL_get {l : List Rx} {i : Nat} {r : Rx} (h : l[i]? = some r) : r.depth ≤ depthL l := by
  have : l = l.take i ++ r :: l.drop (i + 1) := by
    obtain ⟨hi, rfl⟩ := List.getElem?_eq_some_iff.1 h
    rw [List.getElem_cons_drop, List.take_append_drop]
  rw [this, depthL_append, depthL]
  omega
theorem depthL_le {l : List Rx} {n : Nat} (h : ∀ (i : Nat) (r : Rx), l[i]? = some r → r.depth ≤ n) : depthL l ≤ n := by
  induction l with
  | nil => simp [depthL]
  | cons r rs ih =>
    rw [depthL]
    have h0 := h 0 r rfl
    have := ih fun i r' hr => h (i + 1) r' (by simpa using hr)
    omega
/-- The largest number that is kept. -/
def capM : Nat := 1048576
def Rx.posC (r : Rx) : Nat := min r.pos capM
def Rx.wriC (r : Rx) : Nat := min r.wri capM
def sumC (f : Rx → Nat) : List Rx → Nat
  | [] => 0
  | r :: rs => f r + sumC f rs
theorem sumC_append (f : Rx → Nat) : ∀ (l l' : List Rx), sumC f (l ++ l') = sumC f l + sumC f l'
  | [], _ => by simp [sumC]
  | r :: rs, l' => by rw [List.cons_append, sumC, sumC, sumC_append f rs l']; omega
theorem sumC_take (f : Rx → Nat) (l : List Rx) (i : Nat) (r : Rx) (h : l[i]? = some r) : sumC f (l.take (i + 1)) = sumC f (l.take i) + f r := by
  rw [List.take_add_one, h, sumC_append]
  simp [sumC]
theorem sumC_le (f : Rx → Nat) (M : Nat) (hf : ∀ r, f r ≤ M) : ∀ l : List Rx, sumC f l ≤ l.length * M
  | [] => by simp [sumC]
  | r :: rs => by rw [sumC, List.length_cons, Nat.add_mul]; have := hf r; have := sumC_le f M hf rs; omega
theorem min_mul_cap (a b c M : Nat) (h : min a M = min b M) : min (a * c) M = min (b * c) M := by
  rcases Nat.eq_zero_or_pos c with h0 | h0
  · subst h0; simp
  · by_cases ha : a < M
    · have : a = b := by omega
      rw [this]
    · have : M ≤ b := by omega
      have e1 : M ≤ a * c := Nat.le_trans (by omega) (Nat.le_mul_of_pos_right a h0)
      have e2 : M ≤ b * c := Nat.le_trans this (Nat.le_mul_of_pos_right b h0)
      omega
theorem mulC_cap {kind : Nat} {lo hi : Int} {a b M : Nat} (h : min a M = min b M) : min (mulC kind lo hi a) M = min (mulC kind lo hi b) M := by
  unfold mulC
  split
  · exact min_mul_cap _ _ _ _ h
  · exact h
theorem posL_cap (M : Nat) : ∀ l : List Rx, min (sumC (fun r => min r.pos M) l) M = min (posL l) M
  | [] => rfl
  | r :: rs => by rw [sumC, posL]; have := posL_cap M rs; omega
theorem wriL_cap (M : Nat) : ∀ l : List Rx, min (sumC (fun r => min r.wri M) l) M = min (wriL l) M
  | [] => rfl
  | r :: rs => by rw [sumC, wriL]; have := wriL_cap M rs; omega
theorem pos_node (kind w0 w1 w2 w3 : Nat) (lo hi : Int) (ps : List Rx) (M : Nat) : min (mulC kind lo hi (baseP kind + sumC (fun r => min r.pos M) ps)) M = min (Rx.pos (.node kind w0 w1 w2 w3 lo hi ps)) M := by
  rw [Rx.pos]
  apply mulC_cap
  have := posL_cap M ps
  omega
theorem wri_node (kind w0 w1 w2 w3 : Nat) (lo hi : Int) (ps : List Rx) (M : Nat) : min (mulC kind lo hi (sumC (fun r => min r.wri M) ps) + 1) M = min (Rx.wri (.node kind w0 w1 w2 w3 lo hi ps)) M := by
  rw [Rx.wri]
  have := mulC_cap (kind := kind) (lo := lo) (hi := hi) (wriL_cap M ps)
  omega
end Go.Proofs.Ytfdpohceoabinaa
