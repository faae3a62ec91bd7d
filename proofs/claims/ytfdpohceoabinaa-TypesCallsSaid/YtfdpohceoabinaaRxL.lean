/- Plain laws of the parser: where each part of it ends. -/
import Derived.Test.YtfdpohceoabinaaRx
namespace Go.Proofs.Ytfdpohceoabinaa
variable {T : List UInt8}
theorem at_lt {k : Nat} {b : UInt8} (h : T[k]? = some b) : k < T.length := by
  rcases Nat.lt_or_ge k T.length with h1 | h1
  · exact h1
  · rw [List.getElem?_eq_none h1] at h; cases h
theorem digitP_pos {k d k' : Nat} (h : digitP T k = some (d, k')) : k' = k + 1 ∧ k < T.length := by
  unfold digitP at h
  split at h
  · cases h
  · rename_i b hb
    split at h
    · cases h
    · injection h with h
      injection h with h1 h2
      exact ⟨h2.symm, at_lt hb⟩
theorem escP_pos {k k' : Nat} {x : UInt8} (h : escP T k = some (x, k')) : k < k' ∧ k' ≤ T.length := by
  unfold escP at h
  split at h
  · cases h
  rename_i b hb
  have hl := at_lt hb
  split at h
  · injection h with h; injection h with h1 h2; omega
  split at h
  · injection h with h; injection h with h1 h2; omega
  split at h
  · injection h with h; injection h with h1 h2; omega
  split at h
  · split at h
    · cases h
    rename_i h1 k1 e1
    split at h
    · cases h
    rename_i h2 k2 e2
    have := digitP_pos e1
    have := digitP_pos e2
    injection h with h; injection h with h1 h2; omega
  split at h
  · injection h with h; injection h with h1 h2; omega
  · cases h
theorem endP_pos : ∀ (f k e : Nat), endP T f k = some e → k < e ∧ e ≤ T.length
  | 0, _, _, h => by cases h
  | f + 1, k, e, h => by
    unfold endP at h
    split at h
    · cases h
    rename_i b hb
    have hl := at_lt hb
    split at h
    · injection h with h; omega
    split at h
    · split at h
      · cases h
      · have := endP_pos f _ _ h; omega
    · have := endP_pos f _ _ h; omega
theorem classP_pos {k k' : Nat} {S : LS} (h : classP T k = some (S, k')) : k < k' ∧ k' ≤ T.length := by
  unfold classP at h
  simp only at h
  split at h
  · cases h
  rename_i e he
  split at h
  · cases h
  injection h with h
  injection h with h1 h2
  have := endP_pos _ _ _ he
  split at this <;> omega
theorem numL_pos : ∀ (f k n m e : Nat), k ≤ T.length → numL T f k n = some (m, e) → k ≤ e ∧ e ≤ T.length
  | 0, _, _, _, _, _, h => by cases h
  | f + 1, k, n, m, e, hk, h => by
    unfold numL at h
    split at h
    · injection h with h; injection h with h1 h2; omega
    rename_i b hb
    have hl := at_lt hb
    split at h
    · split at h
      · cases h
      · have := numL_pos f _ _ _ _ (by omega) h; omega
    · injection h with h; injection h with h1 h2; omega
theorem numL_le : ∀ (f k n m e : Nat), n ≤ 64 → numL T f k n = some (m, e) → m ≤ 64
  | 0, _, _, _, _, _, h => by cases h
  | f + 1, k, n, m, e, hk, h => by
    unfold numL at h
    split at h
    · injection h with h; injection h with h1 h2; omega
    split at h
    · split at h
      · cases h
      · exact numL_le f _ _ _ _ (by omega) h
    · injection h with h; injection h with h1 h2; omega
theorem numP_pos {k n e : Nat} (hk : k ≤ T.length) (h : numP T k = some (n, e)) : k < e ∧ e ≤ T.length ∧ n ≤ 64 := by
  unfold numP at h
  split at h
  · cases h
  rename_i m e' he
  split at h
  · cases h
  rename_i hne
  injection h with h
  injection h with h1 h2
  subst h1 h2
  have h1 := numL_pos _ _ _ _ _ hk he
  have h2 := numL_le _ _ _ _ _ (by omega) he
  simp only [not_or] at hne
  omega
theorem cntP_pos {k k' : Nat} {c : Option (Int × Int)} (hk : k ≤ T.length) (h : cntP T k = some (c, k')) : k ≤ k' ∧ k' ≤ T.length ∧ (c ≠ none → k < k') := by
  unfold cntP at h
  split at h
  · rename_i hb; have := at_lt hb; injection h with h; injection h with h1 h2; omega
  split at h
  · rename_i hb; have := at_lt hb; injection h with h; injection h with h1 h2; omega
  split at h
  · rename_i hb; have := at_lt hb; injection h with h; injection h with h1 h2; omega
  split at h
  · rename_i hb
    have hl := at_lt hb
    split at h
    · cases h
    rename_i lo k1 e1
    have h1 := numP_pos (by omega) e1
    split at h
    · rename_i hb1
      have hl1 := at_lt hb1
      split at h
      · split at h
        · cases h
        rename_i hi k2 e2
        have h2 := numP_pos (by omega) e2
        split at h
        · rename_i hc
          have := at_lt hc.1
          injection h with h; injection h with h1 h2; omega
        · cases h
      split at h
      · rename_i hc
        have := at_lt hc
        injection h with h; injection h with h1 h2; omega
      · cases h
    split at h
    · rename_i hc
      have := at_lt hc
      injection h with h; injection h with h1 h2; omega
    · cases h
  · injection h with h; injection h with h1 h2
    exact ⟨by omega, by omega, fun hc => absurd h1.symm hc⟩
theorem termP_pos {E : Nat → Option (Rx × Nat)} {k k' : Nat} {r : Rx} (hE : ∀ k k' r, k ≤ T.length → E k = some (r, k') → k ≤ k' ∧ k' ≤ T.length) (h : termP T E k = some (r, k')) : k < k' ∧ k' ≤ T.length := by
  unfold termP at h
  split at h
  · cases h
  rename_i b hb
  have hl := at_lt hb
  split at h
  · split at h
    · cases h
    rename_i x k1 e1
    have := escP_pos e1
    injection h with h; injection h with h1 h2; omega
  split at h
  · injection h with h; injection h with h1 h2; omega
  split at h
  · split at h
    · cases h
    rename_i x k1 e1
    have := classP_pos e1
    injection h with h; injection h with h1 h2; omega
  split at h
  · split at h
    · cases h
    rename_i x k1 e1
    have := hE _ _ _ (by omega) e1
    split at h
    · rename_i hc
      have := at_lt hc
      injection h with h; injection h with h1 h2; omega
    · cases h
  split at h
  · cases h
  · injection h with h; injection h with h1 h2; omega
theorem cntsP_pos : ∀ (f k k' : Nat) (r r' : Rx), k ≤ T.length → cntsP T f r k = some (r', k') → k ≤ k' ∧ k' ≤ T.length
  | 0, _, _, _, _, _, h => by cases h
  | f + 1, k, k', r, r', hk, h => by
    unfold cntsP at h
    split at h
    · cases h
    · rename_i k1 e1
      have := cntP_pos hk e1
      injection h with h; injection h with h1 h2; omega
    · rename_i lo hi k1 e1
      have := cntP_pos hk e1
      have := cntsP_pos f _ _ _ _ (by omega) h
      omega
theorem termsL_pos {E : Nat → Option (Rx × Nat)} (hE : ∀ k k' r, k ≤ T.length → E k = some (r, k') → k ≤ k' ∧ k' ≤ T.length) : ∀ (f k k' : Nat) (l l' : List Rx), k ≤ T.length → termsL T E f l k = some (l', k') → k ≤ k' ∧ k' ≤ T.length
  | 0, _, _, _, _, _, h => by cases h
  | f + 1, k, k', l, l', hk, h => by
    unfold termsL at h
    split at h
    · injection h with h; injection h with h1 h2; omega
    split at h
    · cases h
    rename_i r1 k1 e1
    have h1 := termP_pos hE e1
    split at h
    · cases h
    rename_i r2 k2 e2
    have h2 := cntsP_pos _ _ _ _ _ (by omega) e2
    have := termsL_pos hE f _ _ _ _ (by omega) h
    omega
theorem termsP_pos {E : Nat → Option (Rx × Nat)} {k k' : Nat} {r : Rx} (hE : ∀ k k' r, k ≤ T.length → E k = some (r, k') → k ≤ k' ∧ k' ≤ T.length) (hk : k ≤ T.length) (h : termsP T E k = some (r, k')) : k ≤ k' ∧ k' ≤ T.length := by
  unfold termsP at h
  split at h
  · cases h
  rename_i l k1 e1
  have := termsL_pos hE _ _ _ _ _ hk e1
  injection h with h; injection h with h1 h2; omega
theorem barsL_pos {E : Nat → Option (Rx × Nat)} (hE : ∀ k k' r, k ≤ T.length → E k = some (r, k') → k ≤ k' ∧ k' ≤ T.length) : ∀ (f k k' : Nat) (l l' : List Rx), k ≤ T.length → barsL T E f l k = some (l', k') → k ≤ k' ∧ k' ≤ T.length
  | 0, _, _, _, _, _, h => by cases h
  | f + 1, k, k', l, l', hk, h => by
    unfold barsL at h
    split at h
    · rename_i hb
      have hl := at_lt hb
      split at h
      · cases h
      rename_i r1 k1 e1
      have h1 := termsP_pos hE (by omega) e1
      have := barsL_pos hE f _ _ _ _ (by omega) h
      omega
    · injection h with h; injection h with h1 h2; omega
theorem exprN_pos : ∀ (n k k' : Nat) (r : Rx), k ≤ T.length → exprN T n k = some (r, k') → k ≤ k' ∧ k' ≤ T.length
  | 0, _, _, _, _, h => by cases h
  | n + 1, k, k', r, hk, h => by
    have ih := exprN_pos n
    unfold exprN at h
    split at h
    · cases h
    rename_i r1 k1 e1
    have h1 := termsP_pos ih hk e1
    split at h
    · cases h
    rename_i l k2 e2
    have h2 := barsL_pos ih _ _ _ _ _ (by omega) e2
    injection h with h; injection h with h1 h2; omega
theorem numL_step {f k n : Nat} {b : UInt8} (hb : T[k]? = some b) : numL T (f + 1) k n = if 48 ≤ b ∧ b ≤ 57 then (if 64 < n * 10 + (b.toNat - 48) then none else numL T f (k + 1) (n * 10 + (b.toNat - 48))) else some (n, k) := by
  rw [numL, hb]
end Go.Proofs.Ytfdpohceoabinaa
