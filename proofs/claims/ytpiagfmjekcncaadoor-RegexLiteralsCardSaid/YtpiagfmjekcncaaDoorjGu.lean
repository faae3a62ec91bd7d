/- What the parser reads is a tree that the document takes for formed, and no greater than the text (plain). -/
import Derived.Test.YtpiagfmjekcncaaDoorjGq
import Derived.Test.YtpiagfmjekcncaaDoorjRx
set_option linter.unusedVariables false
set_option linter.unusedSimpArgs false
set_option linter.unusedSectionVars false
namespace Go.Proofs.YtpiagfmjekcncaaDoor
variable {T : List UInt8}
theorem fmdL_append : ∀ {l l' : List Rx}, fmdL l → fmdL l' → fmdL (l ++ l')
  | [], _, _, h => h
  | r :: rs, l', h, h' => by
    unfold fmdL at h
    rw [List.cons_append]
    unfold fmdL
    exact ⟨h.1, fmdL_append h.2 h'⟩
theorem fmdL_one {r : Rx} (h : r.fmd) : fmdL [r] := by unfold fmdL fmdL; exact ⟨h, trivial⟩
theorem sizeL_app : ∀ (l l' : List Rx), sizeL (l ++ l') = sizeL l + sizeL l'
  | [], l' => by rw [List.nil_append, sizeL]; omega
  | r :: l, l' => by rw [List.cons_append, sizeL, sizeL, sizeL_app l l']; omega
theorem sizeL_one (r : Rx) : sizeL [r] = r.size := by rw [sizeL, sizeL]; rfl
theorem fmd_set (S : LS) : (Rx.set S).fmd := by
  unfold Rx.set Rx.fmd fmdL
  exact ⟨.inr (.inl ⟨rfl, rfl, rfl, rfl⟩), trivial⟩
theorem size_set (S : LS) : (Rx.set S).size = 1 := by unfold Rx.set; rw [Rx.size, sizeL]
theorem fmd_seq : ∀ {l : List Rx}, fmdL l → (Rx.seq l).fmd
  | [], h => by unfold Rx.seq Rx.empty Rx.plain Rx.fmd; exact ⟨.inl ⟨rfl, ⟨rfl, rfl, rfl, rfl⟩, rfl, rfl, rfl⟩, h⟩
  | [r], h => by unfold fmdL at h; exact h.1
  | r :: q :: l, h => by
    show (Rx.plain 3 (r :: q :: l)).fmd
    unfold Rx.plain Rx.fmd
    exact ⟨.inr (.inr (.inl ⟨rfl, ⟨rfl, rfl, rfl, rfl⟩, rfl, rfl, by simp⟩)), h⟩
theorem size_seq : ∀ (l : List Rx), (Rx.seq l).size ≤ 1 + sizeL l
  | [] => by show (Rx.plain 1 []).size ≤ _; unfold Rx.plain; rw [Rx.size]; omega
  | [r] => by show r.size ≤ _; rw [sizeL_one]; omega
  | r :: q :: l => by show (Rx.plain 3 (r :: q :: l)).size ≤ _; unfold Rx.plain; rw [Rx.size]; omega
theorem fmd_alt : ∀ {l : List Rx}, 1 ≤ l.length → fmdL l → (Rx.alt l).fmd
  | [], h1, _ => by simp at h1
  | [r], _, h => by unfold fmdL at h; exact h.1
  | r :: q :: l, _, h => by
    show (Rx.plain 4 (r :: q :: l)).fmd
    unfold Rx.plain Rx.fmd
    exact ⟨.inr (.inr (.inr (.inl ⟨rfl, ⟨rfl, rfl, rfl, rfl⟩, rfl, rfl, by simp⟩))), h⟩
theorem size_alt : ∀ (l : List Rx), (Rx.alt l).size ≤ 1 + sizeL l
  | [] => by show (Rx.plain 4 []).size ≤ _; unfold Rx.plain; rw [Rx.size]; omega
  | [r] => by show r.size ≤ _; rw [sizeL_one]; omega
  | r :: q :: l => by show (Rx.plain 4 (r :: q :: l)).size ≤ _; unfold Rx.plain; rw [Rx.size]; omega
theorem fmd_rep {lo hi : Int} {r : Rx} (h : r.fmd) (h1 : 0 ≤ lo) (h2 : lo ≤ 64) (h3 : hi = -1 ∨ (0 ≤ hi ∧ lo ≤ hi ∧ hi ≤ 64)) : (Rx.rep lo hi r).fmd := by
  unfold Rx.rep Rx.fmd
  exact ⟨.inr (.inr (.inr (.inr ⟨rfl, ⟨rfl, rfl, rfl, rfl⟩, rfl, h1, h2, h3⟩))), fmdL_one h⟩
theorem size_rep (lo hi : Int) (r : Rx) : (Rx.rep lo hi r).size = 1 + r.size := by unfold Rx.rep; rw [Rx.size, sizeL_one]
theorem cntP_fmd {k k' : Nat} {lo hi : Int} (h : cntP T k = some (some (lo, hi), k')) : 0 ≤ lo ∧ lo ≤ 64 ∧ (hi = -1 ∨ (0 ≤ hi ∧ lo ≤ hi ∧ hi ≤ 64)) := by
  unfold cntP at h
  split at h
  · injection h with h; injection h with h1 h2; injection h1 with h1; injection h1 with h1 h3; omega
  split at h
  · injection h with h; injection h with h1 h2; injection h1 with h1; injection h1 with h1 h3; omega
  split at h
  · injection h with h; injection h with h1 h2; injection h1 with h1; injection h1 with h1 h3; omega
  split at h
  · rename_i hb
    have hl := at_lt hb
    split at h
    · cases h
    rename_i lo k1 e1
    have h1 := numP_pos (by omega) e1
    split at h
    · rename_i hb1
      have hl1 := at_lt hb1
      split at h
      · split at h
        · cases h
        rename_i hi k2 e2
        have h2 := numP_pos (by omega) e2
        split at h
        · rename_i h5
          have := h5.2
          injection h with h; injection h with h1 h2; injection h1 with h1; injection h1 with h1 h3; omega
        · cases h
      split at h
      · injection h with h; injection h with h1 h2; injection h1 with h1; injection h1 with h1 h3; omega
      · cases h
    split at h
    · injection h with h; injection h with h1 h2; injection h1 with h1; injection h1 with h1 h3; omega
    · cases h
  · injection h with h; injection h with h1 h2; cases h1
/-- What an inner expression reads. -/
def FmE (T : List UInt8) (E : Nat → Option (Rx × Nat)) : Prop := ∀ k k' r, k ≤ T.length → E k = some (r, k') → r.fmd ∧ r.size + k ≤ 2 + k'
theorem termP_fmd {E : Nat → Option (Rx × Nat)} {k k' : Nat} {r : Rx} (hE : FmE T E) (h : termP T E k = some (r, k')) : r.fmd ∧ r.size + k ≤ k' := by
  unfold termP at h
  split at h
  · cases h
  rename_i b hb
  have hl := at_lt hb
  split at h
  · split at h
    · cases h
    rename_i x k1 e1
    have := escP_pos e1
    injection h with h; injection h with h1 h2; subst h1; exact ⟨fmd_set _, by rw [Rx.one, size_set]; omega⟩
  split at h
  · injection h with h; injection h with h1 h2; subst h1; exact ⟨fmd_set _, by rw [size_set]; omega⟩
  split at h
  · split at h
    · cases h
    rename_i x k1 e1
    have := classP_pos e1
    injection h with h; injection h with h1 h2; subst h1; exact ⟨fmd_set _, by rw [size_set]; omega⟩
  split at h
  · split at h
    · cases h
    rename_i x k1 e1
    have := hE _ _ _ (by omega) e1
    split at h
    · injection h with h; injection h with h1 h2; subst h1; exact ⟨this.1, by omega⟩
    · cases h
  split at h
  · cases h
  · injection h with h; injection h with h1 h2; subst h1; exact ⟨fmd_set _, by rw [Rx.one, size_set]; omega⟩
theorem cntsP_fmd : ∀ (f k k' : Nat) (r r' : Rx), k ≤ T.length → r.fmd → cntsP T f r k = some (r', k') → r'.fmd ∧ r'.size + k ≤ r.size + k'
  | 0, _, _, _, _, _, _, h => by cases h
  | f + 1, k, k', r, r', hk, hr, h => by
    unfold cntsP at h
    split at h
    · cases h
    · rename_i k1 e1
      have := cntP_pos hk e1
      injection h with h; injection h with h1 h2; subst h1; exact ⟨hr, by omega⟩
    · rename_i lo hi k1 e1
      have h1 := cntP_pos hk e1
      have h2 := cntP_fmd e1
      have h3 := h1.2.2 (by simp)
      have := cntsP_fmd f _ _ _ _ (by omega) (fmd_rep hr h2.1 h2.2.1 h2.2.2) h
      rw [size_rep] at this
      exact ⟨this.1, by omega⟩
theorem termsL_fmd {E : Nat → Option (Rx × Nat)} (hp : ∀ k k' r, k ≤ T.length → E k = some (r, k') → k ≤ k' ∧ k' ≤ T.length) (hE : FmE T E) : ∀ (f k k' : Nat) (l l' : List Rx), k ≤ T.length → fmdL l → termsL T E f l k = some (l', k') → fmdL l' ∧ sizeL l' + k ≤ sizeL l + k'
  | 0, _, _, _, _, _, _, h => by cases h
  | f + 1, k, k', l, l', hk, hl, h => by
    unfold termsL at h
    split at h
    · injection h with h; injection h with h1 h2; subst h1; exact ⟨hl, by omega⟩
    split at h
    · cases h
    rename_i r1 k1 e1
    have h1 := termP_pos hp e1
    have t1 := termP_fmd hE e1
    split at h
    · cases h
    rename_i r2 k2 e2
    have h2 := cntsP_pos _ _ _ _ _ (by omega) e2
    have t2 := cntsP_fmd _ _ _ _ _ (by omega) t1.1 e2
    have := termsL_fmd hp hE f _ _ _ _ (by omega) (fmdL_append hl (fmdL_one t2.1)) h
    rw [sizeL_app, sizeL_one] at this
    exact ⟨this.1, by omega⟩
theorem termsP_fmd {E : Nat → Option (Rx × Nat)} {k k' : Nat} {r : Rx} (hp : ∀ k k' r, k ≤ T.length → E k = some (r, k') → k ≤ k' ∧ k' ≤ T.length) (hE : FmE T E) (hk : k ≤ T.length) (h : termsP T E k = some (r, k')) : r.fmd ∧ r.size + k ≤ 1 + k' := by
  unfold termsP at h
  split at h
  · cases h
  rename_i l k1 e1
  have := termsL_fmd hp hE _ _ _ _ _ hk (by unfold fmdL; trivial) e1
  injection h with h; injection h with h1 h2; subst h1
  have h3 := size_seq l
  have h4 := this.2
  rw [show sizeL [] = 0 from rfl] at h4
  exact ⟨fmd_seq this.1, by omega⟩
theorem barsL_fmd {E : Nat → Option (Rx × Nat)} (hp : ∀ k k' r, k ≤ T.length → E k = some (r, k') → k ≤ k' ∧ k' ≤ T.length) (hE : FmE T E) : ∀ (f k k' : Nat) (l l' : List Rx), k ≤ T.length → fmdL l → barsL T E f l k = some (l', k') → fmdL l' ∧ sizeL l' + k ≤ sizeL l + k' ∧ l.length ≤ l'.length
  | 0, _, _, _, _, _, _, h => by cases h
  | f + 1, k, k', l, l', hk, hl, h => by
    unfold barsL at h
    split at h
    · rename_i hb
      have hbl := at_lt hb
      split at h
      · cases h
      rename_i r1 k1 e1
      have h1 := termsP_pos hp (by omega) e1
      have t1 := termsP_fmd hp hE (by omega) e1
      have := barsL_fmd hp hE f _ _ _ _ (by omega) (fmdL_append hl (fmdL_one t1.1)) h
      rw [sizeL_app, sizeL_one, List.length_append] at this
      exact ⟨this.1, by omega, by omega⟩
    · injection h with h; injection h with h1 h2; subst h1; exact ⟨hl, by omega, Nat.le_refl _⟩
theorem exprN_fmd : ∀ (n : Nat), FmE T (exprN T n)
  | 0, _, _, _, _, h => by cases h
  | n + 1, k, k', r, hk, h => by
    have ih := exprN_fmd n
    have hp := exprN_pos (T := T) n
    unfold exprN at h
    split at h
    · cases h
    rename_i r1 k1 e1
    have h1 := termsP_pos hp hk e1
    have t1 := termsP_fmd hp ih hk e1
    split at h
    · cases h
    rename_i l k2 e2
    have t2 := barsL_fmd hp ih _ _ _ _ _ (by omega) (fmdL_one t1.1) e2
    injection h with h; injection h with h1 h2; subst h1
    have h3 := size_alt l
    have h4 := t2.2.1
    rw [sizeL_one] at h4
    exact ⟨fmd_alt (by have := t2.2.2; simp at this; omega) t2.1, by omega⟩
end Go.Proofs.YtpiagfmjekcncaaDoor
