/- Plain: what the parser makes is tame. -/
import Derived.Test.YtfdpohceoabinaaRxL
import Derived.Test.YtfdpohceoabinaaRxM
import Derived.Test.YtfdpohceoabinaaBits
namespace Go.Proofs.Ytfdpohceoabinaa
variable {T : List UInt8}
theorem Rx.tame_set (S : LS) : (Rx.set S).tame := by
  unfold Rx.set Rx.tame tameL
  exact ⟨by omega, wd_lt _ _, wd_lt _ _, wd_lt _ _, wd_lt _ _, by omega, by omega, by omega, by omega, trivial⟩
theorem Rx.tame_plain {kind : Nat} {l : List Rx} (hk : kind ≤ 5) (h : tameL l) : (Rx.plain kind l).tame := by
  unfold Rx.plain Rx.tame
  exact ⟨hk, by decide, by decide, by decide, by decide, by omega, by omega, by omega, by omega, h⟩
theorem Rx.tame_rep {lo hi : Int} {r : Rx} (h : r.tame) (h1 : 0 ≤ lo) (h2 : lo ≤ 64) (h3 : -1 ≤ hi) (h4 : hi ≤ 64) : (Rx.rep lo hi r).tame := by
  unfold Rx.rep Rx.tame tameL tameL
  exact ⟨by omega, by decide, by decide, by decide, by decide, h1, h2, h3, h4, h, trivial⟩
theorem Rx.tame_seq {l : List Rx} (h : tameL l) : (Rx.seq l).tame := by
  match l, h with
  | [], h => exact Rx.tame_plain (by omega) h
  | [r], h => unfold tameL at h; exact h.1
  | r :: q :: l, h => exact Rx.tame_plain (by omega) h
theorem Rx.tame_alt {l : List Rx} (h : tameL l) : (Rx.alt l).tame := by
  match l, h with
  | [], h => exact Rx.tame_plain (by omega) h
  | [r], h => unfold tameL at h; exact h.1
  | r :: q :: l, h => exact Rx.tame_plain (by omega) h
theorem cntP_tame {k k' : Nat} {lo hi : Int} (h : cntP T k = some (some (lo, hi), k')) : 0 ≤ lo ∧ lo ≤ 64 ∧ -1 ≤ hi ∧ hi ≤ 64 := by
  unfold cntP at h
  split at h
  · injection h with h; injection h with h1 h2; injection h1 with h1; injection h1 with h1 h3; omega
  split at h
  · injection h with h; injection h with h1 h2; injection h1 with h1; injection h1 with h1 h3; omega
  split at h
  · injection h with h; injection h with h1 h2; injection h1 with h1; injection h1 with h1 h3; omega
  split at h
  · rename_i hb
    have hl := at_lt hb
    split at h
    · cases h
    rename_i lo k1 e1
    have h1 := numP_pos (by omega) e1
    split at h
    · rename_i hb1
      have hl1 := at_lt hb1
      split at h
      · split at h
        · cases h
        rename_i hi k2 e2
        have h2 := numP_pos (by omega) e2
        split at h
        · injection h with h; injection h with h1 h2; injection h1 with h1; injection h1 with h1 h3; omega
        · cases h
      split at h
      · injection h with h; injection h with h1 h2; injection h1 with h1; injection h1 with h1 h3; omega
      · cases h
    split at h
    · injection h with h; injection h with h1 h2; injection h1 with h1; injection h1 with h1 h3; omega
    · cases h
  · injection h with h; injection h with h1 h2; cases h1
theorem termP_tame {E : Nat → Option (Rx × Nat)} {k k' : Nat} {r : Rx} (hE : ∀ k k' r, k ≤ T.length → E k = some (r, k') → r.tame) (h : termP T E k = some (r, k')) : r.tame := by
  unfold termP at h
  split at h
  · cases h
  rename_i b hb
  have hl := at_lt hb
  split at h
  · split at h
    · cases h
    injection h with h; injection h with h1 h2; subst h1; exact Rx.tame_set _
  split at h
  · injection h with h; injection h with h1 h2; subst h1; exact Rx.tame_set _
  split at h
  · split at h
    · cases h
    injection h with h; injection h with h1 h2; subst h1; exact Rx.tame_set _
  split at h
  · split at h
    · cases h
    rename_i x k1 e1
    have := hE _ _ _ (by omega) e1
    split at h
    · injection h with h; injection h with h1 h2; subst h1; exact this
    · cases h
  split at h
  · cases h
  · injection h with h; injection h with h1 h2; subst h1; exact Rx.tame_set _
theorem cntsP_tame : ∀ (f k k' : Nat) (r r' : Rx), k ≤ T.length → r.tame → cntsP T f r k = some (r', k') → r'.tame
  | 0, _, _, _, _, _, _, h => by cases h
  | f + 1, k, k', r, r', hk, hr, h => by
    unfold cntsP at h
    split at h
    · cases h
    · injection h with h; injection h with h1 h2; subst h1; exact hr
    · rename_i lo hi k1 e1
      have h1 := cntP_pos hk e1
      have h2 := cntP_tame e1
      exact cntsP_tame f _ _ _ _ (by omega) (Rx.tame_rep hr h2.1 h2.2.1 h2.2.2.1 h2.2.2.2) h
theorem termsL_tame {E : Nat → Option (Rx × Nat)} (hp : ∀ k k' r, k ≤ T.length → E k = some (r, k') → k ≤ k' ∧ k' ≤ T.length) (hE : ∀ k k' r, k ≤ T.length → E k = some (r, k') → r.tame) : ∀ (f k k' : Nat) (l l' : List Rx), k ≤ T.length → tameL l → termsL T E f l k = some (l', k') → tameL l'
  | 0, _, _, _, _, _, _, h => by cases h
  | f + 1, k, k', l, l', hk, hl, h => by
    unfold termsL at h
    split at h
    · injection h with h; injection h with h1 h2; subst h1; exact hl
    split at h
    · cases h
    rename_i r1 k1 e1
    have h1 := termP_pos hp e1
    have t1 := termP_tame hE e1
    split at h
    · cases h
    rename_i r2 k2 e2
    have h2 := cntsP_pos _ _ _ _ _ (by omega) e2
    have t2 := cntsP_tame _ _ _ _ _ (by omega) t1 e2
    exact termsL_tame hp hE f _ _ _ _ (by omega) (tameL_append hl (by unfold tameL tameL; exact ⟨t2, trivial⟩)) h
theorem termsP_tame {E : Nat → Option (Rx × Nat)} {k k' : Nat} {r : Rx} (hp : ∀ k k' r, k ≤ T.length → E k = some (r, k') → k ≤ k' ∧ k' ≤ T.length) (hE : ∀ k k' r, k ≤ T.length → E k = some (r, k') → r.tame) (hk : k ≤ T.length) (h : termsP T E k = some (r, k')) : r.tame := by
  unfold termsP at h
  split at h
  · cases h
  rename_i l k1 e1
  have := termsL_tame hp hE _ _ _ _ _ hk (by unfold tameL; trivial) e1
  injection h with h; injection h with h1 h2; subst h1; exact Rx.tame_seq this
theorem barsL_tame {E : Nat → Option (Rx × Nat)} (hp : ∀ k k' r, k ≤ T.length → E k = some (r, k') → k ≤ k' ∧ k' ≤ T.length) (hE : ∀ k k' r, k ≤ T.length → E k = some (r, k') → r.tame) : ∀ (f k k' : Nat) (l l' : List Rx), k ≤ T.length → tameL l → barsL T E f l k = some (l', k') → tameL l'
  | 0, _, _, _, _, _, _, h => by cases h
  | f + 1, k, k', l, l', hk, hl, h => by
    unfold barsL at h
    split at h
    · rename_i hb
      have hbl := at_lt hb
      split at h
      · cases h
      rename_i r1 k1 e1
      have h1 := termsP_pos hp (by omega) e1
      have t1 := termsP_tame hp hE (by omega) e1
      exact barsL_tame hp hE f _ _ _ _ (by omega) (tameL_append hl (by unfold tameL tameL; exact ⟨t1, trivial⟩)) h
    · injection h with h; injection h with h1 h2; subst h1; exact hl
theorem exprN_tame : ∀ (n k k' : Nat) (r : Rx), k ≤ T.length → exprN T n k = some (r, k') → r.tame
  | 0, _, _, _, _, h => by cases h
  | n + 1, k, k', r, hk, h => by
    have ih := exprN_tame n
    have hp := exprN_pos (T := T) n
    unfold exprN at h
    split at h
    · cases h
    rename_i r1 k1 e1
    have h1 := termsP_pos hp hk e1
    have t1 := termsP_tame hp ih hk e1
    split at h
    · cases h
    rename_i l k2 e2
    have t2 := barsL_tame hp ih _ _ _ _ _ (by omega) (by unfold tameL tameL; exact ⟨t1, trivial⟩) e2
    injection h with h; injection h with h1 h2; subst h1; exact Rx.tame_alt t2
/-- What a string denotes: the tree; an error's number, 2 for the form, else too large. -/
def brackets (T : List UInt8) : Nat := T.countP (· == 40)
def parseP (T : List UInt8) : Option Rx := match exprN T (T.length + 1) 0 with
  | some (r, k) => if k = T.length then some r else none
  | none => none
end Go.Proofs.Ytfdpohceoabinaa
