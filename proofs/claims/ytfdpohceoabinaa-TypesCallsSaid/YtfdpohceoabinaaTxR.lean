/- Rows of expressions: cut at the front, and one of them replaced. -/
import Derived.Test.YtfdpohceoabinaaTxM
import Derived.Test.YtfdpohceoabinaaOwn
namespace Go.Proofs.Ytfdpohceoabinaa
open Go.RowKit
theorem lxAts_shift {w : World} {F : Nat → Prop} {g o : Nat} : ∀ (l : List Lx) (i j : Nat), LxAts w F (some ⟨g, o, none⟩) (i + j) l → LxAts w F (some ⟨g, o + i * 4, none⟩) j l
  | [], _, _, _ => by unfold LxAts; trivial
  | x :: l, i, j, h => by
    unfold LxAts at h ⊢
    obtain ⟨⟨b, o', h1, h2⟩, h3, h4⟩ := h
    injection h1 with h1
    injection h1 with h1 h1'
    subst h1 h1'
    exact ⟨⟨g, o + i * 4, rfl, by rw [h2]; congr 1; omega⟩, h3, lxAts_shift l i (j + 1) (by rw [← Nat.add_assoc]; exact h4)⟩
theorem NodeVs.get {w : World} {F : Nat → Prop} : ∀ {τs : List Tx} {css : List Value}, NodeVs w F τs css → ∀ (i : Nat), i < τs.length → ∃ a b c d, css[i * 4]? = some a ∧ css[i * 4 + 1]? = some b ∧ css[i * 4 + 2]? = some c ∧ css[i * 4 + 3]? = some d
  | [], _, _, i, hi => by simp at hi
  | τ :: τs, css, h, i, hi => by
    obtain ⟨a, b, h1, h2, h3⟩ := h
    have hl := h2.len
    cases i with
    | zero =>
      obtain ⟨k, t, m, A, n, c, rfl⟩ := h2.form
      rw [h1]
      exact ⟨_, _, _, _, rfl, rfl, rfl, rfl⟩
    | succ i =>
      obtain ⟨x, y, z, u, e1, e2, e3, e4⟩ := NodeVs.get h3 i (by simpa using hi)
      refine ⟨x, y, z, u, ?_, ?_, ?_, ?_⟩ <;> rw [h1, List.getElem?_append_right (by omega), hl]
      · rw [← e1]; congr 1; omega
      · rw [← e2]; congr 1; omega
      · rw [← e3]; congr 1; omega
      · rw [← e4]; congr 1; omega
theorem NodeVs.set {w : World} {F : Nat → Prop} {τ' : Tx} {a' : List Value} (h' : NodeV w F τ' a') : ∀ {τs : List Tx} {css : List Value}, NodeVs w F τs css → ∀ (i : Nat), i < τs.length → NodeVs w F (τs.set i τ') (css.take (i * 4) ++ a' ++ css.drop (i * 4 + 4))
  | [], _, _, i, hi => by simp at hi
  | τ :: τs, css, h, i, hi => by
    obtain ⟨a, b, h1, h2, h3⟩ := h
    have hl := h2.len
    cases i with
    | zero =>
      refine ⟨a', b, ?_, h', h3⟩
      rw [h1]
      simp [hl]
    | succ i =>
      refine ⟨a, b.take (i * 4) ++ a' ++ b.drop (i * 4 + 4), ?_, h2, NodeVs.set h' h3 i (by simpa using hi)⟩
      rw [h1, show (i + 1) * 4 = a.length + i * 4 by omega, List.take_length_add_append, show a.length + i * 4 + 4 = a.length + (i * 4 + 4) by omega, List.drop_length_add_append]
      simp
theorem NodeVs.drop {w : World} {F : Nat → Prop} {τ : Tx} {τs : List Tx} {css : List Value} (h : NodeVs w F (τ :: τs) css) : NodeVs w F τs (css.drop 4) := by
  obtain ⟨a, b, h1, h2, h3⟩ := h
  rw [h1, List.drop_append_of_le_length (by rw [h2.len]; omega), ← h2.len, List.drop_length, List.nil_append]
  exact h3
/-- Four cells of a row are set. -/
theorem set_four {cur : Array Value} {n i : Nat} {css : List Value} {a b c d : Value} (h : cur.toList.take (n * 4) = css) (hi : i < n) (hn : n * 4 ≤ cur.size) : ∀ (j : Nat) (u : Value), (css.take (i * 4) ++ [a, b, c, d] ++ css.drop (i * 4 + 4))[j]? = some u →
    ((((cur.setIfInBounds (i * 4) a).setIfInBounds (i * 4 + 1) b).setIfInBounds (i * 4 + 2) c).setIfInBounds (i * 4 + 3) d)[j]? = some u := by
  intro j u hu
  have hl : css.length = n * 4 := by rw [← h]; simp; omega
  have hc : ∀ j u, css[j]? = some u → cur[j]? = some u := fun j u hj => by
    rw [← h, List.getElem?_take] at hj
    split at hj
    · simpa using hj
    · cases hj
  simp only [Array.getElem?_setIfInBounds]
  rcases Nat.lt_or_ge j (i * 4) with h1 | h1
  · rw [List.append_assoc, List.getElem?_append_left (by simp; omega), List.getElem?_take_of_lt h1] at hu
    rw [if_neg (by omega), if_neg (by omega), if_neg (by omega), if_neg (by omega)]
    exact hc j u hu
  · rcases Nat.lt_or_ge j (i * 4 + 4) with h2 | h2
    · rw [List.append_assoc, List.getElem?_append_right (by simp; omega), List.getElem?_append_left (by simp; omega)] at hu
      have hlt : (css.take (i * 4)).length = i * 4 := by simp; omega
      rw [hlt] at hu
      have : j = i * 4 ∨ j = i * 4 + 1 ∨ j = i * 4 + 2 ∨ j = i * 4 + 3 := by omega
      rcases this with rfl | rfl | rfl | rfl
      · rw [if_neg (by omega), if_neg (by omega), if_neg (by omega), if_pos rfl, if_pos (by omega)]
        rw [Nat.sub_self] at hu; exact hu
      · rw [if_neg (by omega), if_neg (by omega), if_pos rfl, if_pos (by simp; omega)]
        rw [Nat.add_sub_cancel_left] at hu; exact hu
      · rw [if_neg (by omega), if_pos rfl, if_pos (by simp; omega)]
        rw [Nat.add_sub_cancel_left] at hu; exact hu
      · rw [if_pos rfl, if_pos (by simp; omega)]
        rw [Nat.add_sub_cancel_left] at hu; exact hu
    · rw [List.getElem?_append_right (by simp; omega)] at hu
      have hlt : (css.take (i * 4) ++ [a, b, c, d]).length = i * 4 + 4 := by simp; omega
      rw [hlt, List.getElem?_drop, show i * 4 + 4 + (j - (i * 4 + 4)) = j by omega] at hu
      rw [if_neg (by omega), if_neg (by omega), if_neg (by omega), if_neg (by omega)]
      exact hc j u hu
end Go.Proofs.Ytfdpohceoabinaa
