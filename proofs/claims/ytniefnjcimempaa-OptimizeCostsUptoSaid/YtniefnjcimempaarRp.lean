/- Rows of expressions: cut at the front, and one of them replaced. -/
import Derived.Test.YtniefnjcimempaarRj
import Derived.Test.YtniefnjcimempaarRx4
namespace Go.Proofs.Ytniefnjcimempaa
open Go.RowKit
theorem own_lt {w : World} {base e size n : Nat} {v : Value} {xs : List Value} (h : w.ownsRow base e size v n xs) (g : Nat) (hg : v.ownBlock = some g) : g < w.heap.size := by
  obtain ⟨_, cur, hc⟩ := own_lo h hg
  exact hc.lt
theorem NodeVs.at_ {w : World} {F : Nat → Prop} : ∀ {τs : List Tx} {css : List Value}, NodeVs w F τs css → ∀ (i : Nat) (τ : Tx), τs[i]? = some τ → ∃ k t m A n c, NodeV w F τ [.int .i64 k, .string t, .int .i64 m, .slice A n c] ∧ ∀ (j : Nat) u, ([.int .i64 k, .string t, .int .i64 m, .slice A n c] : List Value)[j]? = some u → css[i * 4 + j]? = some u
  | [], _, _, i, τ, hs => by simp at hs
  | x :: τs, css, h, i, τ, hs => by
    obtain ⟨a, b, h1, h2, h3⟩ := h
    have hl := h2.len
    cases i with
    | zero =>
      simp only [List.getElem?_cons_zero, Option.some.injEq] at hs
      subst hs
      obtain ⟨k, t, m, A, n, c, rfl⟩ := h2.form
      exact ⟨k, t, m, A, n, c, h2, fun j u hj => by rw [h1, List.getElem?_append_left (by rw [Nat.zero_mul, Nat.zero_add]; exact (List.getElem?_eq_some_iff.1 hj).1), Nat.zero_mul, Nat.zero_add]; exact hj⟩
    | succ i =>
      obtain ⟨k, t, m, A, n, c, e1, e2⟩ := NodeVs.at_ h3 i τ (by simpa using hs)
      refine ⟨k, t, m, A, n, c, e1, fun j u hj => ?_⟩
      rw [h1, List.getElem?_append_right (by omega), hl, show (i + 1) * 4 + j - 4 = i * 4 + j by omega]
      exact e2 j u hj
theorem NodeVs.get {w : World} {F : Nat → Prop} : ∀ {τs : List Tx} {css : List Value}, NodeVs w F τs css → ∀ (i : Nat), i < τs.length → ∃ a b c d, css[i * 4]? = some a ∧ css[i * 4 + 1]? = some b ∧ css[i * 4 + 2]? = some c ∧ css[i * 4 + 3]? = some d
  | [], _, _, i, hi => by simp at hi
  | τ :: τs, css, h, i, hi => by
    obtain ⟨a, b, h1, h2, h3⟩ := h
    have hl := h2.len
    cases i with
    | zero =>
      obtain ⟨k, t, m, A, n, c, rfl⟩ := h2.form
      rw [h1]
      exact ⟨_, _, _, _, rfl, rfl, rfl, rfl⟩
    | succ i =>
      obtain ⟨x, y, z, u, e1, e2, e3, e4⟩ := NodeVs.get h3 i (by simpa using hi)
      refine ⟨x, y, z, u, ?_, ?_, ?_, ?_⟩ <;> rw [h1, List.getElem?_append_right (by omega), hl]
      · rw [← e1]; congr 1; omega
      · rw [← e2]; congr 1; omega
      · rw [← e3]; congr 1; omega
      · rw [← e4]; congr 1; omega
theorem NodeVs.set {w : World} {F : Nat → Prop} {τ' : Tx} {a' : List Value} (h' : NodeV w F τ' a') : ∀ {τs : List Tx} {css : List Value}, NodeVs w F τs css → ∀ (i : Nat), i < τs.length → NodeVs w F (τs.set i τ') (css.take (i * 4) ++ a' ++ css.drop (i * 4 + 4))
  | [], _, _, i, hi => by simp at hi
  | τ :: τs, css, h, i, hi => by
    obtain ⟨a, b, h1, h2, h3⟩ := h
    have hl := h2.len
    cases i with
    | zero =>
      refine ⟨a', b, ?_, h', h3⟩
      rw [h1]
      simp [hl]
    | succ i =>
      refine ⟨a, b.take (i * 4) ++ a' ++ b.drop (i * 4 + 4), ?_, h2, NodeVs.set h' h3 i (by simpa using hi)⟩
      rw [h1, show (i + 1) * 4 = a.length + i * 4 by omega, List.take_length_add_append, show a.length + i * 4 + 4 = a.length + (i * 4 + 4) by omega, List.drop_length_add_append]
      simp
theorem NodeVs.drop {w : World} {F : Nat → Prop} {τ : Tx} {τs : List Tx} {css : List Value} (h : NodeVs w F (τ :: τs) css) : NodeVs w F τs (css.drop 4) := by
  obtain ⟨a, b, h1, h2, h3⟩ := h
  rw [h1, List.drop_append_of_le_length (by rw [h2.len]; omega), ← h2.len, List.drop_length, List.nil_append]
  exact h3
end Go.Proofs.Ytniefnjcimempaa
