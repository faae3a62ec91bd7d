/- A row of the call's own, opened and closed again. -/
import Derived.Test.YtfdpohceoabinaaLxM
namespace Go.Proofs.Ytfdpohceoabinaa
open Go.RowKit
theorem own_full {w : World} {base e size n : Nat} {v : Value} {xs : List Value} (h : w.ownsRow base e size v n xs) (hn : 0 < n) : ∃ (g c : Nat) (cur : Array Value), v = .slice (some ⟨g, 0, none⟩) n c ∧ n ≤ c ∧ base ≤ g ∧ Blk w g e cur ∧ cur.size = c * size ∧ cur.toList.take (n * size) = xs ∧
    (∀ (w' : World) (cur' : Array Value) (ys : List Value), Blk w' g e cur' → cur'.size = cur.size → ys.length = n * size → cur'.toList.take (n * size) = ys → w'.ownsRow base e size v n ys) := by
  obtain ⟨h1, h2⟩ := h
  rcases h2 with ⟨_, rfl⟩ | ⟨g, cap, cur, hv, h3, h4, h5, h6, h7, h8⟩
  · omega
  · exact ⟨g, cap, cur, hv, h5, h3, h4, h7, h8, fun w' cur' ys hb hs hl ht => ⟨hl, .inr ⟨g, cap, cur', hv, h3, hb, h5, h6, hs.trans h7, ht⟩⟩⟩
/-- The last element of a row of four cells each. -/
theorem last_cells {cur : Array Value} {n : Nat} {xs : List Value} {a b c d : Value} (h : cur.toList.take ((n + 1) * 4) = xs ++ [a, b, c, d]) (hl : xs.length = 4 * n) : cur[n * 4]? = some a ∧ cur[n * 4 + 1]? = some b ∧ cur[n * 4 + 2]? = some c ∧ cur[n * 4 + 3]? = some d := by
  have hh : ∀ j (u : Value), j < 4 → ([a, b, c, d] : List Value)[j]? = some u → cur[n * 4 + j]? = some u := fun j u hj hu => by
    have h1 : (cur.toList.take ((n + 1) * 4))[n * 4 + j]? = some u := by
      rw [h, List.getElem?_append_right (by omega), show n * 4 + j - xs.length = j by omega]
      exact hu
    rw [List.getElem?_take_of_lt (by omega)] at h1
    simpa using h1
  exact ⟨hh 0 a (by omega) rfl, hh 1 b (by omega) rfl, hh 2 c (by omega) rfl, hh 3 d (by omega) rfl⟩
theorem last_set {cur : Array Value} {n : Nat} {xs : List Value} {a b c d : Value} (h : cur.toList.take ((n + 1) * 4) = xs ++ [a, b, c, d]) (hl : xs.length = 4 * n) (c' : Value) : (cur.setIfInBounds (n * 4 + 2) c').toList.take ((n + 1) * 4) = xs ++ [a, b, c', d] := by
  rw [Array.toList_setIfInBounds, List.take_set, h, List.set_append_right _ _ (by omega), show n * 4 + 2 - xs.length = 2 by omega]
  rfl
theorem last_set2 {cur : Array Value} {n : Nat} {xs : List Value} {a b c d : Value} (h : cur.toList.take ((n + 1) * 4) = xs ++ [a, b, c, d]) (hl : xs.length = 4 * n) (c' d' : Value) : ((cur.setIfInBounds (n * 4 + 3) d').setIfInBounds (n * 4 + 2) c').toList.take ((n + 1) * 4) = xs ++ [a, b, c', d'] := by
  refine last_set (d := d') (c := c) ?_ hl c'
  rw [Array.toList_setIfInBounds, List.take_set, h, List.set_append_right _ _ (by omega), show n * 4 + 3 - xs.length = 3 by omega]
  rfl
end Go.Proofs.Ytfdpohceoabinaa
