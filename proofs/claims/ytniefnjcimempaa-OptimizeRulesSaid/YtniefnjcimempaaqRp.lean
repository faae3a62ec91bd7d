/- Rows of expressions: cut at the front, and one of them replaced. tree.Order, for a tree in memory. -/
import Derived.Test.YtniefnjcimempaaqRj
import Derived.Test.YtniefnjcimempaaqRx4
import Derived.Test.YtniefnjcimempaaqRx2
namespace Go.Proofs.Ytniefnjcimempaa
open Go.RowKit
theorem own_lt {w : World} {base e size n : Nat} {v : Value} {xs : List Value} (h : w.ownsRow base e size v n xs) (g : Nat) (hg : v.ownBlock = some g) : g < w.heap.size := by
  obtain ⟨_, cur, hc⟩ := own_lo h hg
  exact hc.lt
theorem nodeVs_one {w : World} {F : Nat → Prop} : ∀ {τs : List Tx} {css : List Value}, NodeVs w F τs css → ∀ u ∈ css, u.oneCell' = true
  | [], css, h, u, hu => by
    have h : css = [] := h
    rw [h] at hu; cases hu
  | τ :: τs, css, h, u, hu => by
    obtain ⟨a, b, h1, h2, h3⟩ := h
    rw [h1] at hu
    rcases List.mem_append.1 hu with hu | hu
    · obtain ⟨k, t, m, A, n, c, rfl⟩ := h2.form
      simp only [List.mem_cons, List.not_mem_nil, or_false] at hu
      rcases hu with rfl | rfl | rfl | rfl <;> rfl
    · exact nodeVs_one h3 u hu
/-- A call of a function with a row's expressions. -/
theorem row_call {wr wk : World} {gl n c : Nat} {cur : Array Value} {css : List Value} {τs : List Tx} (hB : Blk wr gl 31 cur) (ht : cur.toList.take (n * 4) = css) (hn : NodeVs wr (fun i => i < wr.heap.size) τs css) (hl : n = τs.length) (hb : Below wr.heap.size wr wk) (nm : List UInt8) :
    NodeV wk (fun i => i < wk.heap.size) (.node 4 nm 0 τs) [.int .i64 4, .string ⟨nm.toArray⟩, .int .i64 0, .slice (some ⟨gl, 0, none⟩) n c] :=
  node_calls (F := fun i => i < wk.heap.size) (css := css) (hB.below hb hB.lt) (Nat.lt_of_lt_of_le hB.lt hb.size) (hn.below hb) (fun j u hj => by
    rw [← ht, List.getElem?_take] at hj
    split at hj
    · simpa using hj
    · cases hj) hl nm
/-- The blocks from a place on, but for a row's own. -/
def offB (base : Nat) (w : World) (v : Value) : Nat → Prop := fun i => base ≤ i ∧ i < w.heap.size ∧ v.ownBlock ≠ some i
theorem rowB_add {base : Nat} {w w4 w5 : World} {v v5 : Value} {τs : List Tx} {τ : Tx} {css cs : List Value} (hn : NodeVs w (offB base w v) τs css) (hbase : base ≤ w.heap.size) (hb4 : Below w.heap.size w w4) (hn4 : NodeV w4 (fun i => w.heap.size ≤ i ∧ i < w4.heap.size) τ cs) (ob : Obj)
    (hv : ∀ g, v.ownBlock = some g → g < w.heap.size) (hg5 : (w4.alloc ob).grownBy w5 v.ownBlock) (hv5 : v5.ownBlock = v.ownBlock ∨ v5.ownBlock = some (w4.heap.size + 1)) : NodeVs w5 (offB base w5 v5) (τs ++ [τ]) (css ++ cs) := by
  have hz := hb4.size
  have hz5 := hg5.size
  simp at hz5
  have hne : ∀ i, i < w4.heap.size → v.ownBlock ≠ some i → v5.ownBlock ≠ some i := fun i hi hne he => by
    rcases hv5 with h | h
    · exact hne (by rw [← h]; exact he)
    · rw [h] at he; injection he with he; omega
  refine NodeVs.append ?_ (NodeVs.one ?_)
  · refine NodeVs.keep (F := offB base w v) (fun i hi hl => ?_) (fun i hi hl => ⟨hi.1, by omega, hne i (by omega) hi.2.2⟩) hn
    rw [hg5.block i (by simp; omega) (fun e => hi.2.2 e.symm), Below.heap_alloc w4 ob i (by omega), hb4.block i hl]
  · have hno : ∀ i, w.heap.size ≤ i → v.ownBlock ≠ some i := fun i hi he => by have := hv i he; omega
    refine NodeV.keep (F := fun i => w.heap.size ≤ i ∧ i < w4.heap.size) (fun i hi hl => ?_) (fun i hi hl => ⟨by omega, by have := hi.2; omega, hne i hi.2 (hno i hi.1)⟩) hn4
    rw [hg5.block i (by simp; omega) (fun e => hno i hi.1 e.symm), Below.heap_alloc w4 ob i hi.2]
theorem lxAts_shift {w : World} {F : Nat → Prop} {g o : Nat} : ∀ (l : List Lx) (i j : Nat), LxAts w F (some ⟨g, o, none⟩) (i + j) l → LxAts w F (some ⟨g, o + i * 4, none⟩) j l
  | [], _, _, _ => by unfold LxAts; trivial
  | x :: l, i, j, h => by
    unfold LxAts at h ⊢
    obtain ⟨⟨b, o', h1, h2⟩, h3, h4⟩ := h
    injection h1 with h1
    injection h1 with h1 h1'
    subst h1 h1'
    exact ⟨⟨g, o + i * 4, rfl, by rw [h2]; congr 1; omega⟩, h3, lxAts_shift l i (j + 1) (by rw [← Nat.add_assoc]; exact h4)⟩
theorem NodeVs.at_ {w : World} {F : Nat → Prop} : ∀ {τs : List Tx} {css : List Value}, NodeVs w F τs css → ∀ (i : Nat) (τ : Tx), τs[i]? = some τ → ∃ k t m A n c, NodeV w F τ [.int .i64 k, .string t, .int .i64 m, .slice A n c] ∧ ∀ (j : Nat) u, ([.int .i64 k, .string t, .int .i64 m, .slice A n c] : List Value)[j]? = some u → css[i * 4 + j]? = some u
  | [], _, _, i, τ, hs => by simp at hs
  | x :: τs, css, h, i, τ, hs => by
    obtain ⟨a, b, h1, h2, h3⟩ := h
    have hl := h2.len
    cases i with
    | zero =>
      simp only [List.getElem?_cons_zero, Option.some.injEq] at hs
      subst hs
      obtain ⟨k, t, m, A, n, c, rfl⟩ := h2.form
      exact ⟨k, t, m, A, n, c, h2, fun j u hj => by rw [h1, List.getElem?_append_left (by rw [Nat.zero_mul, Nat.zero_add]; exact (List.getElem?_eq_some_iff.1 hj).1), Nat.zero_mul, Nat.zero_add]; exact hj⟩
    | succ i =>
      obtain ⟨k, t, m, A, n, c, e1, e2⟩ := NodeVs.at_ h3 i τ (by simpa using hs)
      refine ⟨k, t, m, A, n, c, e1, fun j u hj => ?_⟩
      rw [h1, List.getElem?_append_right (by omega), hl, show (i + 1) * 4 + j - 4 = i * 4 + j by omega]
      exact e2 j u hj
theorem NodeVs.get {w : World} {F : Nat → Prop} : ∀ {τs : List Tx} {css : List Value}, NodeVs w F τs css → ∀ (i : Nat), i < τs.length → ∃ a b c d, css[i * 4]? = some a ∧ css[i * 4 + 1]? = some b ∧ css[i * 4 + 2]? = some c ∧ css[i * 4 + 3]? = some d
  | [], _, _, i, hi => by simp at hi
  | τ :: τs, css, h, i, hi => by
    obtain ⟨a, b, h1, h2, h3⟩ := h
    have hl := h2.len
    cases i with
    | zero =>
      obtain ⟨k, t, m, A, n, c, rfl⟩ := h2.form
      rw [h1]
      exact ⟨_, _, _, _, rfl, rfl, rfl, rfl⟩
    | succ i =>
      obtain ⟨x, y, z, u, e1, e2, e3, e4⟩ := NodeVs.get h3 i (by simpa using hi)
      refine ⟨x, y, z, u, ?_, ?_, ?_, ?_⟩ <;> rw [h1, List.getElem?_append_right (by omega), hl]
      · rw [← e1]; congr 1; omega
      · rw [← e2]; congr 1; omega
      · rw [← e3]; congr 1; omega
      · rw [← e4]; congr 1; omega
theorem NodeVs.set {w : World} {F : Nat → Prop} {τ' : Tx} {a' : List Value} (h' : NodeV w F τ' a') : ∀ {τs : List Tx} {css : List Value}, NodeVs w F τs css → ∀ (i : Nat), i < τs.length → NodeVs w F (τs.set i τ') (css.take (i * 4) ++ a' ++ css.drop (i * 4 + 4))
  | [], _, _, i, hi => by simp at hi
  | τ :: τs, css, h, i, hi => by
    obtain ⟨a, b, h1, h2, h3⟩ := h
    have hl := h2.len
    cases i with
    | zero =>
      refine ⟨a', b, ?_, h', h3⟩
      rw [h1]
      simp [hl]
    | succ i =>
      refine ⟨a, b.take (i * 4) ++ a' ++ b.drop (i * 4 + 4), ?_, h2, NodeVs.set h' h3 i (by simpa using hi)⟩
      rw [h1, show (i + 1) * 4 = a.length + i * 4 by omega, List.take_length_add_append, show a.length + i * 4 + 4 = a.length + (i * 4 + 4) by omega, List.drop_length_add_append]
      simp
theorem NodeVs.drop {w : World} {F : Nat → Prop} {τ : Tx} {τs : List Tx} {css : List Value} (h : NodeVs w F (τ :: τs) css) : NodeVs w F τs (css.drop 4) := by
  obtain ⟨a, b, h1, h2, h3⟩ := h
  rw [h1, List.drop_append_of_le_length (by rw [h2.len]; omega), ← h2.len, List.drop_length, List.nil_append]
  exact h3
/-- Four cells of a row are set. -/
theorem set_four {cur : Array Value} {n i : Nat} {css : List Value} {a b c d : Value} (h : cur.toList.take (n * 4) = css) (hi : i < n) (hn : n * 4 ≤ cur.size) : ∀ (j : Nat) (u : Value), (css.take (i * 4) ++ [a, b, c, d] ++ css.drop (i * 4 + 4))[j]? = some u →
    ((((cur.setIfInBounds (i * 4) a).setIfInBounds (i * 4 + 1) b).setIfInBounds (i * 4 + 2) c).setIfInBounds (i * 4 + 3) d)[j]? = some u := by
  intro j u hu
  have hl : css.length = n * 4 := by rw [← h]; simp; omega
  have hc : ∀ j u, css[j]? = some u → cur[j]? = some u := fun j u hj => by
    rw [← h, List.getElem?_take] at hj
    split at hj
    · simpa using hj
    · cases hj
  simp only [Array.getElem?_setIfInBounds]
  rcases Nat.lt_or_ge j (i * 4) with h1 | h1
  · rw [List.append_assoc, List.getElem?_append_left (by simp; omega), List.getElem?_take_of_lt h1] at hu
    rw [if_neg (by omega), if_neg (by omega), if_neg (by omega), if_neg (by omega)]
    exact hc j u hu
  · rcases Nat.lt_or_ge j (i * 4 + 4) with h2 | h2
    · rw [List.append_assoc, List.getElem?_append_right (by simp; omega), List.getElem?_append_left (by simp; omega)] at hu
      have hlt : (css.take (i * 4)).length = i * 4 := by simp; omega
      rw [hlt] at hu
      have : j = i * 4 ∨ j = i * 4 + 1 ∨ j = i * 4 + 2 ∨ j = i * 4 + 3 := by omega
      rcases this with rfl | rfl | rfl | rfl
      · rw [if_neg (by omega), if_neg (by omega), if_neg (by omega), if_pos rfl, if_pos (by omega)]
        rw [Nat.sub_self] at hu; exact hu
      · rw [if_neg (by omega), if_neg (by omega), if_pos rfl, if_pos (by simp; omega)]
        rw [Nat.add_sub_cancel_left] at hu; exact hu
      · rw [if_neg (by omega), if_pos rfl, if_pos (by simp; omega)]
        rw [Nat.add_sub_cancel_left] at hu; exact hu
      · rw [if_pos rfl, if_pos (by simp; omega)]
        rw [Nat.add_sub_cancel_left] at hu; exact hu
    · rw [List.getElem?_append_right (by simp; omega)] at hu
      have hlt : (css.take (i * 4) ++ [a, b, c, d]).length = i * 4 + 4 := by simp; omega
      rw [hlt, List.getElem?_drop, show i * 4 + 4 + (j - (i * 4 + 4)) = j by omega] at hu
      rw [if_neg (by omega), if_neg (by omega), if_neg (by omega), if_neg (by omega)]
      exact hc j u hu
end Go.Proofs.Ytniefnjcimempaa
namespace Go.Proofs.Ytniefnjcimempaa
open Go.RowKit
theorem true_ord (a : Addr) (w : World) : Calls Try.prog 43 #[.pointer (some a)] w fun e w' => e = .returned (.bool true) ∧ w = w' := by
  go_enter Try.func43, Try.ntmps43
  go_wp2_with fail
  go_ret
  exact ⟨rfl, rfl⟩
/-- What tree.Order answers, for a tree in memory. -/
theorem Order_any (r : Lx) (w : World) (hr : LxAt w (fun i => i < w.heap.size) r) (hsz : r.size ≤ 1000000) :
    Calls Try.prog 28 #[.pointer (some r.ad)] w (OrdEnd w (fun _ => true) r) := by
  have hc := order_any 43 (fun _ => true) r w (fun _ _ => by kernel_rfl) hr hsz (fun x w1 _ _ => true_ord _ _)
  go_enter Try.func28, Try.ntmps28
  go_wp2_with fail
  refine hc.mono ?_
  rintro e w1 he
  have he1 := he
  obtain ⟨he, hbel⟩ := he
  rw [if_pos (allT r)] at he
  obtain ⟨v, out, rfl, _⟩ := he
  go_wp2_with fail
  go_ret2
  exact he1
end Go.Proofs.Ytniefnjcimempaa
