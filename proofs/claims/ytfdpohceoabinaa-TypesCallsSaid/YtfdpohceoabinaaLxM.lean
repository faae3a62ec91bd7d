/- An expression in memory; rows of the call's own that are cut. -/
import Derived.Test.YtfdpohceoabinaaOrd
import Derived.Test.YtfdpohceoabinaaProg
import Derived.WalkKit
namespace Go.Proofs.Ytfdpohceoabinaa
open Go.RowKit
mutual
/-- The node lies at its address, its arguments in blocks of F, no block of which bears a mark. -/
def LxAt (w : World) (F : Nat → Prop) : Lx → Prop
  | .node ad kind text num args => ∃ (b o : Nat) (A : Option Addr) (c : Nat) (t : TypeId) (cs : Array Value), ad = ⟨b, o, none⟩ ∧ F b ∧ Blk w b t cs ∧ cs[o]? = some (.int .i64 kind) ∧ cs[o + 1]? = some (.string ⟨text.toArray⟩) ∧ cs[o + 2]? = some (.int .i64 num) ∧
      cs[o + 3]? = some (.slice A args.length c) ∧ LxAts w F A 0 args
def LxAts (w : World) (F : Nat → Prop) (A : Option Addr) : Nat → List Lx → Prop
  | _, [] => True
  | i, x :: l => (∃ b o, A = some ⟨b, o, none⟩ ∧ x.ad = ⟨b, o + i * 4, none⟩) ∧ LxAt w F x ∧ LxAts w F A (i + 1) l
end
mutual
theorem LxAt.keep {w w' : World} {F G : Nat → Prop} (hk : ∀ i, F i → i < w.heap.size → w'.heap[i]? = w.heap[i]?) (hG : ∀ i, F i → i < w.heap.size → G i) : ∀ x : Lx, LxAt w F x → LxAt w' G x
  | .node _ _ _ _ args, h => by
    unfold LxAt at h ⊢
    obtain ⟨b, o, A, c, t, cs, h1, h2, h3, h4, h5, h6, h7, h8⟩ := h
    exact ⟨b, o, A, c, t, cs, h1, hG b h2 h3.lt, (hk b h2 h3.lt).trans h3, h4, h5, h6, h7, LxAts.keep hk hG A 0 args h8⟩
theorem LxAts.keep {w w' : World} {F G : Nat → Prop} (hk : ∀ i, F i → i < w.heap.size → w'.heap[i]? = w.heap[i]?) (hG : ∀ i, F i → i < w.heap.size → G i) (A : Option Addr) : ∀ (i : Nat) (l : List Lx), LxAts w F A i l → LxAts w' G A i l
  | _, [], h => by unfold LxAts at h ⊢; exact h
  | i, x :: l, h => by
    unfold LxAts at h ⊢
    exact ⟨h.1, LxAt.keep hk hG x h.2.1, LxAts.keep hk hG A (i + 1) l h.2.2⟩
end
theorem LxAts.get {w : World} {F : Nat → Prop} {A : Option Addr} : ∀ {l : List Lx} {i : Nat}, LxAts w F A i l → ∀ (j : Nat) (x : Lx), l[j]? = some x → (∃ b o, A = some ⟨b, o, none⟩ ∧ x.ad = ⟨b, o + (i + j) * 4, none⟩) ∧ LxAt w F x
  | [], _, _, j, x, hx => by simp at hx
  | y :: l, i, h, j, x, hx => by
    unfold LxAts at h
    cases j with
    | zero =>
      simp only [List.getElem?_cons_zero, Option.some.injEq] at hx
      subst hx
      exact ⟨h.1, h.2.1⟩
    | succ j =>
      obtain ⟨h1, h2⟩ := h.2.2.get j x (by simpa using hx)
      exact ⟨by rw [show i + (j + 1) = i + 1 + j by omega]; exact h1, h2⟩
theorem LxAt.sub {w : World} {F : Nat → Prop} {x r : Lx} (h : Sub x r) (hr : LxAt w F r) : LxAt w F x := by
  induction h with
  | refl r => exact hr
  | @arg x y r h1 _ ih =>
    have hy := ih hr
    obtain ⟨ad, k, t, n, l⟩ := y
    unfold LxAt at hy
    obtain ⟨b, o, A, c, t, cs, _, _, _, _, _, _, _, h8⟩ := hy
    obtain ⟨j, hj⟩ := List.getElem?_of_mem (show x ∈ l from h1)
    exact (h8.get j x hj).2
mutual
/-- What lies at one address is one expression. -/
theorem LxAt.det {w : World} {F G : Nat → Prop} : ∀ (x y : Lx), LxAt w F x → LxAt w G y → x.ad = y.ad → x = y
  | .node ad k t n l, .node ad' k' t' n' l', hx, hy, e => by
    unfold LxAt at hx hy
    obtain ⟨b, o, A, c, tt, cs, rfl, h2, h3, h4, h5, h6, h7, h8⟩ := hx
    obtain ⟨b', o', A', c', tt', cs', e1, g2, g3, g4, g5, g6, g7, g8⟩ := hy
    have e2 : (⟨b, o, none⟩ : Addr) = ad' := e
    subst e2
    injection e1 with e1 e3
    subst e1 e3
    unfold Blk at h3 g3
    rw [h3] at g3
    injection g3 with g3
    injection g3 with g3 _ _
    subst g3
    rw [h4] at g4
    rw [h5] at g5
    rw [h6] at g6
    rw [h7] at g7
    injection g4 with g4
    injection g4 with _ g4
    injection g5 with g5
    injection g5 with g5
    injection g5 with g5
    injection g6 with g6
    injection g6 with _ g6
    injection g7 with g7
    injection g7 with gA gn _
    have hl := LxAts.det l l' 0 h8 (by rw [gA]; exact g8) gn
    have ht : t = t' := by
      have := congrArg Array.toList g5
      simpa using this
    rw [g4, ht, g6, hl]
theorem LxAts.det {w : World} {F G : Nat → Prop} {A : Option Addr} : ∀ (l l' : List Lx) (i : Nat), LxAts w F A i l → LxAts w G A i l' → l.length = l'.length → l = l'
  | [], [], _, _, _, _ => rfl
  | [], _ :: _, _, _, _, h => by simp at h
  | _ :: _, [], _, _, _, h => by simp at h
  | x :: l, y :: l', i, hx, hy, h => by
    unfold LxAts at hx hy
    obtain ⟨⟨b, o, a1, a2⟩, h2, h3⟩ := hx
    obtain ⟨⟨b', o', c1, c2⟩, g2, g3⟩ := hy
    rw [a1] at c1
    injection c1 with c1
    injection c1 with c1 c3
    subst c1 c3
    rw [LxAt.det x y h2 g2 (a2.trans c2.symm), LxAts.det l l' (i + 1) h3 g3 (by simpa using h)]
end
theorem LxAt.isDet {w : World} {F : Nat → Prop} {r : Lx} (h : LxAt w F r) : Det r := fun x y hx hy e => LxAt.det x y (LxAt.sub hx h) (LxAt.sub hy h) e
theorem LxAt.plain {w : World} {F : Nat → Prop} {x : Lx} (h : LxAt w F x) : plainA w x.ad ∧ F x.ad.block := by
  obtain ⟨ad, k, t, n, l⟩ := x
  unfold LxAt at h
  obtain ⟨b, o, A, c, tt, cs, rfl, h2, h3, _⟩ := h
  exact ⟨⟨tt, cs, h3⟩, h2⟩
/-- The four cells of a node. -/
theorem LxAt.cells {w : World} {F : Nat → Prop} {x : Lx} (h : LxAt w F x) : ∃ (b o : Nat) (A : Option Addr) (c : Nat), x.ad = ⟨b, o, none⟩ ∧ F b ∧ b < w.heap.size ∧ w.cell? ⟨b, o, none⟩ = some (.int .i64 x.kind) ∧ w.cell? ⟨b, o + 1, none⟩ = some (.string ⟨x.text.toArray⟩) ∧ w.cell? ⟨b, o + 2, none⟩ = some (.int .i64 x.num) ∧
    w.cell? ⟨b, o + 3, none⟩ = some (.slice A x.args.length c) ∧ LxAts w F A 0 x.args := by
  obtain ⟨ad, k, t, n, l⟩ := x
  unfold LxAt at h
  obtain ⟨b, o, A, c, tt, cs, rfl, h2, h3, h4, h5, h6, h7, h8⟩ := h
  exact ⟨b, o, A, c, rfl, h2, h3.lt, by rw [h3.cell]; exact h4, by rw [h3.cell]; exact h5, by rw [h3.cell]; exact h6, by rw [h3.cell]; exact h7, h8⟩
/-- A row of the call's own, cut at its end. -/
theorem own_cut {w : World} {base e size n c : Nat} {A : Option Addr} {xs : List Value} (h : w.ownsRow base e size (.slice A n c) n xs) (k : Nat) (hk : k ≤ n) (hn : 0 < n) : w.ownsRow base e size (.slice A k c) k (xs.take (k * size)) := by
  obtain ⟨h1, h2⟩ := h
  have hle : k * size ≤ n * size := Nat.mul_le_mul_right _ hk
  rcases h2 with ⟨_, rfl⟩ | ⟨g, cap, cur, hv, h3, h4, h5, h6, h7, h8⟩
  · omega
  · injection hv with hA _ hc
    subst hA hc
    refine ⟨by rw [List.length_take, h1]; omega, .inr ⟨g, c, cur, rfl, h3, h4, by omega, h6, h7, ?_⟩⟩
    rw [← h8, List.take_take, Nat.min_eq_left hle]
theorem own_at {w : World} {base e size n : Nat} {v : Value} {xs : List Value} (h : w.ownsRow base e size v n xs) (hn : 0 < n) : ∃ g c, v = .slice (some ⟨g, 0, none⟩) n c ∧ n ≤ c ∧ base ≤ g ∧ g < w.heap.size ∧ ∀ j u, xs[j]? = some u → w.cell? ⟨g, j, none⟩ = some u := by
  obtain ⟨h1, h2⟩ := h
  rcases h2 with ⟨_, rfl⟩ | ⟨g, cap, cur, hv, h3, h4, h5, h6, h7, h8⟩
  · omega
  · refine ⟨g, cap, hv, h5, h3, Blk.lt h4, fun j u hu => ?_⟩
    rw [cell_of_row w g j cur e (0, 0) h4]
    rw [← h8, List.getElem?_take] at hu
    split at hu
    · simpa using hu
    · cases hu
end Go.Proofs.Ytfdpohceoabinaa
