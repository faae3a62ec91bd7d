/- Expressions without addresses, as the laws and the plans hold them in memory. -/
import Derived.Test.YtfdpohceoabinaaTx
namespace Go.Proofs.Ytfdpohceoabinaa
open Go.RowKit
/-- The four cells of an expression. -/
def NodeV (w : World) (F : Nat → Prop) (τ : Tx) (cs : List Value) : Prop :=
  ∃ (A : Option Addr) (c : Nat) (l : List Lx), cs = [.int .i64 τ.kind, .string ⟨τ.text.toArray⟩, .int .i64 τ.num, .slice A τ.args.length c] ∧ erL l = τ.args ∧ LxAts w F A 0 l
def NodeVs (w : World) (F : Nat → Prop) : List Tx → List Value → Prop
  | [], cs => cs = []
  | τ :: τs, cs => ∃ a b, cs = a ++ b ∧ NodeV w F τ a ∧ NodeVs w F τs b
theorem NodeV.keep {w w' : World} {F G : Nat → Prop} (hk : ∀ i, F i → i < w.heap.size → w'.heap[i]? = w.heap[i]?) (hG : ∀ i, F i → i < w.heap.size → G i) {τ : Tx} {cs : List Value} (h : NodeV w F τ cs) : NodeV w' G τ cs := by
  obtain ⟨A, c, l, h1, h2, h3⟩ := h
  exact ⟨A, c, l, h1, h2, LxAts.keep hk hG A 0 l h3⟩
theorem NodeVs.keep {w w' : World} {F G : Nat → Prop} (hk : ∀ i, F i → i < w.heap.size → w'.heap[i]? = w.heap[i]?) (hG : ∀ i, F i → i < w.heap.size → G i) : ∀ {τs : List Tx} {cs : List Value}, NodeVs w F τs cs → NodeVs w' G τs cs
  | [], _, h => h
  | τ :: τs, cs, h => by
    obtain ⟨a, b, h1, h2, h3⟩ := h
    exact ⟨a, b, h1, h2.keep hk hG, NodeVs.keep hk hG h3⟩
theorem NodeV.len {w : World} {F : Nat → Prop} {τ : Tx} {cs : List Value} (h : NodeV w F τ cs) : cs.length = 4 := by
  obtain ⟨A, c, l, rfl, _⟩ := h
  rfl
theorem NodeV.form {w : World} {F : Nat → Prop} {τ : Tx} {cs : List Value} (h : NodeV w F τ cs) : ∃ k t m A n c, cs = [.int .i64 k, .string t, .int .i64 m, .slice A n c] := by
  obtain ⟨A, c, l, rfl, _⟩ := h
  exact ⟨_, _, _, _, _, _, rfl⟩
theorem NodeVs.len {w : World} {F : Nat → Prop} : ∀ {τs : List Tx} {cs : List Value}, NodeVs w F τs cs → cs.length = τs.length * 4
  | [], cs, h => by
    have h : cs = [] := h
    rw [h]; rfl
  | τ :: τs, cs, h => by
    obtain ⟨a, b, h1, h2, h3⟩ := h
    rw [h1, List.length_append, h2.len, NodeVs.len h3, List.length_cons]
    omega
theorem NodeVs.append {w : World} {F : Nat → Prop} : ∀ {τs τs' : List Tx} {cs cs' : List Value}, NodeVs w F τs cs → NodeVs w F τs' cs' → NodeVs w F (τs ++ τs') (cs ++ cs')
  | [], _, cs, _, h, h' => by
    have h : cs = [] := h
    rw [h]; exact h'
  | τ :: τs, _, cs, _, h, h' => by
    obtain ⟨a, b, h1, h2, h3⟩ := h
    exact ⟨a, b ++ _, by rw [h1, List.append_assoc], h2, NodeVs.append h3 h'⟩
theorem NodeVs.one {w : World} {F : Nat → Prop} {τ : Tx} {cs : List Value} (h : NodeV w F τ cs) : NodeVs w F [τ] cs := ⟨cs, [], by simp, h, rfl⟩
/-- Expressions in a row of a block. -/
theorem lx_row {w : World} {F : Nat → Prop} {g : Nat} {t : TypeId} {cs : Array Value} (hb : Blk w g t cs) (hF : F g) : ∀ (τs : List Tx) (css : List Value) (i : Nat), NodeVs w F τs css → (∀ j u, css[j]? = some u → cs[i * 4 + j]? = some u) →
    ∃ xs, erL xs = τs ∧ LxAts w F (some ⟨g, 0, none⟩) i xs
  | [], _, i, _, _ => ⟨[], rfl, by unfold LxAts; trivial⟩
  | .node k t n args :: τs, css, i, h, hc => by
    obtain ⟨a, b, h1, ⟨A, c, l, h2, h3, h4⟩, h5⟩ := h
    obtain ⟨xs, e1, e2⟩ := lx_row hb hF τs b (i + 1) h5 (fun j u hj => by
      rw [show (i + 1) * 4 + j = i * 4 + (4 + j) by omega]
      refine hc _ u ?_
      rw [h1, List.getElem?_append_right (by rw [h2]; simp), h2]
      simpa using hj)
    have h3' : erL l = args := h3
    have hn : args.length = l.length := by rw [← h3', erL_length]
    refine ⟨.node ⟨g, i * 4, none⟩ k t n l :: xs, by rw [erL, Lx.er, h3', e1], ?_⟩
    have hh : ∀ j u, a[j]? = some u → cs[i * 4 + j]? = some u := fun j u hj => hc j u (by rw [h1, List.getElem?_append_left (List.getElem?_eq_some_iff.1 hj).1]; exact hj)
    rw [h2] at hh
    unfold LxAts
    refine ⟨⟨g, 0, rfl, by rw [Nat.zero_add]; rfl⟩, ?_, e2⟩
    unfold LxAt
    refine ⟨g, i * 4, A, c, _, cs, rfl, hF, hb, hh 0 _ rfl, hh 1 _ rfl, hh 2 _ rfl, ?_, h4⟩
    rw [← hn]
    exact hh 3 _ rfl
/-- A leaf, and a call, as values. -/
theorem NodeV.leaf (w : World) (F : Nat → Prop) (k : Int) (t : List UInt8) (n : Int) : NodeV w F (.node k t n []) [.int .i64 k, .string ⟨t.toArray⟩, .int .i64 n, .slice none 0 0] :=
  ⟨none, 0, [], rfl, rfl, by unfold LxAts; trivial⟩
theorem NodeV.call {w : World} {F : Nat → Prop} {A : Option Addr} {c m : Nat} {τs : List Tx} {l : List Lx} (k : Int) (t : List UInt8) (n : Int) (h1 : erL l = τs) (h2 : LxAts w F A 0 l) (hm : m = τs.length) : NodeV w F (.node k t n τs) [.int .i64 k, .string ⟨t.toArray⟩, .int .i64 n, .slice A m c] :=
  ⟨A, c, l, by rw [hm]; rfl, h1, h2⟩
theorem NodeV.lt {w : World} {a : Nat} {τ : Tx} {cs : List Value} (h : NodeV w (rng a w.heap.size) τ cs) : NodeV w (fun i => i < w.heap.size) τ cs := NodeV.keep (w' := w) (fun _ _ _ => rfl) (fun _ h _ => h.2) h
theorem NodeV.below {w w' : World} {τ : Tx} {cs : List Value} (h : NodeV w (fun i => i < w.heap.size) τ cs) (hb : Below w.heap.size w w') : NodeV w' (fun i => i < w'.heap.size) τ cs :=
  h.keep (fun i (hi : i < _) _ => hb.block i hi) (fun _ hi _ => Nat.lt_of_lt_of_le hi hb.size)
theorem NodeVs.below {w w' : World} {τs : List Tx} {cs : List Value} (h : NodeVs w (fun i => i < w.heap.size) τs cs) (hb : Below w.heap.size w w') : NodeVs w' (fun i => i < w'.heap.size) τs cs :=
  h.keep (fun i (hi : i < _) _ => hb.block i hi) (fun _ hi _ => Nat.lt_of_lt_of_le hi hb.size)
theorem NodeV.drewN {w : World} {F : Nat → Prop} {τ : Tx} {cs : List Value} (h : NodeV w F τ cs) (n : Nat) : NodeV (w.drewN n) F τ cs := NodeV.keep (w := w) (w' := w.drewN n) (fun _ _ _ => rfl) (fun _ h _ => h) h
/-- A call whose arguments lie in a block. -/
theorem node_calls {w : World} {F : Nat → Prop} {g : Nat} {t : TypeId} {cs : Array Value} {τs : List Tx} {css : List Value} {m c : Nat} (hb : Blk w g t cs) (hF : F g) (h : NodeVs w F τs css) (hc : ∀ (j : Nat) (u : Value), css[j]? = some u → cs[j]? = some u) (hm : m = τs.length) (txt : List UInt8) :
    NodeV w F (.node 4 txt 0 τs) [.int .i64 4, .string ⟨txt.toArray⟩, .int .i64 0, .slice (some ⟨g, 0, none⟩) m c] := by
  obtain ⟨xs, h1, h2⟩ := lx_row hb hF τs css 0 h (fun j (u : Value) hj => by rw [Nat.zero_mul, Nat.zero_add]; exact hc j u hj)
  exact NodeV.call 4 txt 0 h1 h2 hm
theorem node_call2 {w : World} {F : Nat → Prop} {g : Nat} {t : TypeId} {a b : List Value} {τ₁ τ₂ : Tx} {c : Nat} (hb : Blk w g t (a ++ b).toArray) (hF : F g) (h1 : NodeV w F τ₁ a) (h2 : NodeV w F τ₂ b) (txt : List UInt8) :
    NodeV w F (.node 4 txt 0 [τ₁, τ₂]) [.int .i64 4, .string ⟨txt.toArray⟩, .int .i64 0, .slice (some ⟨g, 0, none⟩) 2 c] :=
  node_calls hb hF (τs := [τ₁, τ₂]) (css := a ++ b) ⟨a, b, rfl, h1, NodeVs.one h2⟩ (fun j (u : Value) hj => by simpa using hj) rfl txt
/-- What types.Of answers. -/
def ofT (τ : Tx) : Value := if τ.all isNT = true then (match typT τ with
  | .ok t => .tuple #[.int .i64 t, .nilIface]
  | .error u => .tuple #[.int .i64 0, u]) else .tuple #[.int .i64 0, .iface 33 (.int .i64 4)]
end Go.Proofs.Ytfdpohceoabinaa
