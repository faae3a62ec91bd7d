/- Expressions without addresses: what the laws build, and their types. Expressions without addresses, as the laws and the plans hold them in memory. -/
import Derived.Test.YtniefnjcimempaarRi
import Derived.Test.YtniefnjcimempaarRzF
import Derived.WalkSpells
namespace Go.Proofs.Ytniefnjcimempaa
open Go.RowKit
inductive Tx where
  | node (kind : Int) (text : List UInt8) (num : Int) (args : List Tx)
mutual
def Lx.er : Lx → Tx
  | .node _ k t n l => .node k t n (erL l)
def erL : List Lx → List Tx
  | [] => []
  | x :: l => x.er :: erL l
end
def Tx.kind : Tx → Int | .node k _ _ _ => k
def Tx.text : Tx → List UInt8 | .node _ t _ _ => t
def Tx.num : Tx → Int | .node _ _ n _ => n
def Tx.args : Tx → List Tx | .node _ _ _ l => l
mutual
def Tx.size : Tx → Nat
  | .node _ _ _ l => 1 + sizeTL l
def sizeTL : List Tx → Nat
  | [] => 0
  | x :: l => x.size + sizeTL l
end
mutual
def Tx.all (p : Tx → Bool) : Tx → Bool
  | .node k t n l => p (.node k t n l) && allTL p l
def allTL (p : Tx → Bool) : List Tx → Bool
  | [] => true
  | x :: l => x.all p && allTL p l
end
theorem er_kind (x : Lx) : x.er.kind = x.kind := by cases x; rfl
theorem er_text (x : Lx) : x.er.text = x.text := by cases x; rfl
theorem er_args (x : Lx) : x.er.args = erL x.args := by cases x; rfl
theorem erL_map : ∀ l : List Lx, erL l = l.map Lx.er
  | [] => rfl
  | x :: l => by rw [erL, erL_map l]; rfl
end Go.Proofs.Ytniefnjcimempaa
namespace Go.Proofs.Ytniefnjcimempaa
open Go.RowKit
theorem blk4 {w : World} {g : Nat} {t : TypeId} {a b c d : Value} (h : Blk w g t #[a, b, c, d]) : w.cell? ⟨g, 0, none⟩ = some a ∧ w.cell? ⟨g, 1, none⟩ = some b ∧ w.cell? ⟨g, 2, none⟩ = some c ∧ w.cell? ⟨g, 3, none⟩ = some d ∧
    w.frozen? ⟨g, 0, none⟩ = false ∧ w.frozen? ⟨g, 1, none⟩ = false ∧ w.frozen? ⟨g, 2, none⟩ = false ∧ w.frozen? ⟨g, 3, none⟩ = false :=
  ⟨h.cell 0, h.cell 1, h.cell 2, h.cell 3, h.frozen 0, h.frozen 1, h.frozen 2, h.frozen 3⟩
theorem four_set {w w1 : World} {g : Nat} {a b c d : Value} (h : Below w.heap.size w w1) (hg : w.heap.size ≤ g) : Below w.heap.size w ((((w1.setCell ⟨g, 0, none⟩ a).setCell ⟨g, 1, none⟩ b).setCell ⟨g, 2, none⟩ c).setCell ⟨g, 3, none⟩ d) :=
  (((h.setCell hg a).setCell hg b).setCell hg c).setCell hg d
def NodeV (w : World) (F : Nat → Prop) (τ : Tx) (cs : List Value) : Prop :=
  ∃ (A : Option Addr) (c : Nat) (l : List Lx), cs = [.int .i64 τ.kind, .string ⟨τ.text.toArray⟩, .int .i64 τ.num, .slice A τ.args.length c] ∧ erL l = τ.args ∧ LxAts w F A 0 l
def NodeVs (w : World) (F : Nat → Prop) : List Tx → List Value → Prop
  | [], cs => cs = []
  | τ :: τs, cs => ∃ a b, cs = a ++ b ∧ NodeV w F τ a ∧ NodeVs w F τs b
theorem NodeV.keep {w w' : World} {F G : Nat → Prop} (hk : ∀ i, F i → i < w.heap.size → w'.heap[i]? = w.heap[i]?) (hG : ∀ i, F i → i < w.heap.size → G i) {τ : Tx} {cs : List Value} (h : NodeV w F τ cs) : NodeV w' G τ cs := by
  obtain ⟨A, c, l, h1, h2, h3⟩ := h
  exact ⟨A, c, l, h1, h2, LxAts.keep hk hG A 0 l h3⟩
theorem NodeVs.keep {w w' : World} {F G : Nat → Prop} (hk : ∀ i, F i → i < w.heap.size → w'.heap[i]? = w.heap[i]?) (hG : ∀ i, F i → i < w.heap.size → G i) : ∀ {τs : List Tx} {cs : List Value}, NodeVs w F τs cs → NodeVs w' G τs cs
  | [], _, h => h
  | τ :: τs, cs, h => by
    obtain ⟨a, b, h1, h2, h3⟩ := h
    exact ⟨a, b, h1, h2.keep hk hG, NodeVs.keep hk hG h3⟩
theorem NodeV.len {w : World} {F : Nat → Prop} {τ : Tx} {cs : List Value} (h : NodeV w F τ cs) : cs.length = 4 := by
  obtain ⟨A, c, l, rfl, _⟩ := h
  rfl
theorem NodeV.form {w : World} {F : Nat → Prop} {τ : Tx} {cs : List Value} (h : NodeV w F τ cs) : ∃ k t m A n c, cs = [.int .i64 k, .string t, .int .i64 m, .slice A n c] := by
  obtain ⟨A, c, l, rfl, _⟩ := h
  exact ⟨_, _, _, _, _, _, rfl⟩
theorem NodeVs.len {w : World} {F : Nat → Prop} : ∀ {τs : List Tx} {cs : List Value}, NodeVs w F τs cs → cs.length = τs.length * 4
  | [], cs, h => by
    have h : cs = [] := h
    rw [h]; rfl
  | τ :: τs, cs, h => by
    obtain ⟨a, b, h1, h2, h3⟩ := h
    rw [h1, List.length_append, h2.len, NodeVs.len h3, List.length_cons]
    omega
theorem NodeVs.append {w : World} {F : Nat → Prop} : ∀ {τs τs' : List Tx} {cs cs' : List Value}, NodeVs w F τs cs → NodeVs w F τs' cs' → NodeVs w F (τs ++ τs') (cs ++ cs')
  | [], _, cs, _, h, h' => by
    have h : cs = [] := h
    rw [h]; exact h'
  | τ :: τs, _, cs, _, h, h' => by
    obtain ⟨a, b, h1, h2, h3⟩ := h
    exact ⟨a, b ++ _, by rw [h1, List.append_assoc], h2, NodeVs.append h3 h'⟩
theorem NodeVs.one {w : World} {F : Nat → Prop} {τ : Tx} {cs : List Value} (h : NodeV w F τ cs) : NodeVs w F [τ] cs := ⟨cs, [], by simp, h, rfl⟩
theorem NodeV.call {w : World} {F : Nat → Prop} {A : Option Addr} {c m : Nat} {τs : List Tx} {l : List Lx} (k : Int) (t : List UInt8) (n : Int) (h1 : erL l = τs) (h2 : LxAts w F A 0 l) (hm : m = τs.length) : NodeV w F (.node k t n τs) [.int .i64 k, .string ⟨t.toArray⟩, .int .i64 n, .slice A m c] :=
  ⟨A, c, l, by rw [hm]; rfl, h1, h2⟩
theorem NodeV.lt {w : World} {a : Nat} {τ : Tx} {cs : List Value} (h : NodeV w (rng a w.heap.size) τ cs) : NodeV w (fun i => i < w.heap.size) τ cs := NodeV.keep (w' := w) (fun _ _ _ => rfl) (fun _ h _ => h.2) h
theorem NodeV.below {w w' : World} {τ : Tx} {cs : List Value} (h : NodeV w (fun i => i < w.heap.size) τ cs) (hb : Below w.heap.size w w') : NodeV w' (fun i => i < w'.heap.size) τ cs :=
  h.keep (fun i (hi : i < _) _ => hb.block i hi) (fun _ hi _ => Nat.lt_of_lt_of_le hi hb.size)
theorem NodeVs.below {w w' : World} {τs : List Tx} {cs : List Value} (h : NodeVs w (fun i => i < w.heap.size) τs cs) (hb : Below w.heap.size w w') : NodeVs w' (fun i => i < w'.heap.size) τs cs :=
  h.keep (fun i (hi : i < _) _ => hb.block i hi) (fun _ hi _ => Nat.lt_of_lt_of_le hi hb.size)
theorem NodeV.drewN {w : World} {F : Nat → Prop} {τ : Tx} {cs : List Value} (h : NodeV w F τ cs) (n : Nat) : NodeV (w.drewN n) F τ cs := NodeV.keep (w := w) (w' := w.drewN n) (fun _ _ _ => rfl) (fun _ h _ => h) h
end Go.Proofs.Ytniefnjcimempaa
