/- Expressions without addresses: what the laws build, and their types. Expressions without addresses, as the laws and the plans hold them in memory. -/
import Derived.Test.YtniefnjcimempaaqRi
import Derived.Test.YtniefnjcimempaaqTyN
namespace Go.Proofs.Ytniefnjcimempaa
open Go.RowKit
inductive Tx where
  | node (kind : Int) (text : List UInt8) (num : Int) (args : List Tx)
mutual
/-- An expression without its addresses. -/
def Lx.er : Lx → Tx
  | .node _ k t n l => .node k t n (erL l)
def erL : List Lx → List Tx
  | [] => []
  | x :: l => x.er :: erL l
end
def Tx.kind : Tx → Int | .node k _ _ _ => k
def Tx.text : Tx → List UInt8 | .node _ t _ _ => t
def Tx.num : Tx → Int | .node _ _ n _ => n
def Tx.args : Tx → List Tx | .node _ _ _ l => l
mutual
def Tx.size : Tx → Nat
  | .node _ _ _ l => 1 + sizeTL l
def sizeTL : List Tx → Nat
  | [] => 0
  | x :: l => x.size + sizeTL l
end
mutual
def Tx.all (p : Tx → Bool) : Tx → Bool
  | .node k t n l => p (.node k t n l) && allTL p l
def allTL (p : Tx → Bool) : List Tx → Bool
  | [] => true
  | x :: l => x.all p && allTL p l
end
mutual
/-- The type of an expression. -/
def typT : Tx → Except Value Int
  | .node k t _ l => if k = 1 then .ok 1 else if k = 4 then (match sig t with
      | none => .error errT
      | some (S, r) => if S.length = l.length then typTL t r S l 0 0 else .error errT) else .ok 3
def typTL (t : List UInt8) (r : Int) : List Int → List Tx → Nat → Int → Except Value Int
  | [], _, _, _ => .ok r
  | _ :: _, [], _, _ => .ok r
  | s :: S, y :: l, ck, fs => if s = 0 then (if y.kind = 2 then (if (parseR y.text).isSome = true then typTL t r S l (ck + 1) fs else .error (parseE y.text)) else .error errT)
    else match typT y with
      | .error e => .error e
      | .ok ty => match takeR t s ck fs ty with
        | none => .error errT
        | some f => typTL t r S l (ck + 1) f
end
theorem er_kind (x : Lx) : x.er.kind = x.kind := by cases x; rfl
theorem er_text (x : Lx) : x.er.text = x.text := by cases x; rfl
theorem er_num (x : Lx) : x.er.num = x.num := by cases x; rfl
theorem er_args (x : Lx) : x.er.args = erL x.args := by cases x; rfl
theorem erL_length : ∀ l : List Lx, (erL l).length = l.length
  | [] => rfl
  | x :: l => by rw [erL, List.length_cons, List.length_cons, erL_length l]
theorem erL_append : ∀ l l' : List Lx, erL (l ++ l') = erL l ++ erL l'
  | [], _ => rfl
  | x :: l, l' => by rw [List.cons_append, erL, erL, erL_append l l']; rfl
theorem erL_map : ∀ l : List Lx, erL l = l.map Lx.er
  | [] => rfl
  | x :: l => by rw [erL, erL_map l]; rfl
mutual
theorem typX_er : ∀ x : Lx, typX x = typT x.er
  | .node a k t n l => by
    unfold typX Lx.er typT
    split
    · rfl
    · split
      · cases hs : sig t with
        | none => rfl
        | some q =>
          obtain ⟨S, r⟩ := q
          dsimp only
          rw [erL_length, typL_er]
      · rfl
theorem typL_er (t : List UInt8) (r : Int) : ∀ (S : List Int) (l : List Lx) (ck : Nat) (fs : Int), typL t r S l ck fs = typTL t r S (erL l) ck fs
  | [], [], ck, fs => by unfold typL erL typTL; rfl
  | [], _ :: _, ck, fs => by unfold typL erL typTL; rfl
  | s :: S, [], ck, fs => by unfold typL erL typTL; rfl
  | s :: S, y :: l, ck, fs => by
    unfold typL erL typTL
    rw [er_kind, er_text, ← typX_er y]
    split
    · split
      · split
        · exact typL_er t r S l (ck + 1) fs
        · rfl
      · rfl
    · cases typX y with
      | error e => rfl
      | ok ty =>
        dsimp only
        cases takeR t s ck fs ty with
        | none => rfl
        | some f => exact typL_er t r S l (ck + 1) f
end
mutual
theorem size_er : ∀ x : Lx, x.size = x.er.size
  | .node a k t n l => by unfold Lx.size Lx.er Tx.size; rw [sizeXL_er l]
theorem sizeXL_er : ∀ l : List Lx, sizeXL l = sizeTL (erL l)
  | [] => rfl
  | x :: l => by unfold sizeXL erL sizeTL; rw [size_er x, sizeXL_er l]
end
mutual
theorem all_er (p : Lx → Bool) (q : Tx → Bool) (h : ∀ x, p x = q x.er) : ∀ x : Lx, x.all p = x.er.all q
  | .node a k t n l => by
    unfold Lx.all
    rw [h, allXL_er p q h l]
    rfl
theorem allXL_er (p : Lx → Bool) (q : Tx → Bool) (h : ∀ x, p x = q x.er) : ∀ l : List Lx, allXL p l = allTL q (erL l)
  | [] => rfl
  | x :: l => by unfold allXL erL allTL; rw [all_er p q h x, allXL_er p q h l]
end
/-- What isNode answers. -/
def isNT (x : Tx) : Bool :=
  if x.kind = 1 then decide (0 ≤ x.num) && decide (x.text = []) && decide (x.args.length = 0)
  else if x.kind = 2 ∨ x.kind = 3 then decide (x.num = 0) && decide (x.args.length = 0)
  else if x.kind = 4 then decide (x.num = 0) else false
theorem isN_er (x : Lx) : isN x = isNT x.er := by unfold isN isNT; rw [er_kind, er_text, er_num, er_args, erL_length]
def shortT (m : Nat) (x : Tx) : Bool := decide (x.text.length ≤ m)
theorem short_sub {m : Nat} {r : Lx} (h : r.er.all (shortT m) = true) (x : Lx) (hx : Sub x r) : x.text.length ≤ m := by
  have h1 : r.all (fun x => decide (x.text.length ≤ m)) = true := by
    rw [all_er _ (shortT m) (fun x => by unfold shortT; rw [er_text]) r]
    exact h
  have := ((Lx.all_iff _ _).1 (hx.all h1)).1
  simpa using this
end Go.Proofs.Ytniefnjcimempaa
namespace Go.Proofs.Ytniefnjcimempaa
open Go.RowKit
theorem blk4 {w : World} {g : Nat} {t : TypeId} {a b c d : Value} (h : Blk w g t #[a, b, c, d]) : w.cell? ⟨g, 0, none⟩ = some a ∧ w.cell? ⟨g, 1, none⟩ = some b ∧ w.cell? ⟨g, 2, none⟩ = some c ∧ w.cell? ⟨g, 3, none⟩ = some d ∧
    w.frozen? ⟨g, 0, none⟩ = false ∧ w.frozen? ⟨g, 1, none⟩ = false ∧ w.frozen? ⟨g, 2, none⟩ = false ∧ w.frozen? ⟨g, 3, none⟩ = false :=
  ⟨h.cell 0, h.cell 1, h.cell 2, h.cell 3, h.frozen 0, h.frozen 1, h.frozen 2, h.frozen 3⟩
theorem four_set {w w1 : World} {g : Nat} {a b c d : Value} (h : Below w.heap.size w w1) (hg : w.heap.size ≤ g) : Below w.heap.size w ((((w1.setCell ⟨g, 0, none⟩ a).setCell ⟨g, 1, none⟩ b).setCell ⟨g, 2, none⟩ c).setCell ⟨g, 3, none⟩ d) :=
  (((h.setCell hg a).setCell hg b).setCell hg c).setCell hg d
theorem four_old {w1 : World} {g i : Nat} {a b c d : Value} (h : i ≠ g) : ((((w1.setCell ⟨g, 0, none⟩ a).setCell ⟨g, 1, none⟩ b).setCell ⟨g, 2, none⟩ c).setCell ⟨g, 3, none⟩ d).heap[i]? = w1.heap[i]? :=
  (Below.heap_setCell _ ⟨g, 3, none⟩ d i h).trans ((Below.heap_setCell _ ⟨g, 2, none⟩ c i h).trans ((Below.heap_setCell _ ⟨g, 1, none⟩ b i h).trans (Below.heap_setCell _ ⟨g, 0, none⟩ a i h)))
/-- The four cells of an expression. -/
def NodeV (w : World) (F : Nat → Prop) (τ : Tx) (cs : List Value) : Prop :=
  ∃ (A : Option Addr) (c : Nat) (l : List Lx), cs = [.int .i64 τ.kind, .string ⟨τ.text.toArray⟩, .int .i64 τ.num, .slice A τ.args.length c] ∧ erL l = τ.args ∧ LxAts w F A 0 l
def NodeVs (w : World) (F : Nat → Prop) : List Tx → List Value → Prop
  | [], cs => cs = []
  | τ :: τs, cs => ∃ a b, cs = a ++ b ∧ NodeV w F τ a ∧ NodeVs w F τs b
theorem NodeV.keep {w w' : World} {F G : Nat → Prop} (hk : ∀ i, F i → i < w.heap.size → w'.heap[i]? = w.heap[i]?) (hG : ∀ i, F i → i < w.heap.size → G i) {τ : Tx} {cs : List Value} (h : NodeV w F τ cs) : NodeV w' G τ cs := by
  obtain ⟨A, c, l, h1, h2, h3⟩ := h
  exact ⟨A, c, l, h1, h2, LxAts.keep hk hG A 0 l h3⟩
theorem NodeVs.keep {w w' : World} {F G : Nat → Prop} (hk : ∀ i, F i → i < w.heap.size → w'.heap[i]? = w.heap[i]?) (hG : ∀ i, F i → i < w.heap.size → G i) : ∀ {τs : List Tx} {cs : List Value}, NodeVs w F τs cs → NodeVs w' G τs cs
  | [], _, h => h
  | τ :: τs, cs, h => by
    obtain ⟨a, b, h1, h2, h3⟩ := h
    exact ⟨a, b, h1, h2.keep hk hG, NodeVs.keep hk hG h3⟩
theorem NodeV.len {w : World} {F : Nat → Prop} {τ : Tx} {cs : List Value} (h : NodeV w F τ cs) : cs.length = 4 := by
  obtain ⟨A, c, l, rfl, _⟩ := h
  rfl
theorem NodeV.form {w : World} {F : Nat → Prop} {τ : Tx} {cs : List Value} (h : NodeV w F τ cs) : ∃ k t m A n c, cs = [.int .i64 k, .string t, .int .i64 m, .slice A n c] := by
  obtain ⟨A, c, l, rfl, _⟩ := h
  exact ⟨_, _, _, _, _, _, rfl⟩
theorem NodeVs.len {w : World} {F : Nat → Prop} : ∀ {τs : List Tx} {cs : List Value}, NodeVs w F τs cs → cs.length = τs.length * 4
  | [], cs, h => by
    have h : cs = [] := h
    rw [h]; rfl
  | τ :: τs, cs, h => by
    obtain ⟨a, b, h1, h2, h3⟩ := h
    rw [h1, List.length_append, h2.len, NodeVs.len h3, List.length_cons]
    omega
theorem NodeVs.append {w : World} {F : Nat → Prop} : ∀ {τs τs' : List Tx} {cs cs' : List Value}, NodeVs w F τs cs → NodeVs w F τs' cs' → NodeVs w F (τs ++ τs') (cs ++ cs')
  | [], _, cs, _, h, h' => by
    have h : cs = [] := h
    rw [h]; exact h'
  | τ :: τs, _, cs, _, h, h' => by
    obtain ⟨a, b, h1, h2, h3⟩ := h
    exact ⟨a, b ++ _, by rw [h1, List.append_assoc], h2, NodeVs.append h3 h'⟩
theorem NodeVs.one {w : World} {F : Nat → Prop} {τ : Tx} {cs : List Value} (h : NodeV w F τ cs) : NodeVs w F [τ] cs := ⟨cs, [], by simp, h, rfl⟩
/-- Expressions in a row of a block. -/
theorem lx_row {w : World} {F : Nat → Prop} {g : Nat} {t : TypeId} {cs : Array Value} (hb : Blk w g t cs) (hF : F g) : ∀ (τs : List Tx) (css : List Value) (i : Nat), NodeVs w F τs css → (∀ j u, css[j]? = some u → cs[i * 4 + j]? = some u) →
    ∃ xs, erL xs = τs ∧ LxAts w F (some ⟨g, 0, none⟩) i xs
  | [], _, i, _, _ => ⟨[], rfl, by unfold LxAts; trivial⟩
  | .node k t n args :: τs, css, i, h, hc => by
    obtain ⟨a, b, h1, ⟨A, c, l, h2, h3, h4⟩, h5⟩ := h
    obtain ⟨xs, e1, e2⟩ := lx_row hb hF τs b (i + 1) h5 (fun j u hj => by
      rw [show (i + 1) * 4 + j = i * 4 + (4 + j) by omega]
      refine hc _ u ?_
      rw [h1, List.getElem?_append_right (by rw [h2]; simp), h2]
      simpa using hj)
    have h3' : erL l = args := h3
    have hn : args.length = l.length := by rw [← h3', erL_length]
    refine ⟨.node ⟨g, i * 4, none⟩ k t n l :: xs, by rw [erL, Lx.er, h3', e1], ?_⟩
    have hh : ∀ j u, a[j]? = some u → cs[i * 4 + j]? = some u := fun j u hj => hc j u (by rw [h1, List.getElem?_append_left (List.getElem?_eq_some_iff.1 hj).1]; exact hj)
    rw [h2] at hh
    unfold LxAts
    refine ⟨⟨g, 0, rfl, by rw [Nat.zero_add]; rfl⟩, ?_, e2⟩
    unfold LxAt
    refine ⟨g, i * 4, A, c, _, cs, rfl, hF, hb, hh 0 _ rfl, hh 1 _ rfl, hh 2 _ rfl, ?_, h4⟩
    rw [← hn]
    exact hh 3 _ rfl
/-- A leaf, and a call, as values. -/
theorem NodeV.leaf (w : World) (F : Nat → Prop) (k : Int) (t : List UInt8) (n : Int) : NodeV w F (.node k t n []) [.int .i64 k, .string ⟨t.toArray⟩, .int .i64 n, .slice none 0 0] :=
  ⟨none, 0, [], rfl, rfl, by unfold LxAts; trivial⟩
theorem NodeV.call {w : World} {F : Nat → Prop} {A : Option Addr} {c m : Nat} {τs : List Tx} {l : List Lx} (k : Int) (t : List UInt8) (n : Int) (h1 : erL l = τs) (h2 : LxAts w F A 0 l) (hm : m = τs.length) : NodeV w F (.node k t n τs) [.int .i64 k, .string ⟨t.toArray⟩, .int .i64 n, .slice A m c] :=
  ⟨A, c, l, by rw [hm]; rfl, h1, h2⟩
theorem NodeV.lt {w : World} {a : Nat} {τ : Tx} {cs : List Value} (h : NodeV w (rng a w.heap.size) τ cs) : NodeV w (fun i => i < w.heap.size) τ cs := NodeV.keep (w' := w) (fun _ _ _ => rfl) (fun _ h _ => h.2) h
theorem NodeV.below {w w' : World} {τ : Tx} {cs : List Value} (h : NodeV w (fun i => i < w.heap.size) τ cs) (hb : Below w.heap.size w w') : NodeV w' (fun i => i < w'.heap.size) τ cs :=
  h.keep (fun i (hi : i < _) _ => hb.block i hi) (fun _ hi _ => Nat.lt_of_lt_of_le hi hb.size)
theorem NodeVs.below {w w' : World} {τs : List Tx} {cs : List Value} (h : NodeVs w (fun i => i < w.heap.size) τs cs) (hb : Below w.heap.size w w') : NodeVs w' (fun i => i < w'.heap.size) τs cs :=
  h.keep (fun i (hi : i < _) _ => hb.block i hi) (fun _ hi _ => Nat.lt_of_lt_of_le hi hb.size)
theorem NodeV.drewN {w : World} {F : Nat → Prop} {τ : Tx} {cs : List Value} (h : NodeV w F τ cs) (n : Nat) : NodeV (w.drewN n) F τ cs := NodeV.keep (w := w) (w' := w.drewN n) (fun _ _ _ => rfl) (fun _ h _ => h) h
/-- A call whose arguments lie in a block. -/
theorem node_calls {w : World} {F : Nat → Prop} {g : Nat} {t : TypeId} {cs : Array Value} {τs : List Tx} {css : List Value} {m c : Nat} (hb : Blk w g t cs) (hF : F g) (h : NodeVs w F τs css) (hc : ∀ (j : Nat) (u : Value), css[j]? = some u → cs[j]? = some u) (hm : m = τs.length) (txt : List UInt8) :
    NodeV w F (.node 4 txt 0 τs) [.int .i64 4, .string ⟨txt.toArray⟩, .int .i64 0, .slice (some ⟨g, 0, none⟩) m c] := by
  obtain ⟨xs, h1, h2⟩ := lx_row hb hF τs css 0 h (fun j (u : Value) hj => by rw [Nat.zero_mul, Nat.zero_add]; exact hc j u hj)
  exact NodeV.call 4 txt 0 h1 h2 hm
theorem node_call2 {w : World} {F : Nat → Prop} {g : Nat} {t : TypeId} {a b : List Value} {τ₁ τ₂ : Tx} {c : Nat} (hb : Blk w g t (a ++ b).toArray) (hF : F g) (h1 : NodeV w F τ₁ a) (h2 : NodeV w F τ₂ b) (txt : List UInt8) :
    NodeV w F (.node 4 txt 0 [τ₁, τ₂]) [.int .i64 4, .string ⟨txt.toArray⟩, .int .i64 0, .slice (some ⟨g, 0, none⟩) 2 c] :=
  node_calls hb hF (τs := [τ₁, τ₂]) (css := a ++ b) ⟨a, b, rfl, h1, NodeVs.one h2⟩ (fun j (u : Value) hj => by simpa using hj) rfl txt
/-- What types.Of answers. -/
def ofT (τ : Tx) : Value := if τ.all isNT = true then (match typT τ with
  | .ok t => .tuple #[.int .i64 t, .nilIface]
  | .error u => .tuple #[.int .i64 0, u]) else .tuple #[.int .i64 0, .iface 37 (.int .i64 4)]
end Go.Proofs.Ytniefnjcimempaa
