/- The walk of tree.order. types.node.take. -/
import Derived.Test.YtniefnjcimempaarRb
import Derived.WalkSpells
import Derived.WalkLawsBesides
import Derived.Deep.LoopGhost
import Derived.Outline
import Derived.Test.YtniefnjcimempaarMem
import Derived.BigQuiet
namespace Go.Proofs.Ytniefnjcimempaa
open Go.RowKit
def outC (out : List Lx) : List Value := out.map fun x => .pointer (some x.ad)
def OW (w wr : World) (mb : Nat) (s : List (Addr × Value)) (cs : List Value) (n : Nat) (out : List Lx) (v6 v8 : Value) : Prop :=
  wr.ownsRow w.heap.size 117 2 v8 n cs ∧ wr.ownsRow w.heap.size 64 1 v6 out.length (outC out) ∧ MapIs wr mb encA s ∧ w.heap.size ≤ mb ∧ mb < wr.heap.size ∧ Below w.heap.size w wr
theorem own_kept {K : Nat → Prop} {w w' : World} {base e size n : Nat} {v : Value} {xs : List Value} (h : w.ownsRow base e size v n xs) (k : Kept K w w') (hne : ∀ i, v.ownBlock = some i → ¬ K i) : w'.ownsRow base e size v n xs := by
  refine ⟨h.1, ?_⟩
  rcases h.2 with h | ⟨g, cap, cur, h1, h2, h3, h4⟩
  · exact .inl h
  · exact .inr ⟨g, cap, cur, h1, h2, (k.block g (Blk.lt h3) (hne g (by rw [h1]; rfl))).trans h3, h4⟩
theorem own_blk {w : World} {base e size n i : Nat} {v : Value} {xs : List Value} (h : w.ownsRow base e size v n xs) (hv : v.ownBlock = some i) : ∃ cur, Blk w i e cur := by
  rcases h.2 with ⟨rfl, _⟩ | ⟨g, cap, cur, rfl, h1, h3, _⟩
  · cases hv
  · injection hv with hv
    subst hv
    exact ⟨cur, h3⟩
theorem own_ge2 {w : World} {base e size n i : Nat} {v : Value} {xs : List Value} (h : w.ownsRow base e size v n xs) (hv : v.ownBlock = some i) : base ≤ i ∧ i < w.heap.size := by
  rcases h.2 with ⟨rfl, _⟩ | ⟨g, cap, cur, rfl, h1, h3, _⟩
  · cases hv
  · injection hv with hv
    subst hv
    exact ⟨h1, Blk.lt h3⟩
theorem own_not_map {κ : Type} {enc : κ → Value} {l : List (κ × Value)} {w : World} {base e size n i mb : Nat} {v : Value} {xs : List Value} (h : w.ownsRow base e size v n xs) (hM : MapIs w mb enc l) (hv : v.ownBlock = some i) : i ≠ mb := by
  rintro rfl
  obtain ⟨cur, hb⟩ := own_blk h hv
  obtain ⟨es, clock, hm, _⟩ := hM
  unfold Blk at hb
  rw [hb] at hm
  cases hm
theorem own_not_own {w : World} {base e e' size size' n n' i : Nat} {v v' : Value} {xs xs' : List Value} (h : w.ownsRow base e size v n xs) (h' : w.ownsRow base e' size' v' n' xs') (hne : e ≠ e') (hv : v.ownBlock = some i) : v'.ownBlock ≠ some i := fun hv' => by
  obtain ⟨cur, hb⟩ := own_blk h hv
  obtain ⟨cur', hb'⟩ := own_blk h' hv'
  exact Blk.ne_ hb hb' hne rfl
section
variable {w wr w' : World} {mb n : Nat} {s s' : List (Addr × Value)} {cs : List Value} {out : List Lx} {v6 v8 v : Value}
theorem OW.alloc (h : OW w wr mb s cs n out v6 v8) (o : Obj) : OW w (wr.alloc o) mb s cs n out v6 v8 :=
  ⟨h.1.alloc o, h.2.1.alloc o, h.2.2.1.keep (Below.heap_alloc _ _ _ h.2.2.2.2.1), h.2.2.2.1, by have := h.2.2.2.2.1; simp; omega, h.2.2.2.2.2.alloc h.2.2.2.2.2.size o⟩
theorem OW.stk {cs' : List Value} {n' : Nat} (h : OW w wr mb s cs n out v6 v8) (ho : w'.ownsRow w.heap.size 117 2 v n' cs') (hg : wr.grownBy w' v8.ownBlock) : OW w w' mb s cs' n' out v6 v := by
  obtain ⟨h1, h2, h3, h4, h5, h6⟩ := h
  have k : Kept (fun i => v8.ownBlock = some i) wr w' := Kept.of_grown hg fun g e => e
  exact ⟨ho, own_kept h2 k fun i e => own_not_own h2 h1 (by decide) e, h3.keep (hg.block mb h5 (fun e => own_not_map h1 h3 e.symm rfl)), h4, Nat.lt_of_lt_of_le h5 hg.size, h6.grown hg h6.size fun g e => (own_ge2 h1 e).1⟩
end
theorem reads1 (w : World) (v : Value) (t : TypeId) : Reads (w.alloc (.cells #[v] t)) (w.heap.size + 1) 1 (some ⟨w.heap.size, 0, none⟩) 1 [v] :=
  ⟨rfl, fun _ => ⟨_, rfl, by simp, fun j u hu => news_alloc w #[v] t j u hu⟩⟩
def OrdEnd (w : World) (p : Lx → Bool) (r : Lx) (e : Ending) (w' : World) : Prop :=
  (if r.all p then ∃ v out, e = .returned (.tuple #[v, .bool true]) ∧ w'.ownsRow w.heap.size 64 1 v out.length (outC out) ∧ r ∈ out ∧ (∀ (i : Nat) (x : Lx), out[i]? = some x → Sub x r ∧ ∀ a ∈ x.args, a ∈ out.take i) ∧ out.length ≤ 2 * r.size + 1
   else e = .returned (.tuple #[.slice none 0 0, .bool false])) ∧ Below w.heap.size w w'
theorem OrdEnd.yes {w w' : World} {p : Lx → Bool} {r : Lx} {v : Value} {out : List Lx} {s : List (Addr × Value)} {mb n : Nat} {cs : List Value} {v8 : Value} (hd : OInv p r s [] out) (h : OW w w' mb s cs n out v v8) (hl : out.length ≤ 2 * r.size + 1) : OrdEnd w p r (.returned (.tuple #[v, .bool true])) w' := by
  refine ⟨?_, h.2.2.2.2.2⟩
  rw [if_pos hd.done.1]
  exact ⟨v, out, rfl, h.2.1, hd.done.2, hd.lst, hl⟩
theorem OrdEnd.no {w w' : World} {p : Lx → Bool} {r : Lx} (hd : r.all p = false) (h : Below w.heap.size w w') : OrdEnd w p r (.returned (.tuple #[.slice none 0 0, .bool false])) w' := by
  refine ⟨?_, h⟩
  rw [if_neg (by rw [hd]; decide)]
end Go.Proofs.Ytniefnjcimempaa
namespace Go.Proofs.Ytniefnjcimempaa
open Go.RowKit
def isEqT (s : List UInt8) : Bool := decide (s = [61, 61]) || decide (s = [33, 61])
def isCmpT (s : List UInt8) : Bool := decide (s = [61, 61]) || (decide (s = [33, 61]) || (decide (s = [60]) || decide (s = [60, 61])))
def takeR (s : List UInt8) (want : Int) (ck : Nat) (fs t : Int) : Option Int :=
  if isCmpT s = true then (if ck = 0 then (if t = 1 ∨ t = 3 ∨ (t = 2 ∧ isEqT s = true) then some t else none) else if t = fs then some fs else none)
  else if t = want then some fs else none
end Go.Proofs.Ytniefnjcimempaa
