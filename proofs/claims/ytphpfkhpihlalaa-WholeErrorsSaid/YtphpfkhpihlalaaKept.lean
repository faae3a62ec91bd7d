/- What is kept of a world whose blocks F alone may be written. No function of the program is named. -/
import Derived.Test.YtphpfkhpihlalaaMem
namespace Go.Proofs.Ytphpfkhpihlalaa
open Go.RowKit
/-- All old blocks but those of F are as they were. -/
structure Kept (F : Nat → Prop) (w w' : World) : Prop where
  os : w'.os = w.os
  tape : w'.tape = w.tape
  output : w'.output = w.output
  size : w.heap.size ≤ w'.heap.size
  block : ∀ i, i < w.heap.size → ¬ F i → w'.heap[i]? = w.heap[i]?
def Grow (F : Nat → Prop) (n : Nat) : Nat → Prop := fun i => F i ∨ n ≤ i
def isG (g : Nat) : Nat → Prop := fun i => i = g
theorem Kept.refl (F : Nat → Prop) (w : World) : Kept F w w := ⟨rfl, rfl, rfl, Nat.le_refl _, fun _ _ _ => rfl⟩
theorem Kept.trans {F : Nat → Prop} {a b c : World} (h : Kept F a b) (k : Kept (Grow F a.heap.size) b c) : Kept F a c :=
  ⟨k.os.trans h.os, k.tape.trans h.tape, k.output.trans h.output, Nat.le_trans h.size k.size, fun i hi hF =>
    (k.block i (Nat.lt_of_lt_of_le hi h.size) (by rintro (h1 | h1); exact hF h1; omega)).trans (h.block i hi hF)⟩
theorem Kept.mono {F G : Nat → Prop} {a b : World} (h : Kept F a b) (hFG : ∀ i, F i → G i) : Kept G a b :=
  ⟨h.os, h.tape, h.output, h.size, fun i hi hG => h.block i hi fun hF => hG (hFG i hF)⟩
theorem Kept.then_ {F : Nat → Prop} {a b c : World} (h : Kept F a b) (k : Kept F b c) : Kept F a c := h.trans (k.mono fun _ hi => .inl hi)
theorem Kept.of_grown {F : Nat → Prop} {a b : World} {row : Option Nat} (h : a.grownBy b row) (hF : ∀ g, row = some g → F g) : Kept F a b :=
  ⟨h.os, h.tape, h.output, h.size, fun i hi hne => h.block i hi fun e => hne (hF i e.symm)⟩
theorem Kept.of_below {F : Nat → Prop} {a b : World} (h : Below a.heap.size a b) : Kept F a b := Kept.of_grown (only_of_below h none) (fun _ e => by cases e)
theorem Kept.cell {F : Nat → Prop} {a b : World} (h : Kept F a b) {p : Addr} (hp : p.block < a.heap.size) (hF : ¬ F p.block) : b.cell? p = a.cell? p := World.cell?_of_block (h.block _ hp hF)
theorem Kept.below {F : Nat → Prop} {B : Nat} {a b c : World} (h : Kept F b c) (hb : Below B a b) (hB : B ≤ b.heap.size) (hF : ∀ i, F i → B ≤ i) : Below B a c :=
  ⟨h.os.trans hb.os, h.tape.trans hb.tape, h.output.trans hb.output, Nat.le_trans hb.size h.size, fun k hk => (h.block k (by omega) fun hf => by have := hF k hf; omega).trans (hb.block k hk)⟩
theorem Kept.setCell {F : Nat → Prop} {a b : World} (h : Kept F a b) {p : Addr} (hp : F p.block ∨ a.heap.size ≤ p.block) (u : Value) : Kept F a (b.setCell p u) :=
  h.trans ⟨rfl, rfl, rfl, by simp [World.setCell], fun i _ hF => Below.heap_setCell _ _ _ _ fun e => by subst e; exact hF hp⟩
theorem Kept.alloc {F : Nat → Prop} {a b : World} (h : Kept F a b) (o : Obj) : Kept F a (b.alloc o) :=
  h.trans ⟨rfl, rfl, rfl, by simp, fun i hi _ => Below.heap_alloc _ _ _ hi⟩
theorem Kept.drew {F : Nat → Prop} {a b : World} (h : Kept F a b) : Kept F a b.drew := ⟨h.os, h.tape, h.output, h.size, h.block⟩
theorem Kept.drewN {F : Nat → Prop} {a b : World} (h : Kept F a b) (n : Nat) : Kept F a (b.drewN n) := ⟨h.os, h.tape, h.output, h.size, h.block⟩
theorem Blk.kept {F : Nat → Prop} {w w' : World} {g : Nat} {t : TypeId} {cs : Array Value} (h : Blk w g t cs) (k : Kept F w w') (hg : ¬ F g) : Blk w' g t cs := (k.block g h.lt hg).trans h
/-- A slice that reads as a row of cells, in a block of F. -/
def RdF (w : World) (F : Nat → Prop) (size : Nat) (A : Option Addr) (n : Nat) (xs : List Value) : Prop :=
  xs.length = n * size ∧ (0 < n → ∃ b o, A = some ⟨b, o, none⟩ ∧ F b ∧ b < w.heap.size ∧ ∀ j u, xs[j]? = some u → w.cell? ⟨b, o + j, none⟩ = some u)
theorem RdF.keep {w w' : World} {F G : Nat → Prop} {size n : Nat} {A : Option Addr} {xs : List Value} (h : RdF w F size A n xs) (hk : ∀ i, F i → i < w.heap.size → w'.heap[i]? = w.heap[i]?) (hs : w.heap.size ≤ w'.heap.size) (hG : ∀ i, F i → i < w.heap.size → G i) : RdF w' G size A n xs :=
  ⟨h.1, fun hn => by
    obtain ⟨b, o, e, hF, hb, hc⟩ := h.2 hn
    exact ⟨b, o, e, hG b hF hb, by omega, fun j u hu => (World.cell?_of_block (hk b hF hb)).trans (hc j u hu)⟩⟩
theorem RdF.reads {w : World} {F : Nat → Prop} {size n : Nat} {A : Option Addr} {xs : List Value} (h : RdF w F size A n xs) : Reads w w.heap.size size A n xs :=
  ⟨h.1, fun hn => by
    obtain ⟨b, o, e, _, hb, hc⟩ := h.2 hn
    exact ⟨_, e, hb, fun j u hu => by rw [addr_add]; exact hc j u hu⟩⟩
end Go.Proofs.Ytphpfkhpihlalaa
