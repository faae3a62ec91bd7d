/- The simulated file system in memory: words, and how it is kept and changed. -/
import Derived.Test.YthmbmecodddkeaaProg
import Derived.Test.YthmbmecodddkeaaMem
import Derived.Test.YthmbmecodddkeaaGen
import Derived.Test.YthmbmecodddkeaaByt
import Derived.WalkKit
import Derived.WalkSpells
import Derived.WalkLawsBesides
namespace Go.Proofs.Ythmbmecodddkeaa
open Go.RowKit Go.WideMaps
/-! ### frames by a set of blocks -/
structure Kept (F : Nat → Prop) (w w' : World) : Prop where
  os : w'.os = w.os
  tape : w'.tape = w.tape
  output : w'.output = w.output
  size : w.heap.size ≤ w'.heap.size
  block : ∀ i, i < w.heap.size → ¬ F i → w'.heap[i]? = w.heap[i]?
def Grow (F : Nat → Prop) (n : Nat) : Nat → Prop := fun i => F i ∨ n ≤ i
theorem Kept.refl (F : Nat → Prop) (w : World) : Kept F w w := ⟨rfl, rfl, rfl, Nat.le_refl _, fun _ _ _ => rfl⟩
theorem Kept.trans {F : Nat → Prop} {a b c : World} (h : Kept F a b) (k : Kept (Grow F a.heap.size) b c) : Kept F a c :=
  ⟨k.os.trans h.os, k.tape.trans h.tape, k.output.trans h.output, Nat.le_trans h.size k.size, fun i hi hF =>
    (k.block i (Nat.lt_of_lt_of_le hi h.size) (by rintro (h1 | h1); exact hF h1; omega)).trans (h.block i hi hF)⟩
theorem Kept.mono {F G : Nat → Prop} {a b : World} (h : Kept F a b) (hFG : ∀ i, F i → G i) : Kept G a b :=
  ⟨h.os, h.tape, h.output, h.size, fun i hi hG => h.block i hi fun hF => hG (hFG i hF)⟩
theorem Kept.of_grown {F : Nat → Prop} {a b : World} {row : Option Nat} (h : a.grownBy b row) (hF : ∀ g, row = some g → F g) : Kept F a b :=
  ⟨h.os, h.tape, h.output, h.size, fun i hi hne => h.block i hi fun e => hne (hF i e.symm)⟩
theorem Kept.of_below {F : Nat → Prop} {a b : World} (h : Below a.heap.size a b) : Kept F a b := Kept.of_grown (only_of_below h none) (fun _ e => by cases e)
theorem Kept.cell {F : Nat → Prop} {a b : World} (h : Kept F a b) {p : Addr} (hp : p.block < a.heap.size) (hF : ¬ F p.block) : b.cell? p = a.cell? p := World.cell?_of_block (h.block _ hp hF)
theorem Kept.below {F : Nat → Prop} {B : Nat} {a b c : World} (h : Kept F b c) (hb : Below B a b) (hB : B ≤ b.heap.size) (hF : ∀ i, F i → B ≤ i) : Below B a c :=
  hb.trans ⟨h.os, h.tape, h.output, h.size, fun k hk => h.block k (by omega) fun hf => by have := hF k hf; omega⟩
theorem Blk.kept {F : Nat → Prop} {w w' : World} {g : Nat} {t : TypeId} {cs : Array Value} (h : Blk w g t cs) (hk : Kept F w w') (hF : ¬ F g) : Blk w' g t cs := (hk.block g h.lt hF).trans h
theorem own_keptF {F : Nat → Prop} {w w' : World} {base e size n : Nat} {v : Value} {xs : List Value} (h : w.ownsRow base e size v n xs) (hk : Kept F w w') (hF : ∀ g, v.ownBlock = some g → ¬ F g) : w'.ownsRow base e size v n xs := by
  refine ⟨h.1, ?_⟩
  rcases h.2 with h2 | ⟨g, cap, cur, rfl, h3, h4, h5⟩
  · exact .inl h2
  · refine .inr ⟨g, cap, cur, rfl, h3, ?_, h5⟩
    have hl : g < w.heap.size := (Array.getElem?_eq_some_iff.1 h4).1
    exact (hk.block g hl (hF g rfl)).trans h4
theorem reads_keptF {F : Nat → Prop} {w w' : World} {B size n : Nat} {A : Option Addr} {xs : List Value} (h : Reads w B size A n xs) (hk : Kept F w w') (hB : B ≤ w.heap.size) (hF : ∀ ad, A = some ad → ¬ F ad.block) : Reads w' B size A n xs := by
  refine ⟨h.1, fun hn => ?_⟩
  obtain ⟨ad, e, hb, hc⟩ := h.2 hn
  exact ⟨ad, e, hb, fun j u hu => (hk.cell (by rw [block_of_add]; omega) (by rw [block_of_add]; exact hF ad e)).trans (hc j u hu)⟩
theorem map_kept {F : Nat → Prop} {w w' : World} {k mb n : Nat} {R : Value → Option (DataW Unit × List MemPlace)} {D : DataW Unit} (h : w.ownsMap Try.prog k R mb n D) (hk : Kept F w w') (hF : ¬ F mb) : w'.ownsMap Try.prog k R mb n D := by
  obtain ⟨es, clock, h1, h2⟩ := h
  have hl : mb < w.heap.size := (Array.getElem?_eq_some_iff.1 h1).1
  exact ⟨es, clock, (hk.block mb hl hF).trans h1, h2⟩
/-! ### pointers in the map -/
def ptrV (n : Int) : Value := if n < 0 then .pointer none else .pointer (some ⟨n.toNat, 0, none⟩)
def ptrR : Value → Option (DataW Unit × List MemPlace)
  | .pointer none => some (tgt (-1) false, [])
  | .pointer (some ⟨g, 0, none⟩) => some (tgt (g : Int) false, [])
  | _ => none
theorem ptrR_mk (g : Nat) : ptrR (.pointer (some ⟨g, 0, none⟩)) = some (tgt (g : Int) false, []) := rfl
theorem ptrR_inv {v : Value} {n : Int} {t : Bool} {ps : List MemPlace} (h : ptrR v = some (tgt n t, ps)) : v = ptrV n := by
  unfold ptrR at h
  split at h
  · simp only [tgt, Option.some.injEq, Prod.mk.injEq, DataW.agg.injEq, List.cons.injEq, DataW.lit.injEq, Lit.int.injEq, Lit.bool.injEq, and_true, true_and] at h
    rw [← h.1.1]
    rfl
  · rename_i g
    simp only [tgt, Option.some.injEq, Prod.mk.injEq, DataW.agg.injEq, List.cons.injEq, DataW.lit.injEq, Lit.int.injEq, Lit.bool.injEq, and_true, true_and] at h
    rw [← h.1.1]
    unfold ptrV
    rw [if_neg (by omega)]
    rfl
  · cases h
/-! ### files -/
structure AF where
  name : List UInt8
  data : List UInt8
  sync : Nat
structure AS where
  files : List AF
  off : Bool
  lim : Bool
  left : Int
structure FR where
  name : List UInt8
  g : Nat
  v : Value
  data : List UInt8
  sync : Nat
def FR.row (f : FR) : Row := ⟨f.name, f.g, false⟩
def FR.abs (f : FR) : AF := ⟨f.name, f.data, f.sync⟩
def FileM (w : World) (base : Nat) (f : FR) : Prop :=
  Blk w f.g 71 #[f.v, .int .i64 f.sync] ∧ w.ownsRow base 5 1 f.v f.data.length (f.data.map byteV) ∧ f.sync ≤ f.data.length ∧ f.data.length ≤ 16777216
def Apart (a b : FR) : Prop := a.g ≠ b.g ∧ (∀ g, a.v.ownBlock = some g → b.v.ownBlock ≠ some g)
theorem Apart.symm (a b : FR) (h : Apart a b) : Apart b a := ⟨Ne.symm h.1, fun g hb ha => h.2 g ha hb⟩
def Foot (sb mb : Nat) (frs : List FR) (i : Nat) : Prop := i = sb ∨ i = mb ∨ ∃ f ∈ frs, i = f.g ∨ f.v.ownBlock = some i
def sysC (mb : Nat) (off lim : Bool) (left : Int) : Array Value := #[.map (some mb), .bool off, .bool lim, .int .i64 left]
def SysP (w : World) (base sb mb n : Nat) (off lim : Bool) (left : Int) (frs : List FR) : Prop :=
  Blk w sb 66 (sysC mb off lim left) ∧ w.ownsMap Try.prog 9 ptrR mb n (datum (frs.map FR.row)) ∧ RisingG FR.name frs ∧ (∀ f ∈ frs, FileM w base f ∧ base ≤ f.g) ∧ frs.Pairwise Apart ∧ base ≤ sb ∧ base ≤ mb
def SysM (w : World) (base : Nat) (F : Nat → Prop) (sb mb n : Nat) (st : AS) : Prop :=
  ∃ frs : List FR, SysP w base sb mb n st.off st.lim st.left frs ∧ frs.map FR.abs = st.files ∧ (∀ i, Foot sb mb frs i → F i) ∧ (∀ i, F i → base ≤ i) ∧ 0 ≤ st.left ∧ st.left ≤ 9223372036854775807
theorem rising_rows {frs : List FR} (h : RisingG FR.name frs) : Rising (frs.map FR.row) := by
  unfold Rising
  rw [List.pairwise_map]
  exact h
section
variable {w w' : World} {base sb mb n : Nat} {off lim : Bool} {left : Int} {frs : List FR} {F G : Nat → Prop} {st : AS}
theorem FileM.own_ge {f : FR} (h : FileM w base f) {g : Nat} (hg : f.v.ownBlock = some g) : base ≤ g ∧ g < w.heap.size := by
  have := h.2.1.lt g hg
  exact ⟨this.1, this.2⟩
theorem FileM.kept {f : FR} (h : FileM w base f) (hk : Kept F w w') (h1 : ¬ F f.g) (h2 : ∀ g, f.v.ownBlock = some g → ¬ F g) : FileM w' base f :=
  ⟨h.1.kept hk h1, own_keptF h.2.1 hk h2, h.2.2⟩
theorem SysP.kept (h : SysP w base sb mb n off lim left frs) (hk : Kept G w w') (hG : ∀ i, Foot sb mb frs i → ¬ G i) : SysP w' base sb mb n off lim left frs :=
  ⟨h.1.kept hk (hG sb (.inl rfl)), map_kept h.2.1 hk (hG mb (.inr (.inl rfl))), h.2.2.1, fun f hf => ⟨(h.2.2.2.1 f hf).1.kept hk (hG _ (.inr (.inr ⟨f, hf, .inl rfl⟩))) fun g hg => hG g (.inr (.inr ⟨f, hf, .inr hg⟩)), (h.2.2.2.1 f hf).2⟩, h.2.2.2.2⟩
theorem SysM.kept (h : SysM w base F sb mb n st) (hk : Kept G w w') (hG : ∀ i, F i → ¬ G i) : SysM w' base F sb mb n st := by
  obtain ⟨frs, h1, h2, h3, h4⟩ := h
  exact ⟨frs, h1.kept hk fun i hi => hG i (h3 i hi), h2, h3, h4⟩
theorem SysM.below (h : SysM w base F sb mb n st) (hb : Below w.heap.size w w') : SysM w' base F sb mb n st := h.kept (G := fun _ => False) (Kept.of_below hb) fun _ _ h => h
theorem SysM.grow (h : SysM w base F sb mb n st) (hFG : ∀ i, F i → G i) (hG : ∀ i, G i → base ≤ i) : SysM w base G sb mb n st := by
  obtain ⟨frs, h1, h2, h3, _, h5⟩ := h
  exact ⟨frs, h1, h2, fun i hi => hFG i (h3 i hi), hG, h5⟩
theorem SysM.mono {n' : Nat} (h : SysM w base F sb mb n st) (hn : n ≤ n') : SysM w base F sb mb n' st := by
  obtain ⟨frs, h1, h2⟩ := h
  exact ⟨frs, ⟨h1.1, h1.2.1.mono hn, h1.2.2⟩, h2⟩
theorem SysP.foot_lt (h : SysP w base sb mb n off lim left frs) {i : Nat} (hi : Foot sb mb frs i) : i < w.heap.size := by
  rcases hi with rfl | rfl | ⟨f, hf, rfl | hg⟩
  · exact h.1.lt
  · exact h.2.1.lt
  · exact (h.2.2.2.1 f hf).1.1.lt
  · exact ((h.2.2.2.1 f hf).1.own_ge hg).2
theorem SysP.foot_ge (h : SysP w base sb mb n off lim left frs) {i : Nat} (hi : Foot sb mb frs i) : base ≤ i := by
  rcases hi with rfl | rfl | ⟨f, hf, rfl | hg⟩
  · exact h.2.2.2.2.2.1
  · exact h.2.2.2.2.2.2
  · exact (h.2.2.2.1 f hf).2
  · exact ((h.2.2.2.1 f hf).1.own_ge hg).1
/-- The system's own block, another block of cells, the map: three blocks. -/
theorem SysP.sb_ne_mb (h : SysP w base sb mb n off lim left frs) : sb ≠ mb := by
  rintro rfl
  obtain ⟨h1, ⟨es, clock, h2, _⟩, _⟩ := h
  unfold Blk at h1
  rw [h1] at h2
  cases h2
theorem SysP.blk_ne_mb (h : SysP w base sb mb n off lim left frs) {g : Nat} {t : TypeId} {cs : Array Value} (hb : Blk w g t cs) : g ≠ mb := by
  rintro rfl
  obtain ⟨_, ⟨es, clock, h2, _⟩, _⟩ := h
  unfold Blk at hb
  rw [hb] at h2
  cases h2
theorem SysP.row_ne_mb (h : SysP w base sb mb n off lim left frs) {e size m : Nat} {v : Value} {xs : List Value} (ho : w.ownsRow base e size v m xs) : v.ownBlock ≠ some mb := by
  rcases ho.2 with ⟨rfl, _⟩ | ⟨g, cap, cur, rfl, _, hh, _⟩
  · simp [Value.ownBlock]
  · intro he
    have : g = mb := by simpa [Value.ownBlock] using he
    subst this
    obtain ⟨_, ⟨es, clock, h2, _⟩, _⟩ := h
    rw [hh] at h2
    cases h2
/-- The flags are written: a store into the system's block. -/
theorem SysP.flags {off' lim' : Bool} {left' : Int} (h : SysP w base sb mb n off lim left frs) (hk : Kept (fun i => i = sb) w w') (hb : Blk w' sb 66 (sysC mb off' lim' left')) : SysP w' base sb mb n off' lim' left' frs := by
  have hne := h.sb_ne_mb
  refine ⟨hb, map_kept h.2.1 hk (Ne.symm hne), h.2.2.1, fun f hf => ?_, h.2.2.2.2⟩
  obtain ⟨hf1, hf2⟩ := h.2.2.2.1 f hf
  refine ⟨hf1.kept hk ?_ fun g hg e => ?_, hf2⟩
  · exact Blk.ne_ hf1.1 h.1 (by decide)
  · subst e
    exact own_blk_ne hf1.2.1 h.1 (by decide) hg
end
end Go.Proofs.Ythmbmecodddkeaa
