/- A store as a law goes through it. -/
import Derived.Test.YtphpfkhpihlalaaWf
namespace Go.Proofs.Ytphpfkhpihlalaa
open Go.RowKit
structure Sto (w W : World) (F : Nat → Prop) (p : Nat) (E : List En) : Prop where
  ok : EOk E
  st : StAt W F p 1048576 E
  lo : ∀ i, F i → w.heap.size ≤ i
  bel : Below w.heap.size w W
theorem Sto.next {w W W' : World} {F : Nat → Prop} {p : Nat} {E : List En} (S : Sto w W F p E) (hb : Below W.heap.size W W') : Sto w W' F p E :=
  ⟨S.ok, S.st.below hb, S.lo, S.bel.trans (hb.mono S.bel.size)⟩
def StoEnd (w W : World) (F : Nat → Prop) (p : Nat) (E : List En) (c : Nat) (good : List En → Nat → Prop) (e : Ending) (W' : World) : Prop :=
  ∃ (E' : List En) (id : Nat) (F' : Nat → Prop), e = .returned (.tuple #[.int .i64 (id : Int), .nilIface]) ∧ Sto w W' F' p E' ∧ Ext E E' ∧ E'.length ≤ E.length + c ∧ good E' id ∧ Kept F W W' ∧ ∀ i, i < W.heap.size → F' i → F i
theorem Sto.grow {w W W' : World} {F : Nat → Prop} {p : Nat} {E E' : List En} (S : Sto w W F p E) (hE : EOk E') (k : Kept F W W') (st : StAt W' (NewF F W W') p 1048576 E') : Sto w W' (NewF F W W') p E' :=
  ⟨hE, st, fun i hi => hi.1.elim (S.lo i) fun h => Nat.le_trans S.bel.size h, k.below S.bel S.bel.size S.lo⟩
theorem Sto.av {w W W' : World} {F : Nat → Prop} {p c : Nat} {E : List En} {good : List En → Nat → Prop} {e : Ending} (S : Sto w W F p E) (h : AvEnd 50 W F p 1048576 E c good e W') (hc : E.length + c < 1048576) : StoEnd w W F p E c good e W' := by
  obtain ⟨⟨E1, o⟩, h1, rfl, h3, h4⟩ := h
  have hl : E1.length ≤ E.length + c := h1.len
  cases o with
  | none =>
    have : 1048576 ≤ E1.length := h1.full rfl
    omega
  | some id => exact ⟨E1, id, NewF F W W', rfl, S.grow h1.ok h3 h4, h1.ext, hl, h1.good id rfl, h3, newF_old⟩
theorem weight_of {w : World} {F : Nat → Prop} {p m : Nat} {E : List En} (hE : EOk E) (h : StAt w F p m E) {id d : Nat} {t : List UInt8} (hx : TxO E id t d) : ∀ W, Below w.heap.size w W → Calls Try.prog 14 #[ptr p, .int .i64 (id : Int)] W fun e w' => e = .returned (.tuple #[(Wt.of t).val, .nilIface]) ∧ Below W.heap.size W w' := by
  obtain ⟨z, hz, rfl, _, _⟩ := hx.at_
  rw [← (hE.fit id z hz).wt]
  exact weight_tx h hz
theorem depth_of {w : World} {F : Nat → Prop} {p m : Nat} {E : List En} (h : StAt w F p m E) {id d : Nat} {t : List UInt8} (hx : TxO E id t d) : ∀ W, Below w.heap.size w W → Calls Try.prog 13 #[ptr p, .int .i64 (id : Int)] W fun e w' => e = .returned (.tuple #[.int .i64 (d : Int), .nilIface]) ∧ Below W.heap.size W w' := by
  obtain ⟨z, hz, _, rfl, _⟩ := hx.at_
  exact fun W hb => depth_any (h.below hb) id z hz
theorem balanced_of {w : World} {F : Nat → Prop} {p m : Nat} {E : List En} (h : StAt w F p m E) {id d : Nat} {t : List UInt8} (hx : TxO E id t d) : ∀ W, Below w.heap.size w W → Calls Try.prog 18 #[ptr p, .int .i64 (id : Int)] W fun e w' => e = .returned (.tuple #[.bool true, .nilIface]) ∧ Below W.heap.size W w' := by
  obtain ⟨z, hz, _, _, he⟩ := hx.at_
  exact balanced_tx h hz he
def SplOk (w W : World) (F : Nat → Prop) (p : Nat) (E : List En) (d : Nat) (s t : List UInt8) (e : Ending) (W' : World) : Prop :=
  ∃ (E' : List En) (F' : Nat → Prop) (a b ra rb : Nat), e = .returned (.tuple #[.int .i64 (a : Int), .int .i64 (b : Int), .nilIface]) ∧ Sto w W' F' p E' ∧ Ext E E' ∧ E'.length ≤ E.length + 14 * d ∧ TxO E' a s ra ∧ TxO E' b t rb ∧ Kept F W W' ∧ ∀ i, i < W.heap.size → F' i → F i
theorem Sto.split {w W W' : World} {F : Nat → Prop} {p d : Nat} {E : List En} {s t : List UInt8} {e : Ending} (S : Sto w W F p E) (h : SplEnd W F p 1048576 E d s t e W') (hc : E.length + 14 * d < 1048576) : SplOk w W F p E d s t e W' := by
  obtain ⟨E1, h1, h2, h3, h4, h5, ⟨a, b, ra, rb, rfl, y1, y2, _, _⟩ | ⟨h6, _⟩⟩ := h
  · exact ⟨E1, NewF F W W', a, b, ra, rb, rfl, S.grow h1 h4 h5, h2, h3, y1, y2, h4, newF_old⟩
  · omega
theorem Sto.blk {w W W' : World} {F : Nat → Prop} {p g : Nat} {E : List En} {t : TypeId} {cs : Array Value} (_ : Sto w W F p E) (h : Blk W g t cs) (k : Kept F W W') (hg : ¬ F g) : Blk W' g t cs := h.kept k hg
theorem Sto.fresh {w W : World} {F : Nat → Prop} {p : Nat} {E : List En} (S : Sto w W F p E) : ¬ F W.heap.size := fun h => by have := S.st.lt _ h; omega
theorem dig_join (s t : List UInt8) : (Wt.of (s ++ t)).dig = (Wt.of s).dig.join (Wt.of t).dig := by rw [Wt.of_append]; rfl
theorem Wt.of_len (t : List UInt8) : (Wt.of t).len = t.length := rfl
end Go.Proofs.Ytphpfkhpihlalaa
