/- split.front and split.rest at balanced texts; split.Split. -/
import Derived.Test.YtphpfkhpihlalaaSp2
namespace Go.Proofs.Ytphpfkhpihlalaa
open Go.RowKit
theorem Out.more2 {m c : Nat} {E : List En} {g : List En → Nat → Prop} {o : List En × Option Nat} (h : Out m E c g o) : Out m E c (fun E' id => Ext E E' ∧ E'.length ≤ E.length + c ∧ g E' id) o :=
  ⟨h.ok, h.ext, h.len, h.full, fun id hi => ⟨h.ext, h.len, h.good id hi⟩⟩
theorem AvEnd.more2 {T : TypeId} {w w' : World} {F : Nat → Prop} {p m c : Nat} {E : List En} {g : List En → Nat → Prop} {e : Ending} (h : AvEnd T w F p m E c g e w') : AvEnd T w F p m E c (fun E' id => Ext E E' ∧ E'.length ≤ E.length + c ∧ g E' id) e w' := by
  obtain ⟨o, h1, h2, h3, h4⟩ := h
  exact ⟨o, h1.more2, h2, h3, h4⟩
theorem AvEnd.kept {T : TypeId} {w w' : World} {F : Nat → Prop} {p m c : Nat} {E : List En} {g : List En → Nat → Prop} {e : Ending} (h : AvEnd T w F p m E c g e w') : Kept F w w' := by
  obtain ⟨o, h1, h2, h3, h4⟩ := h
  exact h3
theorem Tx.cutR {E : List En} (k : EOk E) {id d : Nat} {t : List UInt8} (h : Tx E id t d) (h2 : 2 ≤ t.length) : ∃ (l r : Nat) (tl tr : List UInt8) (dl dr : Nat), Tx E l tl dl ∧ Tx E r tr dr ∧ near dl dr = true ∧ t = tl ++ tr ∧ d = 1 + max dl dr ∧ l < id ∧ r < id ∧
    ∀ {w : World} {F : Nat → Prop} {p m : Nat}, StAt w F p m E → ∀ W, Below w.heap.size w W → Calls Try.prog 49 #[ptr p, .int .i64 (id : Int)] W fun e w' => e = .returned (.tuple #[.agg #[.int .i64 2, .int .u8 0, .int .i64 (l : Int), .int .i64 (r : Int), .int .i64 0], .nilIface]) ∧ Below W.heap.size W w' := by
  obtain ⟨z, hz, ⟨b, hb, _⟩ | ⟨l, r, tl, tr, dl, dr, x, y, hl, hr, hn, ht, hd, he, _, _, q1, q2⟩⟩ := h.parts k
  · rw [hb] at h2; simp at h2
  · refine ⟨l, r, tl, tr, dl, dr, hl, hr, hn, ht, hd, q1, q2, fun hst W hb => ?_⟩
    have := rule_any (hst.below hb) id z h.pos hz
    rw [he] at this
    exact this
theorem size_of {w : World} {F : Nat → Prop} {p m : Nat} {E : List En} (hE : EOk E) (h : StAt w F p m E) {id d : Nat} {t : List UInt8} (hx : TxO E id t d) : ∀ W, Below w.heap.size w W → Calls Try.prog 71 #[ptr p, .int .i64 (id : Int)] W fun e w' => e = .returned (.tuple #[.int .i64 (t.length : Int), .nilIface]) ∧ Below W.heap.size W w' := by
  obtain ⟨z, hz, rfl, _, _⟩ := hx.at_
  rw [← (hE.fit id z hz).length]
  exact size_tx h hz
/-- A part of a text of depth d: not deeper, and made of few rules. -/
def frGood (L d : Nat) (s : List UInt8) (E' : List En) (i : Nat) : Prop := ∃ r, TxO E' i s r ∧ r ≤ d ∧ E'.length ≤ L + 3 * r + 4 * d
theorem fr_none {E : List En} {L d : Nat} (hL : E.length ≤ L) : frGood L d [] E 0 := ⟨0, .inl ⟨rfl, rfl, rfl⟩, by omega, by omega⟩
theorem fr_all {E : List En} {L d id : Nat} {t : List UInt8} (hx : TxO E id t d) (hL : E.length ≤ L) : frGood L d t E id := ⟨d, hx, by omega, by omega⟩
theorem Ids.and_ {R : Option Nat → World → Prop} {e : Ending} {w : World} {q : Prop} (h : Ids R e w) (hq : q) : Ids (fun o W => q ∧ R o W) e w := by
  obtain ⟨o, h1, h2⟩ := h
  exact ⟨o, h1, hq, h2⟩
theorem front_ind : ∀ (D : Nat) {w : World} {F : Nat → Prop} {p m : Nat} {E : List En} (_ : EOk E) (_ : StAt w F p m E) {id d : Nat} {t : List UInt8} (_ : TxO E id t d) (_ : d = D) (n : Nat) (_ : n ≤ t.length),
    Calls Try.prog 41 #[ptr p, .int .i64 (id : Int), .int .i64 (n : Int)] w (AvEnd 50 w F p m E (7 * d) (frGood E.length d (t.take n))) := by
  intro D
  induction D using Nat.strongRecOn with
  | _ D ih =>
  intro w F p m E hE h id d t hx hdD n hn
  have hlen := (hx.len hE).1
  by_cases hz : n = 0 ∨ n = t.length
  · exact (front_walk p id n t.length 0 0 0 w (R := AvR w F p m E (7 * d) (frGood E.length d (t.take n))) (R1 := fun _ _ => False) (F := F) h.lt (IntWalk.i64_in _ (by omega)) (size_of hE h hx) (fun h0 h1 => by omega) (fun h0 h1 => by omega)
      (fun h0 W hW => (avEnd_old h hW (some 0) (Out.same hE (by rw [show n = 0 by omega, List.take_zero]; exact fr_none (Nat.le_refl _))) rfl).ids)
      (fun h0 h1 W hW => (avEnd_old h hW (some id) (Out.same hE (by rw [show n = t.length by omega, List.take_length]; exact fr_all hx (Nat.le_refl _))) rfl).ids)
      (fun h0 h1 => by omega) (fun h0 h1 => by omega) (fun _ hf => hf.elim) (fun _ _ hf => hf.elim)).mono fun _ _ he => he.av
  · have hx' : Tx E id t d := hx.resolve_left fun k => by have := k.2.1; subst this; simp at hn; omega
    obtain ⟨l, r, tl, tr, dl, dr, hl, hr, hnr, rfl, hd, _, _, hrule⟩ := hx'.cutR hE (by omega)
    have hnr := near_iff.1 hnr
    rw [List.length_append] at hn hlen hz
    have tlen := (hl.len hE)
    have e1 : IntKind.i64.wrap ((n : Int) - (tl.length : Int)) = (n : Int) - (tl.length : Int) := IntWalk.i64_in _ (by omega)
    refine (front_walk p id n (tl ++ tr).length tl.length l r w (R := AvR w F p m E (7 * d) (frGood E.length d ((tl ++ tr).take n))) (R1 := fun o W => tl.length < n ∧ AvR w F p m E (7 * dr) (frGood E.length dr (tr.take (n - tl.length))) o W) (F := F) h.lt e1 (size_of hE h hx) (fun _ _ => hrule h) (fun _ _ => size_of hE h (.inr hl))
      (fun h0 => by omega) (fun _ h1 => by rw [List.length_append] at h1; omega) (fun _ _ hm W hW => ?_) (fun _ _ hm W hW => ?_) (fun W hr => hr.2.none_ (by omega)) (fun i W hr1 => ?_)).mono fun _ _ he => he.av
    · refine (ih dl (by omega) hE (h.below hW) (.inr hl) rfl n (by omega)).mono fun e w' he => ((he.relax (by omega) fun E' i ⟨r1, y1, y2, y3⟩ => ⟨r1, ?_, by omega, by omega⟩).over hW).ids
      rw [List.take_append_of_le_length (by omega)]
      exact y1
    · have := ih dr (by omega) hE (h.below hW) (.inr hr) rfl (n - tl.length) (by omega)
      rw [show ((n - tl.length : Nat) : Int) = (n : Int) - (tl.length : Int) by omega] at this
      exact this.mono fun e w' he => ⟨(he.over hW).ids.and_ (by omega), he.kept⟩
    · obtain ⟨hmm, E1, o1, k1, st1⟩ := hr1
      obtain ⟨r1, y1, y2, y3⟩ := o1.good i rfl
      have y3 : E1.length ≤ E.length + 3 * r1 + 4 * dr := y3
      exact (Join_any o1.ok st1 (.inr (hl.ext o1.ext)) y1 (by rw [List.length_take]; omega)).mono fun e w' he =>
        ((he.more2.then_ k1 newF_sub o1.ext (c1 := 3 * r1 + 4 * dr) (by show E1.length ≤ _; omega)).relax (by unfold gap; omega) fun E' id ⟨_, z0, d2, z1, z2, z3⟩ => ⟨d2, by
          rw [List.take_append, List.take_of_length_le (by omega)]
          exact z1, by omega, by unfold gap at z0; omega⟩).ids
theorem rest_ind : ∀ (D : Nat) {w : World} {F : Nat → Prop} {p m : Nat} {E : List En} (_ : EOk E) (_ : StAt w F p m E) {id d : Nat} {t : List UInt8} (_ : TxO E id t d) (_ : d = D) (n : Nat) (_ : n ≤ t.length),
    Calls Try.prog 42 #[ptr p, .int .i64 (id : Int), .int .i64 (n : Int)] w (AvEnd 50 w F p m E (7 * d) (frGood E.length d (t.drop n))) := by
  intro D
  induction D using Nat.strongRecOn with
  | _ D ih =>
  intro w F p m E hE h id d t hx hdD n hn
  have hlen := (hx.len hE).1
  by_cases hz : n = 0 ∨ n = t.length
  · exact (rest_walk p id n t.length 0 0 0 w (R := AvR w F p m E (7 * d) (frGood E.length d (t.drop n))) (R1 := fun _ _ => False) (F := F) h.lt (IntWalk.i64_in _ (by omega)) (size_of hE h hx) (fun h0 h1 => by omega) (fun h0 h1 => by omega)
      (fun h0 W hW => (avEnd_old h hW (some id) (Out.same hE (by rw [show n = 0 by omega, List.drop_zero]; exact fr_all hx (Nat.le_refl _))) rfl).ids)
      (fun h0 h1 W hW => (avEnd_old h hW (some 0) (Out.same hE (by rw [show n = t.length by omega, List.drop_length]; exact fr_none (Nat.le_refl _))) rfl).ids)
      (fun h0 h1 => by omega) (fun h0 h1 => by omega) (fun _ hf => hf.elim) (fun _ _ hf => hf.elim)).mono fun _ _ he => he.av
  · have hx' : Tx E id t d := hx.resolve_left fun k => by have := k.2.1; subst this; simp at hn; omega
    obtain ⟨l, r, tl, tr, dl, dr, hl, hr, hnr, rfl, hd, _, _, hrule⟩ := hx'.cutR hE (by omega)
    have hnr := near_iff.1 hnr
    rw [List.length_append] at hn hlen hz
    have tlen := (hl.len hE)
    have e1 : IntKind.i64.wrap ((n : Int) - (tl.length : Int)) = (n : Int) - (tl.length : Int) := IntWalk.i64_in _ (by omega)
    refine (rest_walk p id n (tl ++ tr).length tl.length l r w (R := AvR w F p m E (7 * d) (frGood E.length d ((tl ++ tr).drop n))) (R1 := fun o W => n < tl.length ∧ AvR w F p m E (7 * dl) (frGood E.length dl (tl.drop n)) o W) (F := F) h.lt e1 (size_of hE h hx) (fun _ _ => hrule h) (fun _ _ => size_of hE h (.inr hl))
      (fun h0 => by omega) (fun _ h1 => by rw [List.length_append] at h1; omega) (fun _ _ hm W hW => ?_) (fun _ _ hm W hW => ?_) (fun W hr => hr.2.none_ (by omega)) (fun i W hr1 => ?_)).mono fun _ _ he => he.av
    · have := ih dr (by omega) hE (h.below hW) (.inr hr) rfl (n - tl.length) (by omega)
      rw [show ((n - tl.length : Nat) : Int) = (n : Int) - (tl.length : Int) by omega] at this
      refine this.mono fun e w' he => ((he.relax (by omega) fun E' i ⟨r1, y1, y2, y3⟩ => ⟨r1, ?_, by omega, by omega⟩).over hW).ids
      rw [List.drop_append, List.drop_of_length_le (by omega), List.nil_append]
      exact y1
    · exact (ih dl (by omega) hE (h.below hW) (.inr hl) rfl n (by omega)).mono fun e w' he => ⟨(he.over hW).ids.and_ (by omega), he.kept⟩
    · obtain ⟨hmm, E1, o1, k1, st1⟩ := hr1
      obtain ⟨r1, y1, y2, y3⟩ := o1.good i rfl
      have y3 : E1.length ≤ E.length + 3 * r1 + 4 * dl := y3
      exact (Join_any o1.ok st1 y1 (.inr (hr.ext o1.ext)) (by rw [List.length_drop]; omega)).mono fun e w' he =>
        ((he.more2.then_ k1 newF_sub o1.ext (c1 := 3 * r1 + 4 * dl) (by show E1.length ≤ _; omega)).relax (by unfold gap; omega) fun E' id ⟨_, z0, d2, z1, z2, z3⟩ => ⟨d2, by
          rw [List.drop_append_of_le_length (by omega)]
          exact z1, by omega, by unfold gap at z0; omega⟩).ids
end Go.Proofs.Ytphpfkhpihlalaa
