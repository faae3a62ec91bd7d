/- split.section and split.Section at balanced texts. -/
import Derived.Test.YtphpfkhpihlalaaSp5
namespace Go.Proofs.Ytphpfkhpihlalaa
open Go.RowKit
def SecI (w : World) (E : List En) (n : Nat) (S : List UInt8) (id : Nat) (f : Int) (W : World) : Prop :=
  ∃ (t : List UInt8) (d k : Nat), f = (k : Int) ∧ Tx E id t d ∧ k + n ≤ t.length ∧ (t.drop k).take n = S ∧ Below w.heap.size w W
theorem section_any {w : World} {F : Nat → Prop} {p m : Nat} {E : List En} (hE : EOk E) (h : StAt w F p m E) {id d : Nat} {t : List UInt8} (hx : TxO E id t d) (f n : Nat) (hn : f + n ≤ t.length) :
    Calls Try.prog 98 #[ptr p, .int .i64 (id : Int), .int .i64 (f : Int), .int .i64 (n : Int)] w (AvEnd 50 w F p m E 1480 (fun E' i => ∃ r, TxO E' i ((t.drop f).take n) r)) := by
  by_cases hn0 : n = 0
  · subst hn0
    refine (section_zero p id f w).mono ?_
    rintro e w' ⟨rfl, rfl⟩
    exact avEnd_old h (Below.refl _ _) (some 0) (Out.same hE ⟨0, .inl ⟨rfl, by simp, rfl⟩⟩) rfl
  · have hx' : Tx E id t d := hx.resolve_left fun k => by have := k.2.1; subst this; simp at hn; omega
    refine (section_walk p id f n w (I := SecI w E n ((t.drop f).take n)) (R := AvR w F p m E 1480 (fun E' i => ∃ r, TxO E' i ((t.drop f).take n) r)) (F := fun _ => F) (by omega) ⟨t, d, f, rfl, hx', hn, rfl, Below.refl _ _⟩ ?_).mono fun _ _ he => he.av
    generalize (t.drop f).take n = S
    clear hx hx' hn f id t d
    rintro id _ W ⟨t, d, k, rfl, hx, hkn, hS, hW⟩
    have hlen := (hx.len hE).2.1
    have hW' : ∀ W', Below W.heap.size W W' → Below w.heap.size w W' := fun W' hb => hW.trans (hb.mono hW.size)
    by_cases hnt : n = t.length
    · have hk : k = 0 := by omega
      subst hk
      rw [hnt, List.drop_zero, List.take_length] at hS
      subst hS
      exact ⟨t.length, 0, 0, 0, fun _ _ => False, ⟨fun i hi => Nat.lt_of_lt_of_le (h.lt i hi) hW.size, fun W' hb => size_of hE h (.inr hx) W' (hW' W' hb), fun h0 => by omega, fun h0 => by omega, IntWalk.i64_in _ (by omega), IntWalk.i64_in _ (by omega), IntWalk.i64_in _ (by omega),
        fun _ W' hb => (avEnd_old h (hW' W' hb) (some id) (Out.same hE ⟨d, .inr hx⟩) rfl).ids, fun h0 => by omega, fun h0 => by omega, fun h0 => by omega, fun _ hf => hf.elim, fun _ _ hf => hf.elim⟩⟩
    · obtain ⟨l, r, tl, tr, dl, dr, hl, hr, hnr, rfl, hd, q1, q2, hrule⟩ := hx.cutR hE (by omega)
      rw [List.length_append] at hkn hlen hnt
      have hdl := (hl.len hE).2.2
      have hdr := (hr.len hE).2.2
      refine ⟨(tl ++ tr).length, tl.length, l, r, fun o W => (k < tl.length ∧ tl.length < k + n) ∧ AvR w F p m E (7 * dl) (frGood E.length dl (tl.drop k)) o W, ⟨fun i hi => Nat.lt_of_lt_of_le (h.lt i hi) hW.size, fun W' hb => size_of hE h (.inr hx) W' (hW' W' hb), fun _ W' hb => hrule h W' (hW' W' hb), fun _ W' hb => size_of hE h (.inr hl) W' (hW' W' hb), IntWalk.i64_in _ (by omega), IntWalk.i64_in _ (by omega), IntWalk.i64_in _ (by omega),
        fun h0 => by rw [List.length_append] at h0; omega, fun _ h1 W' hb => ⟨⟨tl, dl, k, rfl, hl, by omega, ?_, hW' W' hb⟩, q1⟩, fun _ h1 h2 W' hb => ⟨⟨tr, dr, k - tl.length, by omega, hr, by omega, ?_, hW' W' hb⟩, q2⟩, fun _ h1 h2 W' hb => ?_, fun W' hr => hr.2.none_ (by omega), fun i W' hr1 => ?_⟩⟩
      · rw [← hS, List.drop_append_of_le_length (by omega), List.take_append_of_le_length (by rw [List.length_drop]; omega)]
      · rw [← hS, List.drop_append, List.drop_of_length_le (l := tl) (by omega), List.nil_append]
      · exact (rest_ind dl hE (h.below (hW' W' hb)) (.inr hl) rfl k (by omega)).mono fun e w' he => ⟨(he.over (hW' W' hb)).ids.and_ ⟨by omega, by omega⟩, he.kept⟩
      · obtain ⟨⟨hc1, hc2⟩, E1, o1, k1, st1⟩ := hr1
        obtain ⟨r1, y1, y2, _⟩ := o1.good i rfl
        refine ⟨AvR w F p m E (7 * dl + 7 * dr) (fun E' j => ∃ rb, TxO E' i (tl.drop k) r1 ∧ TxO E' j (tr.take (k + n - tl.length)) rb), ?_, fun W hr => hr.none_ (by omega), fun j W hr2 => ?_⟩
        · have := front_ind dr o1.ok st1 (.inr (hr.ext o1.ext)) rfl (k + n - tl.length) (by omega)
          rw [show ((k + n - tl.length : Nat) : Int) = (k : Int) + n - tl.length by omega] at this
          exact this.mono fun e w' he => ((he.more.then_ k1 newF_sub o1.ext o1.len).relax (by omega) fun E' j ⟨x1, r2, z1, _, _⟩ => ⟨r2, y1.ext x1, z1⟩).ids
        · obtain ⟨E2, o2, k2, st2⟩ := hr2
          obtain ⟨rb, x1, x2⟩ := o2.good j rfl
          have x1 : TxO E2 i (tl.drop k) r1 := x1
          have x2 : TxO E2 j (tr.take (k + n - tl.length)) rb := x2
          have hg := gap_lt o2.ok x1 x2
          exact (Join_any o2.ok st2 x1 x2 (by rw [List.length_drop, List.length_take]; omega)).mono fun e w' he =>
            ((he.then_ k2 newF_sub o2.ext o2.len).relax (by omega) fun E' i ⟨d2, z1, _, _⟩ => ⟨d2, by
              rw [← hS, List.drop_append_of_le_length (by omega), List.take_append, List.take_of_length_le (by rw [List.length_drop]; omega), List.length_drop]
              rw [show n - (tl.length - k) = k + n - tl.length by omega]
              exact z1⟩).ids
end Go.Proofs.Ytphpfkhpihlalaa
