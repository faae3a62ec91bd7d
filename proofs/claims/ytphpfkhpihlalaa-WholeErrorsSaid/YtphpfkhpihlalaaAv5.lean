/- avl.level and avl.join at balanced texts. -/
import Derived.Test.YtphpfkhpihlalaaAv4
import Derived.Test.YtphpfkhpihlalaaWhP
namespace Go.Proofs.Ytphpfkhpihlalaa
open Go.RowKit
def AvR (w : World) (F : Nat → Prop) (p m : Nat) (E : List En) (c : Nat) (good : List En → Nat → Prop) (o : Option Nat) (w' : World) : Prop := ∃ E1, Out m E c good (E1, o) ∧ Kept F w w' ∧ StAt w' (NewF F w w') p m E1
theorem AvEnd.ids {w w' : World} {F : Nat → Prop} {p m c : Nat} {E : List En} {good : List En → Nat → Prop} {e : Ending} (h : AvEnd 50 w F p m E c good e w') : Ids (AvR w F p m E c good) e w' := by
  obtain ⟨⟨E1, o⟩, h1, h2, h3, h4⟩ := h
  exact ⟨o, h2, E1, h1, h3, h4⟩
theorem Ids.av {w w' : World} {F : Nat → Prop} {p m c : Nat} {E : List En} {good : List En → Nat → Prop} {e : Ending} (h : Ids (AvR w F p m E c good) e w') : AvEnd 50 w F p m E c good e w' := by
  obtain ⟨o, h2, E1, h1, h3, h4⟩ := h
  exact ⟨(E1, o), h1, h2, h3, h4⟩
theorem AvEnd.over {w W w' : World} {F : Nat → Prop} {p m c : Nat} {E : List En} {good : List En → Nat → Prop} {e : Ending} (h : AvEnd 50 W F p m E c good e w') (hb : Below w.heap.size w W) : AvEnd 50 w F p m E c good e w' :=
  (h.then_ (c1 := 0) (Kept.of_below hb) (fun _ h => .inl h) (Ext.refl E) (Nat.le_refl _)).relax (by omega) fun _ _ h => h
theorem AvR.none_ {w w' : World} {F : Nat → Prop} {p m c c' : Nat} {E : List En} {good good' : List En → Nat → Prop} (hc : c ≤ c') (h : AvR w F p m E c good none w') : AvR w F p m E c' good' none w' := by
  obtain ⟨E1, h1, h3, h4⟩ := h
  exact ⟨E1, h1.fail hc, h3, h4⟩
theorem depth_tx {w : World} {F : Nat → Prop} {p m : Nat} {E : List En} (h : StAt w F p m E) {id d : Nat} {t : List UInt8} (hx : Tx E id t d) : ∀ W, Below w.heap.size w W → Calls Try.prog 13 #[ptr p, .int .i64 (id : Int)] W fun e w' => e = .returned (.tuple #[.int .i64 (d : Int), .nilIface]) ∧ Below W.heap.size W w' := by
  intro W hb
  obtain ⟨z, h1, _, h3, _⟩ := hx.at_
  rw [← h3]
  exact depth_any (h.below hb) id z h1
theorem Tx.cut {E : List En} (k : EOk E) {id d : Nat} {t : List UInt8} (h : Tx E id t d) (hd : 0 < d) : ∃ (l r : Nat) (tl tr : List UInt8) (dl dr : Nat), Tx E l tl dl ∧ Tx E r tr dr ∧ near dl dr = true ∧ t = tl ++ tr ∧ d = 1 + max dl dr ∧
    ∀ {w : World} {F : Nat → Prop} {p m : Nat}, StAt w F p m E → ∀ W, Below w.heap.size w W → Calls Try.prog 72 #[ptr p, .int .i64 (id : Int)] W fun e w' => e = .returned (.tuple #[.int .i64 (l : Int), .int .i64 (r : Int), .int .i64 (dl : Int), .int .i64 (dr : Int), .nilIface]) ∧ Below W.heap.size W w' := by
  obtain ⟨z, hz, ⟨b, _, h0, _⟩ | ⟨l, r, tl, tr, dl, dr, x, y, hl, hr, hn, ht, hd, he, hx, hy, _, _⟩⟩ := h.parts k
  · omega
  · refine ⟨l, r, tl, tr, dl, dr, hl, hr, hn, ht, hd, fun hst W hb => ?_⟩
    obtain ⟨x', e1, _, e2, _⟩ := hl.at_
    obtain ⟨y', e3, _, e4, _⟩ := hr.at_
    rw [← e2, ← e4]
    exact parts_any (hst.below hb) id h.pos hz (by rw [he]; rfl) e1 e3
theorem wrap1 {d : Nat} (h : d < 87) : IntKind.i64.wrap ((d : Int) + 1) = (d : Int) + 1 := IntWalk.i64_in _ (by omega)
def lvGood (ta tb : List UInt8) (da db : Nat) (E' : List En) (id : Nat) : Prop := ∃ d, Tx E' id (ta ++ tb) d ∧ max da db ≤ d ∧ d ≤ max da db + 1 ∧ (near da db = true → d = 1 + max da db)
def jnGood (ta tb : List UInt8) (da db : Nat) (E' : List En) (id : Nat) : Prop := ∃ d, Tx E' id (ta ++ tb) d ∧ max da db ≤ d ∧ d ≤ max da db + 1
theorem level_any {w : World} {F : Nat → Prop} {p m : Nat} {E : List En} (hE : EOk E) (h : StAt w F p m E) {a b da db : Nat} {ta tb : List UInt8} (ha : Tx E a ta da) (hb : Tx E b tb db) (h1 : da ≤ db + 2) (h2 : db ≤ da + 2) (hs : ta.length + tb.length ≤ 1152921504606846976) :
    Calls Try.prog 73 #[ptr p, .int .i64 (a : Int), .int .i64 (b : Int)] w (AvEnd 50 w F p m E 3 (lvGood ta tb da db)) := by
  have s1 := wrap1 (hb.len hE).2.2
  have s2 := wrap1 (ha.len hE).2.2
  have g1 := depth_tx h ha
  have g2 := depth_tx h hb
  by_cases n1 : db + 1 < da
  · obtain ⟨l, r, tl, tr, dl, dr, hl, hr, hn, rfl, hd, hp⟩ := ha.cut hE (by omega)
    have hn := near_iff.1 hn
    rw [List.length_append] at hs
    by_cases n3 : dr ≤ dl
    · exact (lv_a2 p a b da db l r dl dr w s1 s2 (by omega) (by omega) (hp h) (fun W hW => (two_any hE (h.below hW) hl hr hb (near_iff.2 (by omega)) (near_iff.2 (by omega)) (by omega)).mono fun e w' he =>
        ((he.relax (g' := lvGood (tl ++ tr) tb da db) (by omega) fun E' id hx => ⟨_, by rw [List.append_assoc]; exact hx, by omega, by omega, fun hn => by have := near_iff.1 hn; omega⟩).over hW).ids) g1 g2).mono fun _ _ he => he.av
    · obtain ⟨x, y, tx, ty, dx, dy, hx, hy, hnx, rfl, hdx, hpx⟩ := hr.cut hE (by omega)
      have hnx := near_iff.1 hnx
      rw [List.length_append] at hs
      exact (lv_a4 p a b da db l r dl dr x y dx dy w s1 s2 (by omega) (by omega) (hp h) (hpx h) (fun W hW => (four_any hE (h.below hW) hl hx hy hb (near_iff.2 (by omega)) (near_iff.2 (by omega)) (near_iff.2 (by omega)) (by omega)).mono fun e w' he =>
        ((he.relax (g' := lvGood (tl ++ (tx ++ ty)) tb da db) (by omega) fun E' id hx => ⟨_, by rw [show tl ++ (tx ++ ty) ++ tb = tl ++ tx ++ (ty ++ tb) by simp]; exact hx, by omega, by omega, fun hn => by have := near_iff.1 hn; omega⟩).over hW).ids) g1 g2).mono fun _ _ he => he.av
  · by_cases n2 : da + 1 < db
    · obtain ⟨l, r, tl, tr, dl, dr, hl, hr, hn, rfl, hd, hp⟩ := hb.cut hE (by omega)
      have hn := near_iff.1 hn
      rw [List.length_append] at hs
      by_cases n3 : dr < dl
      · obtain ⟨x, y, tx, ty, dx, dy, hx, hy, hnx, rfl, hdx, hpx⟩ := hl.cut hE (by omega)
        have hnx := near_iff.1 hnx
        rw [List.length_append] at hs
        exact (lv_b4 p a b da db l r dl dr x y dx dy w s1 s2 (by omega) (by omega) (by omega) (hp h) (hpx h) (fun W hW => (four_any hE (h.below hW) ha hx hy hr (near_iff.2 (by omega)) (near_iff.2 (by omega)) (near_iff.2 (by omega)) (by omega)).mono fun e w' he =>
          ((he.relax (g' := lvGood ta (tx ++ ty ++ tr) da db) (by omega) fun E' id hx => ⟨_, by rw [show ta ++ (tx ++ ty ++ tr) = ta ++ tx ++ (ty ++ tr) by simp]; exact hx, by omega, by omega, fun hn => by have := near_iff.1 hn; omega⟩).over hW).ids) g1 g2).mono fun _ _ he => he.av
      · exact (lv_b2 p a b da db l r dl dr w s1 s2 (by omega) (by omega) (by omega) (hp h) (R1 := AvR w F p m E 1 (fun E' id => Tx E' id (ta ++ tl) (1 + max da dl))) (fun w1 hr => hr.none_ (by omega))
          (fun W hW => (pair_any hE (h.below hW) ha hl (near_iff.2 (by omega)) (by omega)).mono fun e w' he => (he.over hW).ids)
          (fun i w1 hr1 => by
            obtain ⟨E1, o1, k1, st1⟩ := hr1
            exact (pair_any o1.ok st1 (o1.good i rfl) (hr.ext o1.ext) (near_iff.2 (by omega)) (by rw [List.length_append]; omega)).mono fun e w' he =>
              ((he.then_ k1 newF_sub o1.ext o1.len).relax (g' := lvGood ta (tl ++ tr) da db) (by omega) fun E' id hx => ⟨_, by rw [← List.append_assoc]; exact hx, by omega, by omega, fun hn => by have := near_iff.1 hn; omega⟩).ids) g1 g2).mono fun _ _ he => he.av
    · exact (lv_near p a b da db w s1 s2 (by omega) (by omega) (fun W hW => (pair_any hE (h.below hW) ha hb (near_iff.2 (by omega)) hs).mono fun e w' he =>
        ((he.relax (g' := lvGood ta tb da db) (by omega) fun E' id hx => ⟨_, hx, by omega, by omega, fun _ => rfl⟩).over hW).ids) g1 g2).mono fun _ _ he => he.av
theorem join_ind : ∀ (n : Nat) {w : World} {F : Nat → Prop} {p m : Nat} {E : List En} (_ : EOk E) (_ : StAt w F p m E) {a b da db : Nat} {ta tb : List UInt8} (_ : Tx E a ta da) (_ : Tx E b tb db) (_ : ta.length + tb.length ≤ 1152921504606846976) (_ : da + db ≤ n),
    Calls Try.prog 45 #[ptr p, .int .i64 (a : Int), .int .i64 (b : Int)] w (AvEnd 50 w F p m E (3 * gap da db + 1) (jnGood ta tb da db)) := by
  intro n
  induction n using Nat.strongRecOn with
  | _ n ih =>
  intro w F p m E hE h a b da db ta tb ha hb hs hn0
  have s1 := wrap1 (hb.len hE).2.2
  have s2 := wrap1 (ha.len hE).2.2
  have g1 := depth_tx h ha
  have g2 := depth_tx h hb
  by_cases n1 : db + 1 < da
  · obtain ⟨l, r, tl, tr, dl, dr, hl, hr, hn, rfl, hd, hp⟩ := ha.cut hE (by omega)
    have hn := near_iff.1 hn
    rw [List.length_append] at hs
    exact (jn_a p a b da db l r dl dr w s1 s2 (by omega) (hp h) (R1 := AvR w F p m E (3 * gap dr db + 1) (jnGood tr tb dr db)) (fun w1 hr => hr.none_ (by unfold gap; omega))
      (fun W hW => (ih (n - 1) (by omega) hE (h.below hW) hr hb (by omega) (by omega)).mono fun e w' he => (he.over hW).ids)
      (fun i w1 hr1 => by
        obtain ⟨E1, o1, k1, st1⟩ := hr1
        obtain ⟨d1, x1, b1, b2⟩ := o1.good i rfl
        exact (level_any o1.ok st1 (hl.ext o1.ext) x1 (by omega) (by omega) (by rw [List.length_append]; omega)).mono fun e w' he =>
          ((he.then_ k1 newF_sub o1.ext o1.len).relax (g' := jnGood (tl ++ tr) tb da db) (by unfold gap; omega) fun E' id ⟨d2, x2, c1, c2, c3⟩ => ⟨d2, by rw [List.append_assoc]; exact x2, by
            by_cases hnn : near dl d1 = true
            · have := c3 hnn; omega
            · rw [near_iff] at hnn; omega, by
            by_cases hnn : near dl d1 = true
            · have := c3 hnn; omega
            · rw [near_iff] at hnn; omega⟩).ids) g1 g2).mono fun _ _ he => he.av
  · by_cases n2 : da + 1 < db
    · obtain ⟨l, r, tl, tr, dl, dr, hl, hr, hn, rfl, hd, hp⟩ := hb.cut hE (by omega)
      have hn := near_iff.1 hn
      rw [List.length_append] at hs
      exact (jn_b p a b da db l r dl dr w s1 s2 (by omega) (by omega) (hp h) (R1 := AvR w F p m E (3 * gap da dl + 1) (jnGood ta tl da dl)) (fun w1 hr => hr.none_ (by unfold gap; omega))
        (fun W hW => (ih (n - 1) (by omega) hE (h.below hW) ha hl (by omega) (by omega)).mono fun e w' he => (he.over hW).ids)
        (fun i w1 hr1 => by
          obtain ⟨E1, o1, k1, st1⟩ := hr1
          obtain ⟨d1, x1, b1, b2⟩ := o1.good i rfl
          exact (level_any o1.ok st1 x1 (hr.ext o1.ext) (by omega) (by omega) (by rw [List.length_append]; omega)).mono fun e w' he =>
            ((he.then_ k1 newF_sub o1.ext o1.len).relax (g' := jnGood ta (tl ++ tr) da db) (by unfold gap; omega) fun E' id ⟨d2, x2, c1, c2, c3⟩ => ⟨d2, by rw [← List.append_assoc]; exact x2, by
              by_cases hnn : near d1 dr = true
              · have := c3 hnn; omega
              · rw [near_iff] at hnn; omega, by
              by_cases hnn : near d1 dr = true
              · have := c3 hnn; omega
              · rw [near_iff] at hnn; omega⟩).ids) g1 g2).mono fun _ _ he => he.av
    · exact (jn_near p a b da db w s1 s2 (by omega) (by omega) (fun W hW => (pair_any hE (h.below hW) ha hb (near_iff.2 (by omega)) hs).mono fun e w' he =>
        ((he.relax (g' := jnGood ta tb da db) (by unfold gap; omega) fun E' id hx => ⟨_, hx, by omega, by omega⟩).over hW).ids) g1 g2).mono fun _ _ he => he.av
theorem join_any {w : World} {F : Nat → Prop} {p m : Nat} {E : List En} (hE : EOk E) (h : StAt w F p m E) {a b da db : Nat} {ta tb : List UInt8} (ha : Tx E a ta da) (hb : Tx E b tb db) (hs : ta.length + tb.length ≤ 1152921504606846976) :
    Calls Try.prog 45 #[ptr p, .int .i64 (a : Int), .int .i64 (b : Int)] w (AvEnd 50 w F p m E (3 * gap da db + 1) (jnGood ta tb da db)) := join_ind (da + db) hE h ha hb hs (Nat.le_refl _)
end Go.Proofs.Ytphpfkhpihlalaa
