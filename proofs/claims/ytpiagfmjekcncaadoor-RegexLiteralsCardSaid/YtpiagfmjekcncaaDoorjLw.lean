/- The walks of Positions and Check at a literal. -/
import Derived.Test.YtpiagfmjekcncaaDoorjLu
import Derived.Test.YtpiagfmjekcncaaDoorjVn
import Derived.Test.YtpiagfmjekcncaaDoorjMs
import Derived.Test.YtpiagfmjekcncaaDoorjHg
set_option linter.unusedVariables false
set_option linter.unusedSimpArgs false
set_option linter.unusedSectionVars false
namespace Go.Proofs.YtpiagfmjekcncaaDoor
open Go.RowKit
theorem one_meas (x : UInt8) : (Rx.one x).size = 1 ∧ (Rx.one x).depth = 1 ∧ (Rx.one x).pos = 1 ∧ (Rx.one x).wri = 1 := by
  unfold Rx.one Rx.set Rx.size Rx.depth Rx.pos Rx.wri sizeL depthL posL wriL
  exact ⟨rfl, rfl, rfl, rfl⟩
theorem ones_meas : ∀ l : List UInt8, sizeL (l.map Rx.one) = l.length ∧ depthL (l.map Rx.one) ≤ 1 ∧ posL (l.map Rx.one) = l.length ∧ wriL (l.map Rx.one) = l.length
  | [] => by rw [List.map_nil, sizeL, depthL, posL, wriL]; exact ⟨rfl, by omega, rfl, rfl⟩
  | x :: l => by
    have h := ones_meas l
    have h1 := one_meas x
    rw [List.map_cons, sizeL, depthL, posL, wriL, List.length_cons]
    omega
theorem lit_meas (l : List UInt8) : (litR l).size ≤ l.length + 1 ∧ (litR l).depth ≤ 2 ∧ (litR l).pos = l.length ∧ (litR l).wri ≤ l.length + 1 := by
  match l with
  | [] =>
    show (Rx.plain 1 []).size ≤ _ ∧ (Rx.plain 1 []).depth ≤ _ ∧ (Rx.plain 1 []).pos = _ ∧ (Rx.plain 1 []).wri ≤ _
    unfold Rx.plain Rx.size Rx.depth Rx.pos Rx.wri sizeL depthL posL wriL mulC baseP
    simp
  | [x] =>
    have h := one_meas x
    show (Rx.one x).size ≤ _ ∧ (Rx.one x).depth ≤ _ ∧ (Rx.one x).pos = _ ∧ (Rx.one x).wri ≤ _
    rw [List.length_singleton]
    omega
  | x :: y :: l =>
    have h := ones_meas (x :: y :: l)
    show (Rx.plain 3 ((x :: y :: l).map Rx.one)).size ≤ _ ∧ (Rx.plain 3 ((x :: y :: l).map Rx.one)).depth ≤ _ ∧ (Rx.plain 3 ((x :: y :: l).map Rx.one)).pos = _ ∧ (Rx.plain 3 ((x :: y :: l).map Rx.one)).wri ≤ _
    unfold Rx.plain Rx.size Rx.depth Rx.pos Rx.wri mulC baseP
    rw [if_neg (by omega), if_neg (by omega), if_neg (by omega)]
    omega
theorem lit_fits {l : List UInt8} (h : l.length ≤ 64) : (litR l).fits = true := by
  have := lit_meas l
  unfold Rx.fits
  simp only [Bool.and_eq_true, decide_eq_true_eq]
  omega
theorem ones_tame : ∀ l : List UInt8, tameL (l.map Rx.one)
  | [] => by rw [List.map_nil]; unfold tameL; trivial
  | x :: l => by rw [List.map_cons]; unfold tameL; exact ⟨Rx.tame_set _, ones_tame l⟩
theorem lit_tame (l : List UInt8) : (litR l).tame := Rx.tame_seq (ones_tame l)
/-- valid answers yes at a literal. -/
theorem valid_lit (l : List UInt8) (hl : l.length ≤ 64) (w0 w : World) (lo g : Nat) (cs : List Value) (hv : LitV w0 lo l cs) (hb : Below w0.heap.size w0 w) (hB : Blk w g 27 cs.toArray) (hg : w0.heap.size ≤ g) :
    Calls Tryd.prog 24 #[.pointer (some ⟨g, 0, none⟩)] w fun e w' => e = .returned (.bool true) ∧ Below w.heap.size w w' := by
  have hA8 : ∀ W, Below w.heap.size w W → At8 W g 0 cs := fun W h => ⟨Blk.lt (Blk.below hB h (Blk.lt hB)), fun j u hu => by
    rw [Nat.zero_add, Blk.cell (Blk.below hB h (Blk.lt hB)) j]
    simpa using hu⟩
  match l, hl, hv with
  | [], _, hv =>
    obtain ⟨A, c, rfl⟩ := hv
    exact valid_flat g 0 0 c (g + 1) 0 A w (fun h => absurd h (by omega)) (Blk.lt hB) (fun h => absurd h (by omega)) ((hA8 w (Below.refl _ _)).2 7 _ rfl) (fun W h => vnode_1 g 0 c A W (hA8 W h)) (fun i h => absurd h (by omega)) ⟨_, _, hB⟩ (fun h => absurd h (by omega)) (by omega) (by omega)
  | [x], _, hv =>
    have hv : cs = litC x := hv
    subst hv
    exact valid_flat g 0 0 0 (g + 1) 0 none w (fun h => absurd h (by omega)) (Blk.lt hB) (fun h => absurd h (by omega)) ((hA8 w (Below.refl _ _)).2 7 _ rfl) (fun W h => vnode_2 g 0 0 none _ _ _ _ W (hA8 W h)) (fun i h => absurd h (by omega)) ⟨_, _, hB⟩ (fun h => absurd h (by omega)) (by omega) (by omega)
  | x :: y :: l, hl, hv =>
    obtain ⟨b, c, cur, rfl, h2, h3, h4⟩ := hv
    have hbl := Blk.lt h3
    have hbw : Blk w b 27 cur := Blk.below h3 hb hbl
    have hpart : ∀ (i : Nat) (z : UInt8), (x :: y :: l)[i]? = some z → ∀ W, Below w.heap.size w W → At8 W b (0 + i * 8) (litC z) := fun i z hz W h =>
      ⟨Blk.lt (Blk.below hbw h (Blk.lt hbw)), fun j u hu => by
        have e1 := h4 _ _ (litCs_at hz hu)
        rw [Nat.zero_add]
        exact (h.cell (p := ⟨b, i * 8 + j, none⟩) (Blk.lt hbw)).trans ((hb.cell (p := ⟨b, i * 8 + j, none⟩) hbl).trans e1)⟩
    refine valid_flat g 0 (x :: y :: l).length c b 0 _ w (fun _ => rfl) (Blk.lt hB) (fun _ => Blk.lt hbw) ((hA8 w (Below.refl _ _)).2 7 _ rfl) (fun W h => vnode_3 g 0 c _ _ W (by simp) (hA8 W h)) (fun i hi => ?_) ⟨_, _, hB⟩ (fun _ => ⟨_, _, hbw⟩) (by omega) hl
    obtain ⟨z, hz⟩ : ∃ z, (x :: y :: l)[i]? = some z := ⟨_, List.getElem?_eq_getElem hi⟩
    exact ⟨fun W h => vnode_2 b (0 + i * 8) 0 none _ _ _ _ W (hpart i z hz W h), none, 0, (hpart i z hz w (Below.refl _ _)).2 7 _ rfl⟩
/-- measure at a literal. -/
theorem meas_lit (l : List UInt8) (hl : l.length ≤ 64) (w0 w : World) (lo g : Nat) (cs : List Value) (hv : LitV w0 lo l cs) (hb : Below w0.heap.size w0 w) (hB : Blk w g 27 cs.toArray) :
    Calls Tryd.prog 19 #[.pointer (some ⟨g, 0, none⟩)] w fun e w' => e = .returned (.tuple #[.int .i64 l.length, .nilIface]) ∧ Below w.heap.size w w' := by
  have h := measure_any g 0 (litR l) cs w _ (hv.below hb).rxv (fun i hi => hi.2) ⟨Blk.lt hB, fun j u hu => by rw [Nat.zero_add, Blk.cell hB j]; simpa using hu⟩ (lit_tame l)
  have e : msV (litR l) = .tuple #[.int .i64 l.length, .nilIface] := by
    unfold msV
    rw [lit_fits hl, (lit_meas l).2.2.1]
    rfl
  rw [e] at h
  exact h
theorem positions_lit (l : List UInt8) (hl : l.length ≤ 64) (w : World) (lo : Nat) (cs : List Value) (hv : LitV w lo l cs) :
    Calls Tryd.prog 12 #[.agg cs.toArray] w fun e w' => e = .returned (.tuple #[.int .i64 l.length, .nilIface]) ∧ Below w.heap.size w w' := by
  have hb1 := (Below.refl w.heap.size w).alloc (Nat.le_refl _) (.cells cs.toArray 27)
  have hB := Blk.new w 27 cs.toArray
  obtain ⟨w1, hw1⟩ : ∃ w1, w1 = w.alloc (.cells cs.toArray 27) := ⟨_, rfl⟩
  rw [← hw1] at hb1 hB
  have HV := Lib.hid (valid_lit l hl w w1 lo w.heap.size cs hv hb1 hB (Nat.le_refl _))
  have HM := Lib.hid (fun W (h : Below w1.heap.size w1 W) => meas_lit l hl w W lo w.heap.size cs hv (hb1.trans (h.mono hb1.size)) (Blk.below hB h (Blk.lt hB)))
  have HB1 := Lib.hid hb1
  have HW1 := Lib.hid hw1
  clear hb1 hB hw1 hv
  go_enter Tryd.func12, Tryd.ntmps12
  go_upto_region 1 with (fail)
  rw [← HW1.out]
  clear HW1
  go_wp2_with fail
  refine HV.out.mono ?_
  rintro e w2 ⟨rfl, hb2⟩
  have HB2 := Lib.hid (HB1.out.trans (hb2.mono HB1.out.size))
  have HM2 := Lib.hid (HM.out w2 hb2)
  clear hb2
  go_wp2_with fail
  refine HM2.out.mono ?_
  rintro e w3 ⟨rfl, hb3⟩
  have HB3 := Lib.hid (HB2.out.trans (hb3.mono HB2.out.size))
  clear hb3
  go_wp2_with fail
  go_ret2
  exact ⟨rfl, HB3.out⟩
theorem check_lit (l : List UInt8) (hl : l.length ≤ 64) (w : World) (lo : Nat) (cs : List Value) (hv : LitV w lo l cs) :
    Calls Tryd.prog 25 #[.agg cs.toArray] w fun e w' => e = .returned .nilIface ∧ Below w.heap.size w w' := by
  have hb1 := (Below.refl w.heap.size w).alloc (Nat.le_refl _) (.cells cs.toArray 27)
  have hB := Blk.new w 27 cs.toArray
  obtain ⟨w1, hw1⟩ : ∃ w1, w1 = w.alloc (.cells cs.toArray 27) := ⟨_, rfl⟩
  rw [← hw1] at hb1 hB
  have HV := Lib.hid (valid_lit l hl w w1 lo w.heap.size cs hv hb1 hB (Nat.le_refl _))
  have HM := Lib.hid (fun W (h : Below w1.heap.size w1 W) => meas_lit l hl w W lo w.heap.size cs hv (hb1.trans (h.mono hb1.size)) (Blk.below hB h (Blk.lt hB)))
  have HB1 := Lib.hid hb1
  have HW1 := Lib.hid hw1
  clear hb1 hB hw1 hv
  go_enter Tryd.func25, Tryd.ntmps25
  go_upto_region 1 with (fail)
  rw [← HW1.out]
  clear HW1
  go_wp2_with fail
  refine HV.out.mono ?_
  rintro e w2 ⟨rfl, hb2⟩
  have HB2 := Lib.hid (HB1.out.trans (hb2.mono HB1.out.size))
  have HM2 := Lib.hid (HM.out w2 hb2)
  clear hb2
  go_wp2_with fail
  refine HM2.out.mono ?_
  rintro e w3 ⟨rfl, hb3⟩
  have HB3 := Lib.hid (HB2.out.trans (hb3.mono HB2.out.size))
  clear hb3
  go_wp2_with fail
  go_ret
  exact ⟨rfl, HB3.out⟩
end Go.Proofs.YtpiagfmjekcncaaDoor
namespace Go.Proofs.YtpiagfmjekcncaaDoor
theorem and_pow (m i : Nat) : m &&& 2 ^ i = if m.testBit i then 2 ^ i else 0 := by
  apply Nat.eq_of_testBit_eq
  intro j
  rw [Nat.testBit_and, Nat.testBit_two_pow]
  by_cases h : i = j
  · subst h
    cases hm : m.testBit i
    · simp
    · simp [Nat.testBit_two_pow]
  · rw [decide_eq_false h, Bool.and_false]
    split
    · rw [Nat.testBit_two_pow, decide_eq_false h]
    · simp
theorem pow_and (m i : Nat) : 2 ^ i &&& m = if m.testBit i then 2 ^ i else 0 := by rw [Nat.and_comm]; exact and_pow m i
theorem rdN_bit (l : List UInt8) (x : UInt8) (i : Nat) : ∀ k, (rdN l k x.toNat).testBit i = decide (i < k ∧ l[i]? = some x)
  | 0 => by unfold rdN; simp
  | k + 1 => by
    have ih := rdN_bit l x i k
    cases hx : l[k]? with
    | none =>
      rw [rdN, hx]
      show (rdN l k x.toNat).testBit i = _
      rw [ih]
      refine decide_eq_decide.2 ⟨fun h => ⟨by omega, h.2⟩, fun h => ⟨?_, h.2⟩⟩
      have h1 := h.1
      by_cases hik : i = k
      · subst hik; rw [hx] at h; cases h.2
      · omega
    | some y =>
      rw [rdN, hx]
      show (updN (rdN l k) y.toNat (rdN l k y.toNat ||| 2 ^ k) x.toNat).testBit i = _
      unfold updN
      by_cases hxy : x = y
      · subst hxy
        rw [if_pos rfl, Nat.testBit_or, ih, Nat.testBit_two_pow, Bool.eq_iff_iff]
        simp only [Bool.or_eq_true, decide_eq_true_eq]
        constructor
        · rintro (h | h)
          · exact ⟨by omega, h.2⟩
          · subst h; exact ⟨by omega, hx⟩
        · rintro ⟨h1, h2⟩
          by_cases hik : k = i
          · exact .inr hik
          · exact .inl ⟨by omega, h2⟩
      · rw [if_neg (fun e => hxy (UInt8.toNat_inj.1 e)), ih]
        refine decide_eq_decide.2 ⟨fun h => ⟨by omega, h.2⟩, fun h => ⟨?_, h.2⟩⟩
        have h1 := h.1
        by_cases hik : i = k
        · subst hik
          rw [hx] at h
          exact absurd (Option.some.inj h.2).symm hxy
        · omega
/-- Where the automaton stands behind j letters of a text. -/
def atN (l t : List UInt8) (j : Nat) : Nat := if j ≤ l.length ∧ t.take j = l.take j then 2 ^ (j - 1) else 0
theorem take_step {l t : List UInt8} {j : Nat} {x : UInt8} (hx : t[j]? = some x) (hj : j < l.length) : t.take (j + 1) = l.take (j + 1) ↔ t.take j = l.take j ∧ l[j]? = some x := by
  obtain ⟨y, hy⟩ : ∃ y, l[j]? = some y := ⟨_, List.getElem?_eq_getElem hj⟩
  have hjt : j < t.length := (List.getElem?_eq_some_iff.1 hx).1
  rw [List.take_add_one, List.take_add_one, hx, hy]
  simp only [Option.toList_some]
  constructor
  · intro h
    have h2 := List.append_inj' h rfl
    exact ⟨h2.1, by rw [(List.cons.inj h2.2).1]⟩
  · rintro ⟨h1, h2⟩
    rw [h1, Option.some.inj h2]
theorem at_first {l t : List UInt8} {x : UInt8} (hx : t[0]? = some x) : fxN l.length &&& rdN l l.length x.toNat = atN l t 1 := by
  unfold fxN atN
  by_cases h0 : l.length = 0
  · rw [if_pos h0, if_neg (by omega), Nat.zero_and]
  · rw [if_neg h0, show (1 : Nat) = 2 ^ 0 from rfl, pow_and, rdN_bit]
    have hs := take_step (l := l) hx (by omega)
    rw [Nat.zero_add] at hs
    by_cases h : l[0]? = some x
    · rw [if_pos (by simp only [decide_eq_true_eq]; exact ⟨by omega, h⟩), if_pos ⟨by omega, hs.2 ⟨rfl, h⟩⟩]
    · rw [if_neg (by simp only [decide_eq_true_eq]; exact fun e => h e.2), if_neg (fun e => h (hs.1 e.2).2)]
theorem at_zero {l t : List UInt8} {j : Nat} (hj : 1 ≤ j) (h : atN l t j = 0) : ¬ (j ≤ l.length ∧ t.take j = l.take j) := fun e => by
  unfold atN at h
  rw [if_pos e] at h
  have := Nat.two_pow_pos (j - 1)
  omega
theorem at_stay {l t : List UInt8} {j : Nat} {x : UInt8} (hx : t[j]? = some x) (h : ¬ (j ≤ l.length ∧ t.take j = l.take j)) : atN l t (j + 1) = 0 := by
  unfold atN
  rw [if_neg]
  rintro ⟨h1, h2⟩
  exact h ⟨by omega, ((take_step hx (by omega)).1 h2).1⟩
theorem at_step {l t : List UInt8} {j : Nat} {x : UInt8} (hj : 1 ≤ j) (hx : t[j]? = some x) (h : j ≤ l.length ∧ t.take j = l.take j) : folN l.length (j - 1) &&& rdN l l.length x.toNat = atN l t (j + 1) := by
  unfold folN atN
  rw [show j - 1 + 1 = j by omega, show j + 1 - 1 = j by omega]
  by_cases h1 : j < l.length
  · rw [if_pos h1, pow_and, rdN_bit]
    have hs := take_step (l := l) hx h1
    by_cases h2 : l[j]? = some x
    · rw [if_pos (by simp only [decide_eq_true_eq]; exact ⟨h1, h2⟩), if_pos ⟨by omega, hs.2 ⟨h.2, h2⟩⟩]
    · rw [if_neg (by simp only [decide_eq_true_eq]; exact fun e => h2 e.2), if_neg (fun e => h2 (hs.1 e.2).2)]
  · rw [if_neg h1, if_neg (by omega), Nat.zero_and]
theorem at_end {l t : List UInt8} (ht : 1 ≤ t.length) : decide (atN l t t.length &&& lxN l.length ≠ 0) = decide (t = l) := by
  refine decide_eq_decide.2 ?_
  unfold atN lxN
  rw [List.take_length]
  constructor
  · intro h
    by_cases hc : t.length ≤ l.length ∧ t = l.take t.length
    · rw [if_pos hc] at h
      by_cases h0 : l.length = 0
      · omega
      · rw [if_neg h0, and_pow, Nat.testBit_two_pow] at h
        by_cases he : t.length - 1 = l.length - 1
        · have e : t.length = l.length := by omega
          rw [e, List.take_length] at hc
          exact hc.2
        · rw [if_neg (by simpa using he)] at h
          exact absurd rfl h
    · rw [if_neg hc, Nat.zero_and] at h
      exact absurd rfl h
  · rintro rfl
    rw [if_pos ⟨Nat.le_refl _, by rw [List.take_length]⟩, if_neg (by omega), Nat.and_self]
    have := Nat.two_pow_pos (t.length - 1)
    omega
theorem atN_lt {l t : List UInt8} (hl : l.length ≤ 64) (j : Nat) (hj : 1 ≤ j) : atN l t j < 18446744073709551616 := by
  unfold atN
  split
  · rename_i h
    exact Nat.pow_lt_pow_right (n := 64) (by omega) (by omega)
  · omega
theorem lxN_lt {k : Nat} (hk : k ≤ 64) : lxN k < 18446744073709551616 := by
  unfold lxN
  split
  · omega
  · exact Nat.pow_lt_pow_right (n := 64) (by omega) (by omega)
theorem fxN_lt (k : Nat) : fxN k < 18446744073709551616 := by unfold fxN; split <;> omega
end Go.Proofs.YtpiagfmjekcncaaDoor
namespace Go.Proofs.YtpiagfmjekcncaaDoor
open Go.RowKit
set_option maxRecDepth 100000 in
theorem zero_aut : Tryd.zeroCells69 = aC 0 (fun _ => 0) (fun _ => 0) := by kernel_rfl
theorem fol_zero : folN 0 = fun _ => 0 := by funext i; unfold folN; rw [if_neg (by omega)]
/-- build at a literal's box. -/
theorem build_lit (l : List UInt8) (hl : l.length ≤ 64) (w0 w : World) (lo g ga : Nat) (cs : List Value) (hv : LitV w0 lo l cs) (hb : Below w0.heap.size w0 w) (hB : Blk w g 27 cs.toArray) (hg : w0.heap.size ≤ g) (hga : w0.heap.size ≤ ga) (hgg : g ≠ ga)
    (hA : AutAt w ga 0 (rdN l 0) (folN 0)) (hT : TzAt w) (hgt : ga ≠ 0) :
    Calls Tryd.prog 26 #[.pointer (some ⟨ga, 0, none⟩), .pointer (some ⟨g, 0, none⟩)] w fun e w' => e = .returned (.agg #[.bool (decide (l.length = 0)), .int .u64 (fxN l.length : Nat), .int .u64 (lxN l.length : Nat)]) ∧ AutAt w' ga l.length (rdN l l.length) (folN l.length) ∧ Kept (isG ga) w w' := by
  have hc : ∀ j u, cs[j]? = some u → w.cell? ⟨g, 0 + j, none⟩ = some u := fun j u hu => by rw [Nat.zero_add, Blk.cell hB j]; simpa using hu
  match l, hl, hv, hA with
  | [], _, hv, hA =>
    obtain ⟨A, c, rfl⟩ := hv
    refine (build_empty ga g 0 w (hc 0 _ rfl) (Blk.lt hB)).mono ?_
    rintro e w' ⟨rfl, hk, hb'⟩
    exact ⟨rfl, hA.below hb' hA.lt, hk⟩
  | [x], _, hv, hA =>
    have hv : cs = litC x := hv
    subst hv
    have hbs := build_set ga 0 g 0 (by omega) x (rdN [x] 0) (folN 0) w hA (fun b => rdN_64 (by omega) b) (Blk.lt hB) hgg (hc 0 _ rfl) (hc 1 _ rfl) (hc 2 _ rfl) (hc 3 _ rfl) (hc 4 _ rfl)
    refine hbs.mono ?_
    rintro e w' ⟨rfl, hA', hk⟩
    refine ⟨rfl, ?_, hk⟩
    rw [show folN [x].length = folN 0 from folN_0]
    exact hA'
  | x :: y :: l, hl, hv, hA =>
    obtain ⟨b, c, cur, rfl, h2, h3, h4⟩ := hv
    have hbl := Blk.lt h3
    refine build_seq (x :: y :: l) hl ga g 0 b 0 c w hA hT hgt (Blk.lt hB) hgg (by omega) (hc 0 _ rfl) (hc 7 _ rfl) ⟨Nat.lt_of_lt_of_le hbl hb.size, fun i z hz => ?_⟩
    have hp : ∀ j u, (litC z)[j]? = some u → w.cell? ⟨b, 0 + i * 8 + j, none⟩ = some u := fun j u hu => by
      rw [Nat.zero_add]
      exact (hb.cell (p := ⟨b, i * 8 + j, none⟩) hbl).trans (h4 _ _ (litCs_at hz hu))
    exact ⟨hp 0 _ rfl, hp 1 _ rfl, hp 2 _ rfl, hp 3 _ rfl, hp 4 _ rfl⟩
set_option maxRecDepth 100000 in
set_option maxHeartbeats 8000000 in
theorem matches_lit (l : List UInt8) (hl : l.length ≤ 64) (w : World) (lo0 : Nat) (cs : List Value) (hv : LitV w lo0 l cs) (A : Option Addr) (c : Nat) (t : List UInt8) (hr : Reads w w.heap.size 1 A t.length (t.map byteV)) (hc : t.length ≤ c) (ht : t.length ≤ 2000) (hT : TzAt w) :
    Calls Tryd.prog 13 #[.agg cs.toArray, .slice A t.length c] w fun e w' => e = .returned (.tuple #[.bool (decide (t = l)), .nilIface]) ∧ Below w.heap.size w w' := by
  obtain ⟨kd, aa, ab, ac, ad, lo, hi, A2, n2, c2, rfl⟩ := hv.rxv.eight
  have hTl := hT.lt
  have hb1 := (Below.refl w.heap.size w).alloc (Nat.le_refl _) (.cells #[.int .i64 kd, .int .u64 aa, .int .u64 ab, .int .u64 ac, .int .u64 ad, .int .i64 lo, .int .i64 hi, .slice A2 n2 c2] 27)
  have hR1 : R8 (w.alloc (.cells #[.int .i64 kd, .int .u64 aa, .int .u64 ab, .int .u64 ac, .int .u64 ad, .int .i64 lo, .int .i64 hi, .slice A2 n2 c2] 27)) w.heap.size (.int .i64 kd) (.int .u64 aa) (.int .u64 ab) (.int .u64 ac) (.int .u64 ad) (.int .i64 lo) (.int .i64 hi) (.slice A2 n2 c2) := Blk.new w _ _
  obtain ⟨w1, hw1⟩ : ∃ w1, w1 = w.alloc (.cells #[.int .i64 kd, .int .u64 aa, .int .u64 ab, .int .u64 ac, .int .u64 ad, .int .i64 lo, .int .i64 hi, .slice A2 n2 c2] 27) := ⟨_, rfl⟩
  rw [← hw1] at hb1 hR1
  have HB1 := Lib.hid hb1
  have HR1 := Lib.hid hR1
  have HV := Lib.hid hv
  have HC := Lib.hid (check_lit l hl w1 lo0 _ (hv.below hb1))
  have HRD := Lib.hid hr
  have HT := Lib.hid hT
  have HW1 := Lib.hid hw1
  clear hw1 hb1 hR1 hv hr hT
  obtain ⟨n, hn⟩ : ∃ n, n = t.length := ⟨_, rfl⟩
  rw [← hn] at HRD hc ht ⊢
  have HN := Lib.hid hn
  obtain ⟨Z, hZ⟩ : ∃ Z, Z = decide (t = l) := ⟨_, rfl⟩
  rw [← hZ]
  have HZ := Lib.hid hZ
  clear hn hZ
  have t64 : decide (65536 < (n : Int)) = false := decide_eq_false (by omega)
  obtain ⟨⟨⟨c0, c1⟩, c2', c3⟩, ⟨c4, c5⟩, c6, c7⟩ := HR1.out.cells
  go_enter Tryd.func13, Tryd.ntmps13
  go_upto_region 1 with (fail)
  rw [← HW1.out]
  clear HW1
  go_wp2_with fail
  refine HC.out.mono ?_
  rintro e w2 ⟨rfl, hb2⟩
  have HB2 := Lib.hid (HB1.out.trans (hb2.mono HB1.out.size))
  have HR2 := Lib.hid (HR1.out.below hb2 HR1.out.lt)
  clear hb2 HB1 HR1 HC c0 c1 c2' c3 c4 c5 c6 c7
  have HA3 := Lib.hid (show AutAt (w2.alloc (.cells (aC 0 (fun _ => 0) (fun _ => 0)) 69)) w2.heap.size 0 (rdN l 0) (folN 0) from by rw [fol_zero]; exact Blk.new w2 _ _)
  have HB3 := Lib.hid (HB2.out.alloc HB2.out.size (.cells (aC 0 (fun _ => 0) (fun _ => 0)) 69))
  have HR3 := Lib.hid (HR2.out.alloc (.cells (aC 0 (fun _ => 0) (fun _ => 0)) 69))
  obtain ⟨w3, hw3⟩ : ∃ w3, w3 = w2.alloc (.cells (aC 0 (fun _ => 0) (fun _ => 0)) 69) := ⟨_, rfl⟩
  rw [← hw3] at HA3 HB3 HR3
  obtain ⟨ga, hga⟩ : ∃ ga, ga = w2.heap.size := ⟨_, rfl⟩
  rw [← hga] at HA3
  have hlt2 := HR2.out.lt
  have hgaw : w.heap.size < ga := by omega
  have hBU := build_lit l hl w w3 lo0 w.heap.size ga _ HV.out HB3.out HR3.out (Nat.le_refl _) (by omega) (by omega) HA3.out (HT.out.below HB3.out hTl) (by omega)
  obtain ⟨ex, hex⟩ : ∃ ex, ex = decide (l.length = 0) := ⟨_, rfl⟩
  obtain ⟨fx, hfx⟩ : ∃ fx, fx = fxN l.length := ⟨_, rfl⟩
  obtain ⟨lx, hlx⟩ : ∃ lx, lx = lxN l.length := ⟨_, rfl⟩
  rw [← hex, ← hfx, ← hlx] at hBU
  have HBU := Lib.hid hBU
  have HEX := Lib.hid hex
  have HFX := Lib.hid hfx
  have HLX := Lib.hid hlx
  have HW3 := Lib.hid hw3
  have HGA := Lib.hid hga
  have HZA := Lib.hid zero_aut
  clear hw3 hBU hex hfx hlx HR2 HB2 hga hlt2
  go_upto_region 7 with (fail)
  rw [HZA.out, ← HW3.out, ← HGA.out]
  clear HW3 HGA HZA
  go_wp2_with fail
  refine HBU.out.mono ?_
  rintro e w4 ⟨rfl, hA4, hK4⟩
  have HA5 := Lib.hid (hA4.alloc (.cells #[.bool ex, .int .u64 fx, .int .u64 lx] 71))
  have HB5 := Lib.hid ((hK4.below HB3.out HB3.out.size (fun i e => by have e' : i = ga := e; omega)).alloc (Nat.le_trans HB3.out.size hK4.size) (.cells #[.bool ex, .int .u64 fx, .int .u64 lx] 71))
  have HF5 := Lib.hid (Blk.new w4 71 #[.bool ex, .int .u64 fx, .int .u64 lx])
  obtain ⟨w5, hw5⟩ : ∃ w5, w5 = w4.alloc (.cells #[.bool ex, .int .u64 fx, .int .u64 lx] 71) := ⟨_, rfl⟩
  rw [← hw5] at HA5 HB5 HF5
  obtain ⟨gf, hgf⟩ : ∃ gf, gf = w4.heap.size := ⟨_, rfl⟩
  rw [← hgf] at HF5
  have HW5 := Lib.hid hw5
  have HGF := Lib.hid hgf
  clear hA4 hK4 HBU HA3 HB3 HR3 hw5 hgf
  go_upto_region 8 with (fail)
  rw [← HW5.out, ← HGF.out]
  clear HW5 HGF
  have f0 := Blk.cell HF5.out 0; have f1 := Blk.cell HF5.out 1; have f2 := Blk.cell HF5.out 2
  simp only [List.getElem?_toArray, List.getElem?_cons_zero, List.getElem?_cons_succ] at f0 f1 f2
  by_cases h0 : n = 0
  · have hR : Z = ex := by
      have ht0 : t = [] := List.eq_nil_of_length_eq_zero (by have := HN.out; omega)
      rw [HZ.out, HEX.out, ht0]
      refine decide_eq_decide.2 ⟨fun h => by rw [← h]; rfl, fun h => (List.eq_nil_of_length_eq_zero h).symm⟩
    subst hR h0
    go_wp2_with fail
    go_ret2
    exact ⟨rfl, HB5.out⟩
  obtain ⟨m, rfl⟩ : ∃ m, n = m + 1 := ⟨n - 1, by omega⟩
  have e0 : (((m + 1 : Nat) : Int) == 0) = false := beq_eq_false_iff_ne.2 (by omega)
  have e0' : ((m : Int) + 1 == 0) = false := beq_eq_false_iff_ne.2 (by omega)
  obtain ⟨bb, oo, rfl, hbb, hcc⟩ := HRD.out.form (by omega)
  have HCC := Lib.hid (fun (W : World) (hW : Below w.heap.size w W) (k : Nat) (x : UInt8) (hx : t[k]? = some x) => (show W.cell? ⟨bb, oo + k, none⟩ = some (.int .u8 (x.toNat : Int)) from (hW.cell (p := ⟨bb, oo + k, none⟩) hbb).trans (hcc k (byteV x) (by rw [List.getElem?_map, hx]; rfl))))
  obtain ⟨x0, hx0⟩ : ∃ x0, t[0]? = some x0 := ⟨_, List.getElem?_eq_getElem (by have := HN.out; omega)⟩
  have y0 := HCC.out _ HB5.out 0 x0 hx0
  rw [Nat.add_zero] at y0
  have hxl := x0.toNat_lt
  have r0 := HA5.out.R_ (b := x0.toNat) (by omega)
  have hand := u64_and_nat fx (rdN l l.length x0.toNat) (by rw [HFX.out]; exact fxN_lt _) (rdN_64 hl _)
  rw [HFX.out, at_first hx0, ← HFX.out] at hand
  obtain ⟨R0, hR0⟩ : ∃ R0, R0 = rdN l l.length x0.toNat := ⟨_, rfl⟩
  rw [← hR0] at r0 hand
  have hx256 : (x0.toNat : Int) < 256 := by omega
  obtain ⟨a1, ha1⟩ : ∃ a1, a1 = atN l t 1 := ⟨_, rfl⟩
  rw [← ha1] at hand
  have HA1 := Lib.hid ha1
  clear hcc hR0 ha1 hx0
  go_upto_region 10 with (fail)
  go_quiet (fail)
  obtain ⟨w6, hw6⟩ : ∃ w6, w6 = w5.drewN nq := ⟨_, rfl⟩
  have HA6 := Lib.hid (show AutAt w6 ga l.length (rdN l l.length) (folN l.length) from by rw [hw6]; exact HA5.out)
  have HB6 := Lib.hid (show Below w.heap.size w w6 from by rw [hw6]; exact below_drewN HB5.out _)
  have hf6 : w6.cell? ⟨gf, 2, none⟩ = some (.int .u64 lx) := by rw [hw6]; exact f2
  rw [← hw6]
  clear HA5 HB5 hw6 f0 f1 f2 y0 r0 hand hx256
  have hmc : m ≤ c - 1 := by omega
  by_cases hc1 : c = 1
  · obtain rfl : m = 0 := by omega
    go_wp2_with fail
    go_loopg [9, 11, 12, 40] (0 + 1) (fun f v9 _ _ i wr => ∃ k : Nat, k ≤ 0 ∧ 0 < k + f ∧ i = .int .i64 k ∧ v9 = .int .u64 (atN l t (k + 1) : Nat) ∧ w6 = wr)
    case atStart => exact ⟨0, Nat.zero_le _, by omega, rfl, by rw [HA1.out], rfl⟩
    case round =>
      obtain ⟨k, hk, hkf, rfl, rfl, rfl⟩ := hrel
      obtain ⟨f, rfl⟩ : ∃ f, gk = f + 1 := ⟨gk - 1, by omega⟩
      by_cases hlt : k < 0
      · exact absurd hlt (by omega)
      · obtain rfl : k = 0 := by omega
        have hend := at_end (l := l) (t := t) (by have := HN.out; omega)
        rw [← HN.out, ← HLX.out, ← HZ.out] at hend
        have hand := u64_and_nat (atN l t (0 + 1)) lx (atN_lt hl _ (by omega)) (by rw [HLX.out]; exact lxN_lt hl)
        obtain ⟨v, hv⟩ : ∃ v, v = atN l t (0 + 1) &&& lx := ⟨_, rfl⟩
        rw [← hv] at hand hend
        obtain ⟨a9, ha9⟩ : ∃ a9, a9 = atN l t (0 + 1) := ⟨_, rfl⟩
        rw [← ha9] at hand ⊢
        have e9 : ((v : Int) != 0) = Z := by
          rw [← hend, Bool.eq_iff_iff]
          simp
        clear hend hv ha9
        go_wp2_with fail
        go_ret2
        exact ⟨rfl, HB6.out⟩
  go_wp2_with fail
  go_loopg [9, 11, 12, 40] (m + 1) (fun f v9 _ _ i wr => ∃ k : Nat, k ≤ m ∧ m < k + f ∧ i = .int .i64 k ∧ v9 = .int .u64 (atN l t (k + 1) : Nat) ∧ w6 = wr)
  case atStart => exact ⟨0, Nat.zero_le _, by omega, rfl, by rw [HA1.out], rfl⟩
  case round =>
    obtain ⟨k, hk, hkf, rfl, rfl, rfl⟩ := hrel
    obtain ⟨f, rfl⟩ : ∃ f, gk = f + 1 := ⟨gk - 1, by omega⟩
    by_cases hlt : k < m
    · obtain ⟨x, hx⟩ : ∃ x, t[k + 1]? = some x := ⟨_, List.getElem?_eq_getElem (by have := HN.out; omega)⟩
      have y0 := HCC.out _ HB6.out (k + 1) x hx
      rw [show oo + (k + 1) = oo + 1 + k by omega] at y0
      have hxl' := x.toNat_lt
      have r0 := HA6.out.R_ (b := x.toNat) (by omega)
      have hx256 : (x.toNat : Int) < 256 := by omega
      have q0 : (k : Int) < (m : Int) := by omega
      have q1 : (0 : Int) ≤ (k : Int) := by omega
      obtain ⟨v, hv⟩ : ∃ v, v = atN l t (k + 1) := ⟨_, rfl⟩
      rw [← hv]
      by_cases hz : v = 0
      · have hst := at_stay (j := k + 1) hx (at_zero (by omega) (by rw [← hv]; exact hz))
        have HST := Lib.hid hst
        have hand := u64_and_nat 0 (rdN l l.length x.toNat) (by omega) (rdN_64 hl _)
        rw [Nat.zero_and] at hand
        have hand : bits BinOp.and IntKind.u64 0 (rdN l l.length x.toNat : Int) = 0 := hand
        obtain ⟨R1, hR1⟩ : ∃ R1, R1 = rdN l l.length x.toNat := ⟨_, rfl⟩
        rw [← hR1] at r0 hand
        subst hz
        clear hst hv hx hR1
        go_wp2_with fail
        go_loopg [9, 12] 1 (fun f2 v9 v12 wr2 => v9 = .int .u64 0 ∧ v12 = .int .u64 0 ∧ w6 = wr2)
        case atStart => exact ⟨rfl, rfl, rfl⟩
        case round =>
          obtain ⟨rfl, rfl, rfl⟩ := hrel
          go_wp2_with fail
          go_roundg f
          case measure => omega
          case rel => exact ⟨k + 1, hlt, by omega, rfl, by rw [HST.out]; rfl, rfl⟩
      · have hcase : k + 1 ≤ l.length ∧ t.take (k + 1) = l.take (k + 1) := by
          by_cases hc : k + 1 ≤ l.length ∧ t.take (k + 1) = l.take (k + 1)
          · exact hc
          · exact absurd (hv.trans (if_neg hc)) hz
        have hvk : v = 2 ^ k := hv.trans (if_pos hcase)
        have hs2 := at_step (j := k + 1) (by omega) hx hcase
        rw [show k + 1 - 1 = k by omega] at hs2
        have HST := Lib.hid hs2
        have h0r := HA6.out.H_ (i := k) (by omega)
        have htz := tz_any k (by omega) w6 (HT.out.below HB6.out hTl)
        have hm := pow_minus k (by omega)
        rw [← hvk] at htz hm
        have e1 : ((v : Int) == 0) = false := beq_eq_false_iff_ne.2 (by omega)
        have e1' : ((v : Int) != 0) = true := bne_iff_ne.2 (by omega)
        have hki : (k : Int) < 64 := by omega
        have hor := u64_or_nat 0 (folN l.length k) (by omega) (folN_lt hl _)
        rw [Nat.zero_or] at hor
        have hor : bits BinOp.or IntKind.u64 0 (folN l.length k : Int) = (folN l.length k : Int) := hor
        have hand := u64_and_nat (folN l.length k) (rdN l l.length x.toNat) (folN_lt hl _) (rdN_64 hl _)
        rw [hs2] at hand
        obtain ⟨R1, hR1⟩ : ∃ R1, R1 = rdN l l.length x.toNat := ⟨_, rfl⟩
        obtain ⟨H1, hH1⟩ : ∃ H1, H1 = folN l.length k := ⟨_, rfl⟩
        obtain ⟨v2, hv2⟩ : ∃ v2, v2 = atN l t (k + 1 + 1) := ⟨_, rfl⟩
        rw [← hR1] at r0 hand
        rw [← hH1] at h0r hor hand
        rw [← hv2] at hand
        have HV2 := Lib.hid hv2
        have HTZ := Lib.hid htz
        clear hv hvk hs2 hx hR1 hH1 hv2 hcase htz hz
        go_wp2_with fail
        go_loopg [9, 12] 2 (fun f2 v9 v12 wr2 => w6 = wr2 ∧ ((f2 = 2 ∧ v9 = .int .u64 v ∧ v12 = .int .u64 0) ∨ (f2 = 1 ∧ v9 = .int .u64 0 ∧ v12 = .int .u64 H1)))
        case atStart => exact ⟨rfl, .inl ⟨rfl, rfl, rfl⟩⟩
        case round =>
          obtain ⟨rfl, ⟨rfl, rfl, rfl⟩ | ⟨rfl, rfl, rfl⟩⟩ := hrel
          · go_wp2_with fail
            refine HTZ.out.mono ?_
            rintro e w7 ⟨rfl, rfl⟩
            go_wp2_with fail
            go_roundg 1
            case measure => omega
            case rel => exact ⟨rfl, .inr ⟨rfl, rfl, rfl⟩⟩
          · go_wp2_with fail
            go_roundg f
            case measure => omega
            case rel => exact ⟨k + 1, hlt, by omega, rfl, by rw [← HV2.out], rfl⟩
    · obtain rfl : k = m := by omega
      have hend := at_end (l := l) (t := t) (by have := HN.out; omega)
      rw [← HN.out, ← HLX.out, ← HZ.out] at hend
      have hand := u64_and_nat (atN l t (k + 1)) lx (atN_lt hl _ (by omega)) (by rw [HLX.out]; exact lxN_lt hl)
      obtain ⟨v, hv⟩ : ∃ v, v = atN l t (k + 1) &&& lx := ⟨_, rfl⟩
      rw [← hv] at hand hend
      obtain ⟨a9, ha9⟩ : ∃ a9, a9 = atN l t (k + 1) := ⟨_, rfl⟩
      rw [← ha9] at hand ⊢
      have e9 : ((v : Int) != 0) = Z := by
        rw [← hend, Bool.eq_iff_iff]
        simp
      clear hend hv ha9
      go_wp2_with fail
      go_ret2
      exact ⟨rfl, HB6.out⟩
end Go.Proofs.YtpiagfmjekcncaaDoor
