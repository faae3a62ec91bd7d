/- access.At at a balanced text. -/
import Derived.Test.YtphpfkhpihlalaaSto
import Derived.LoopTactic
namespace Go.Proofs.Ytphpfkhpihlalaa
open Go.RowKit
set_option maxRecDepth 100000 in
theorem below_any (l r left k : Int) (w : World) (h : IntKind.i64.wrap (k - left) = k - left) : Calls Try.prog 50 #[.agg #[.int .i64 2, .int .u8 0, .int .i64 l, .int .i64 r, .int .i64 0], .int .i64 left, .int .i64 k] w fun e w' => e = .returned (.tuple #[.int .i64 (if k < left then l else r), .int .i64 (if k < left then k else k - left)]) ∧ Below w.heap.size w w' := by
  have HB1 := Lib.hid ((Below.refl w.heap.size w).alloc (Nat.le_refl _) (.cells #[.int .i64 2, .int .u8 0, .int .i64 l, .int .i64 r, .int .i64 0] 95))
  have HK := Lib.hid (Blk.new w 95 #[.int .i64 2, .int .u8 0, .int .i64 l, .int .i64 r, .int .i64 0])
  obtain ⟨w1, hw1⟩ : ∃ w1, w1 = w.alloc (.cells #[.int .i64 2, .int .u8 0, .int .i64 l, .int .i64 r, .int .i64 0] 95) := ⟨_, rfl⟩
  rw [← hw1] at HB1 HK
  have HW1 := Lib.hid hw1
  clear hw1
  have z0 := HK.out.cell 0
  have z2 := HK.out.cell 2
  have z3 := HK.out.cell 3
  simp only [List.getElem?_toArray, List.getElem?_cons_zero, List.getElem?_cons_succ] at z0 z2 z3
  by_cases hk : k < left
  · rw [if_pos hk, if_pos hk]
    go_enter Try.func50, Try.ntmps50
    go_upto_region 1 with (fail)
    rw [← HW1.out]
    clear HW1
    go_wp2_with fail
    refine bodyPost_ret (v := .tuple #[.int .i64 l, .int .i64 k]) (by simp [results, Try.results50, go_sem]) rfl ?_
    exact ⟨rfl, HB1.out⟩
  · rw [if_neg hk, if_neg hk]
    go_enter Try.func50, Try.ntmps50
    go_upto_region 1 with (fail)
    rw [← HW1.out]
    clear HW1
    go_wp2_with fail
    refine bodyPost_ret (v := .tuple #[.int .i64 r, .int .i64 (k - left)]) (by simp [results, Try.results50, go_sem]) rfl ?_
    exact ⟨rfl, HB1.out⟩
def AtI (w : World) (E : List En) (b : UInt8) (id : Nat) (f : Int) (W : World) : Prop :=
  ∃ (t : List UInt8) (d k : Nat), f = (k : Int) ∧ Tx E id t d ∧ t[k]? = some b ∧ Below w.heap.size w W
theorem getElem?_lt {t : List UInt8} {k : Nat} {b : UInt8} (h : t[k]? = some b) : k < t.length := by
  rcases Nat.lt_or_ge k t.length with h1 | h1
  · exact h1
  · rw [List.getElem?_eq_none h1] at h; cases h
/-- What a round of At meets: a letter, or a pair. -/
theorem at_round {w : World} {F : Nat → Prop} {p m : Nat} {E : List En} (hE : EOk E) (h : StAt w F p m E) {b : UInt8} {id : Nat} {f : Int} {W : World} (hi : AtI w E b id f W) :
    (∀ W', Below W.heap.size W W' → Calls Try.prog 49 #[ptr p, .int .i64 (id : Int)] W' fun e w' => e = .returned (.tuple #[.agg #[.int .i64 1, .int .u8 b.toNat, .int .i64 0, .int .i64 0, .int .i64 0], .nilIface]) ∧ Below W'.heap.size W' w') ∨
    ∃ (l r : Nat) (x : Wt), (∀ W', Below W.heap.size W W' → Calls Try.prog 49 #[ptr p, .int .i64 (id : Int)] W' fun e w' => e = .returned (.tuple #[.agg #[.int .i64 2, .int .u8 0, .int .i64 (l : Int), .int .i64 (r : Int), .int .i64 0], .nilIface]) ∧ Below W'.heap.size W' w') ∧
      (∀ W', Below W.heap.size W W' → Calls Try.prog 14 #[ptr p, .int .i64 (l : Int)] W' fun e w' => e = .returned (.tuple #[x.val, .nilIface]) ∧ Below W'.heap.size W' w') ∧
      (∀ W', Calls Try.prog 50 #[.agg #[.int .i64 2, .int .u8 0, .int .i64 (l : Int), .int .i64 (r : Int), .int .i64 0], .int .i64 x.len, .int .i64 f] W' fun e w' => (∃ (id2 : Nat) (f2 : Int), e = .returned (.tuple #[.int .i64 (id2 : Int), .int .i64 f2]) ∧ id2 < id ∧ ∀ W'', Below W.heap.size W W'' → AtI w E b id2 f2 W'') ∧ Below W'.heap.size W' w') := by
  obtain ⟨t, d, k, rfl, hx, hb, hW⟩ := hi
  have hW' : ∀ W', Below W.heap.size W W' → Below w.heap.size w W' := fun W' hb => hW.trans (hb.mono hW.size)
  have hk := getElem?_lt hb
  have hlen := (hx.len hE).2.1
  obtain ⟨z, hz, ⟨c, ht, _, he⟩ | ⟨l, r, tl, tr, dl, dr, x, y, hl, hr, hn, ht, hd, he, hxl, hyr, q1, q2⟩⟩ := hx.parts hE
  · left
    intro W' hb'
    have := rule_any (h.below (hW' W' hb')) id z hx.pos hz
    subst ht
    have h0 : k = 0 := by simp at hk; omega
    subst h0
    have hc : c = b := by injection hb
    subst hc
    rw [he] at this
    exact this
  · right
    have wl := weight_of hE h (.inr hl : TxO E l tl dl)
    refine ⟨l, r, Wt.of tl, fun W' hb' => ?_, fun W' hb' => wl W' (hW' W' hb'), fun W' => ?_⟩
    · have := rule_any (h.below (hW' W' hb')) id z hx.pos hz
      rw [he] at this
      exact this
    · subst ht
      rw [List.length_append] at hk hlen
      refine (below_any l r (Wt.of tl).len k W' (by rw [Wt.of_len]; exact IntWalk.i64_in _ (by omega))).mono ?_
      rintro e w' ⟨rfl, hB⟩
      refine ⟨?_, hB⟩
      rw [Wt.of_len]
      by_cases hlt : (k : Int) < (tl.length : Int)
      · rw [if_pos hlt, if_pos hlt]
        exact ⟨l, k, rfl, q1, fun W'' hb'' => ⟨tl, dl, k, rfl, hl, by rw [List.getElem?_append_left (by omega)] at hb; exact hb, hW' W'' hb''⟩⟩
      · rw [if_neg hlt, if_neg hlt]
        exact ⟨r, (k : Int) - (tl.length : Int), rfl, q2, fun W'' hb'' => ⟨tr, dr, k - tl.length, by omega, hr, by rw [List.getElem?_append_right (by omega)] at hb; exact hb, hW' W'' hb''⟩⟩
set_option maxRecDepth 100000 in
set_option maxHeartbeats 2000000 in
theorem at21_any {w : World} {F : Nat → Prop} {p m : Nat} {E : List En} (hE : EOk E) (h : StAt w F p m E) {id d : Nat} {t : List UInt8} (hx : TxO E id t d) (k : Nat) (b : UInt8) (hb : t[k]? = some b) :
    Calls Try.prog 21 #[ptr p, .int .i64 (id : Int), .int .i64 (k : Int)] w fun e w' => e = .returned (.tuple #[.int .u8 b.toNat, .nilIface]) ∧ Below w.heap.size w w' := by
  have hk := getElem?_lt hb
  have hx' : Tx E id t d := hx.resolve_left fun h0 => by rw [h0.2.1] at hk; simp at hk
  have hw := weight_of hE h hx w (Below.refl _ _)
  have hlt : ¬ (t.length : Int) ≤ (k : Int) := by omega
  have hk0 : ¬ (k : Int) < 0 := by omega
  have hlt2 : decide (t.length ≤ k) = false := by simpa using hk
  have HR := Lib.hid (fun (id : Nat) (f : Int) (W : World) (hi : AtI w E b id f W) => at_round hE h hi)
  have HI := Lib.hid (show ∀ W, Below w.heap.size w W → AtI w E b id k W from fun W hW => ⟨t, d, k, rfl, hx', hb, hW⟩)
  have hwl := Wt.of_len t
  generalize Wt.of t = x at hw hwl
  obtain ⟨xn, xl, xh, xt, ⟨xv, xs⟩⟩ := x
  simp only at hwl
  subst hwl
  simp only [Wt.val] at hw
  generalize (xv : Int) = xv at hw
  generalize (xs : Int) = xs at hw
  clear hk hx hx' hb
  unfold ptr at *
  go_enter Try.func21, Try.ntmps21
  go_wp2_with fail
  refine hw.mono ?_
  rintro _ w1 ⟨rfl, hb1⟩
  have HB1 := Lib.hid hb1
  clear hb1 hw
  go_upto_region 4 with (fail)
  have HK := Lib.hid (Blk.new w1 38 #[.int .i64 (t.length : Int), .int .i64 xl, .int .i64 xh, .int .i64 xt, .int .u64 xv, .int .u64 xs])
  have HB2 := Lib.hid (HB1.out.alloc HB1.out.size (.cells #[.int .i64 (t.length : Int), .int .i64 xl, .int .i64 xh, .int .i64 xt, .int .u64 xv, .int .u64 xs] 38))
  obtain ⟨w2, hw2⟩ : ∃ w2, w2 = w1.alloc (.cells #[.int .i64 (t.length : Int), .int .i64 xl, .int .i64 xh, .int .i64 xt, .int .u64 xv, .int .u64 xs] 38) := ⟨_, rfl⟩
  rw [← hw2] at HK HB2 ⊢
  clear hw2 HB1
  generalize w1.heap.size = q1 at *
  have z0 := HK.out.cell 0
  simp only [List.getElem?_toArray, List.getElem?_cons_zero, List.getElem?_cons_succ] at z0
  go_wp2_with fail
  clear z0 HK hlt hk0
  go_loopw [1, 2] (fun x1 x2 wr => ∃ (id : Nat) (f : Int), x1 = .int .i64 (id : Int) ∧ x2 = .int .i64 f ∧ AtI w E b id f wr) (fun x1 _ _ => (intOf x1).toNat)
  case atStart => exact ⟨id, k, rfl, rfl, HI.out _ HB2.out⟩
  case round =>
    obtain ⟨id, f, rfl, rfl, hi⟩ := hrel
    have HBW : Hid (Below w.heap.size w wr) := Lib.hid (by obtain ⟨_, _, _, _, _, _, hW⟩ := hi; exact hW)
    rcases HR.out _ _ _ hi with hr | ⟨l, r, y, hr, hy, hbl⟩
    · have g1 := hr wr (Below.refl _ _)
      clear hi hr HI
      unfold ptr at g1
      go_wp2_with fail
      refine g1.mono ?_
      rintro _ w3 ⟨rfl, hb3⟩
      have HB3 := Lib.hid (HBW.out.trans (hb3.mono HBW.out.size))
      clear hb3 g1
      go_upto_region 9 with (fail)
      have HK := Lib.hid (Blk.new w3 95 #[.int .i64 1, .int .u8 b.toNat, .int .i64 0, .int .i64 0, .int .i64 0])
      have HB4 := Lib.hid (HB3.out.alloc HB3.out.size (.cells #[.int .i64 1, .int .u8 b.toNat, .int .i64 0, .int .i64 0, .int .i64 0] 95))
      obtain ⟨w4, hw4⟩ : ∃ w4, w4 = w3.alloc (.cells #[.int .i64 1, .int .u8 b.toNat, .int .i64 0, .int .i64 0, .int .i64 0] 95) := ⟨_, rfl⟩
      rw [← hw4] at HK HB4 ⊢
      clear hw4 HB3
      generalize w3.heap.size = q3 at *
      have z0 := HK.out.cell 0
      have z1 := HK.out.cell 1
      simp only [List.getElem?_toArray, List.getElem?_cons_zero, List.getElem?_cons_succ] at z0 z1
      go_wp2_with fail
      refine bodyPost_ret (v := .tuple #[.int .u8 b.toNat, .nilIface]) (by simp [results, Try.results21, go_sem]) rfl ?_
      exact ⟨rfl, HB4.out⟩
    · have g1 := hr wr (Below.refl _ _)
      have HY := Lib.hid hy
      have HBL := Lib.hid hbl
      clear hi hr hy hbl HI
      unfold ptr at g1
      go_wp2_with fail
      refine g1.mono ?_
      rintro _ w3 ⟨rfl, hb3⟩
      have HB3 := Lib.hid hb3
      clear hb3 g1
      go_upto_region 11 with (fail)
      have HK := Lib.hid (Blk.new w3 95 #[.int .i64 2, .int .u8 0, .int .i64 (l : Int), .int .i64 (r : Int), .int .i64 0])
      have HB4 := Lib.hid (HB3.out.alloc HB3.out.size (.cells #[.int .i64 2, .int .u8 0, .int .i64 (l : Int), .int .i64 (r : Int), .int .i64 0] 95))
      obtain ⟨w4, hw4⟩ : ∃ w4, w4 = w3.alloc (.cells #[.int .i64 2, .int .u8 0, .int .i64 (l : Int), .int .i64 (r : Int), .int .i64 0] 95) := ⟨_, rfl⟩
      rw [← hw4] at HK HB4 ⊢
      clear hw4 HB3
      generalize w3.heap.size = q3 at *
      have z2 := HK.out.cell 2
      simp only [List.getElem?_toArray, List.getElem?_cons_zero, List.getElem?_cons_succ] at z2
      have g2 := HY.out _ HB4.out
      obtain ⟨yn, yl, yh, yt, ⟨yv, ys⟩⟩ := y
      simp only [Wt.val] at g2
      have HBL2 := Lib.hid HBL.out
      simp only at HBL2
      generalize (yv : Int) = yv at g2
      generalize (ys : Int) = ys at g2
      clear HY HBL
      try unfold ptr at g2
      go_wp2_with fail
      refine g2.mono ?_
      rintro _ w5 ⟨rfl, hb5⟩
      have HK5 := Lib.hid (HK.out.below hb5 HK.out.lt)
      have HB5 := Lib.hid (HB4.out.trans (hb5.mono HB4.out.size))
      clear hb5 g2 z2 HK HB4
      go_upto_region 14 with (fail)
      have HL := Lib.hid (Blk.new w5 38 #[.int .i64 yn, .int .i64 yl, .int .i64 yh, .int .i64 yt, .int .u64 yv, .int .u64 ys])
      have HK6 := Lib.hid (HK5.out.alloc (.cells #[.int .i64 yn, .int .i64 yl, .int .i64 yh, .int .i64 yt, .int .u64 yv, .int .u64 ys] 38))
      have HB6 := Lib.hid (HB5.out.alloc HB5.out.size (.cells #[.int .i64 yn, .int .i64 yl, .int .i64 yh, .int .i64 yt, .int .u64 yv, .int .u64 ys] 38))
      obtain ⟨w6, hw6⟩ : ∃ w6, w6 = w5.alloc (.cells #[.int .i64 yn, .int .i64 yl, .int .i64 yh, .int .i64 yt, .int .u64 yv, .int .u64 ys] 38) := ⟨_, rfl⟩
      rw [← hw6] at HL HK6 HB6 ⊢
      clear hw6 HB5 HK5
      generalize w5.heap.size = q5 at *
      have y0 := HL.out.cell 0
      have z0 := HK6.out.cell 0
      have z1 := HK6.out.cell 1
      have z2 := HK6.out.cell 2
      have z3 := HK6.out.cell 3
      have z4 := HK6.out.cell 4
      simp only [List.getElem?_toArray, List.getElem?_cons_zero, List.getElem?_cons_succ] at y0 z0 z1 z2 z3 z4
      have g3 := HBL2.out w6
      clear HBL2
      go_wp2_with fail
      refine g3.mono ?_
      rintro _ w7 ⟨⟨id2, f2, rfl, hid, hnext⟩, hb7⟩
      have HN := Lib.hid (hnext _ (HB6.out.trans (hb7.mono HB6.out.size)))
      have HID := Lib.hid hid
      clear g3 hnext hb7 hid y0 z0 z1 z2 z3 z4
      go_wp2_with fail
      go_roundw
      case rel => exact ⟨id2, f2, rfl, rfl, HN.out⟩
      case measure => simp only [intOf]; have := HID.out; omega
end Go.Proofs.Ytphpfkhpihlalaa
