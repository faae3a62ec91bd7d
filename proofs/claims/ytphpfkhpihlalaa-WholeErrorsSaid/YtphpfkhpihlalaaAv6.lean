/- The walk of avl.Join. -/
import Derived.Test.YtphpfkhpihlalaaAv5
namespace Go.Proofs.Ytphpfkhpihlalaa
open Go.RowKit
set_option maxRecDepth 100000 in
set_option maxHeartbeats 1000000 in
theorem Join_walk (p : Nat) (a b : Int) (w : World) {R : Option Nat → World → Prop} (x y : Wt)
    (g1 : ∀ W, Below w.heap.size w W → Calls Try.prog 14 #[ptr p, .int .i64 a] W fun e w' => e = .returned (.tuple #[x.val, .nilIface]) ∧ Below W.heap.size W w')
    (g2 : ∀ W, Below w.heap.size w W → Calls Try.prog 14 #[ptr p, .int .i64 b] W fun e w' => e = .returned (.tuple #[y.val, .nilIface]) ∧ Below W.heap.size W w')
    (v1 : ∀ W, Below w.heap.size w W → Calls Try.prog 43 #[ptr p, .int .i64 a] W fun e w' => e = .returned (.bool true) ∧ Below W.heap.size W w')
    (v2 : ∀ W, Below w.heap.size w W → Calls Try.prog 43 #[ptr p, .int .i64 b] W fun e w' => e = .returned (.bool true) ∧ Below W.heap.size W w')
    (hadd : ∀ W, Calls Try.prog 44 #[.int .i64 x.len, .int .i64 y.len] W fun e w' => e = .returned (.tuple #[.int .i64 (x.len + y.len), .nilIface]) ∧ w' = W)
    (k0 : a = 0 → ∀ W, Below w.heap.size w W → Ids R (.returned (.tuple #[.int .i64 b, .nilIface])) W)
    (k1 : a ≠ 0 → b = 0 → ∀ W, Below w.heap.size w W → Ids R (.returned (.tuple #[.int .i64 a, .nilIface])) W)
    (k2 : a ≠ 0 → b ≠ 0 → ∀ W, Below w.heap.size w W → Calls Try.prog 45 #[ptr p, .int .i64 a, .int .i64 b] W (Ids R)) :
    Calls Try.prog 17 #[ptr p, .int .i64 a, .int .i64 b] w (Ids R) := by
  obtain ⟨xn, xl, xh, xt, ⟨xv, xs⟩⟩ := x
  obtain ⟨yn, yl, yh, yt, ⟨yv, ys⟩⟩ := y
  simp only [Wt.val] at g1 g2 hadd
  generalize (xv : Int) = xv at g1
  generalize (xs : Int) = xs at g1
  generalize (yv : Int) = yv at g2
  generalize (ys : Int) = ys at g2
  have K0 := Lib.hid k0
  have K1 := Lib.hid k1
  have K2 := Lib.hid k2
  clear k0 k1 k2
  unfold ptr at *
  go_enter Try.func17, Try.ntmps17
  go_wp2_with fail
  refine (g1 _ (Below.refl _ _)).mono ?_
  rintro _ w1 ⟨rfl, hb1⟩
  have HB1 := Lib.hid hb1
  clear hb1 g1
  go_upto_region 4 with (fail)
  have HK := Lib.hid (Blk.new w1 38 #[.int .i64 xn, .int .i64 xl, .int .i64 xh, .int .i64 xt, .int .u64 xv, .int .u64 xs])
  have HB2 := Lib.hid (HB1.out.alloc HB1.out.size (.cells #[.int .i64 xn, .int .i64 xl, .int .i64 xh, .int .i64 xt, .int .u64 xv, .int .u64 xs] 38))
  obtain ⟨w2, hw2⟩ : ∃ w2, w2 = w1.alloc (.cells #[.int .i64 xn, .int .i64 xl, .int .i64 xh, .int .i64 xt, .int .u64 xv, .int .u64 xs] 38) := ⟨_, rfl⟩
  rw [← hw2] at HK HB2 ⊢
  clear hw2 HB1
  generalize w1.heap.size = q1 at *
  go_wp2_with fail
  refine (g2 _ HB2.out).mono ?_
  rintro _ w3 ⟨rfl, hb3⟩
  have HK3 := Lib.hid (HK.out.below hb3 HK.out.lt)
  have HB3 := Lib.hid (HB2.out.trans (hb3.mono HB2.out.size))
  clear hb3 g2 HB2 HK
  go_upto_region 7 with (fail)
  have HL := Lib.hid (Blk.new w3 38 #[.int .i64 yn, .int .i64 yl, .int .i64 yh, .int .i64 yt, .int .u64 yv, .int .u64 ys])
  have HK4 := Lib.hid (HK3.out.alloc (.cells #[.int .i64 yn, .int .i64 yl, .int .i64 yh, .int .i64 yt, .int .u64 yv, .int .u64 ys] 38))
  have HB4 := Lib.hid (HB3.out.alloc HB3.out.size (.cells #[.int .i64 yn, .int .i64 yl, .int .i64 yh, .int .i64 yt, .int .u64 yv, .int .u64 ys] 38))
  obtain ⟨w4, hw4⟩ : ∃ w4, w4 = w3.alloc (.cells #[.int .i64 yn, .int .i64 yl, .int .i64 yh, .int .i64 yt, .int .u64 yv, .int .u64 ys] 38) := ⟨_, rfl⟩
  rw [← hw4] at HL HK4 HB4 ⊢
  clear hw4 HB3 HK3
  generalize w3.heap.size = q3 at *
  go_wp2_with fail
  refine (v1 _ HB4.out).mono ?_
  rintro _ w5 ⟨rfl, hb5⟩
  have HK5 := Lib.hid (HK4.out.below hb5 HK4.out.lt)
  have HL5 := Lib.hid (HL.out.below hb5 HL.out.lt)
  have HB5 := Lib.hid (HB4.out.trans (hb5.mono HB4.out.size))
  clear hb5 v1 HK4 HL HB4
  go_wp2_with fail
  refine (v2 _ HB5.out).mono ?_
  rintro _ w6 ⟨rfl, hb6⟩
  have HK6 := Lib.hid (HK5.out.below hb6 HK5.out.lt)
  have HL6 := Lib.hid (HL5.out.below hb6 HL5.out.lt)
  have HB6 := Lib.hid (HB5.out.trans (hb6.mono HB5.out.size))
  clear hb6 v2 HK5 HL5 HB5
  have z0 := HK6.out.cell 0
  have y0 := HL6.out.cell 0
  simp only [List.getElem?_toArray, List.getElem?_cons_zero, List.getElem?_cons_succ] at z0 y0
  go_wp2_with fail
  refine (hadd _).mono ?_
  rintro _ wk ⟨rfl, hwk⟩
  rw [hwk]
  clear hwk wk hadd z0 y0
  by_cases h0 : a = 0
  · have HE := Lib.hid (K0.out h0 _ HB6.out)
    subst h0
    go_wp2_with fail
    refine bodyPost_ret (v := .tuple #[.int .i64 b, .nilIface]) (by simp [results, Try.results17, go_sem]) rfl ?_
    exact HE.out
  · have ha0 : (a == 0) = false := by simpa using h0
    by_cases h1 : b = 0
    · have HE := Lib.hid (K1.out h0 h1 _ HB6.out)
      clear h0
      subst h1
      go_wp2_with fail
      refine bodyPost_ret (v := .tuple #[.int .i64 a, .nilIface]) (by simp [results, Try.results17, go_sem]) rfl ?_
      exact HE.out
    · have hb0 : (b == 0) = false := by simpa using h1
      have g3 := K2.out h0 h1 _ HB6.out
      clear h0 h1
      go_wp2_with fail
      refine g3.mono ?_
      rintro _ w7 ⟨o, rfl, hr⟩
      have HR := Lib.hid hr
      clear hr g3
      cases o with
      | none =>
        unfold idV
        go_wp2_with fail
        refine bodyPost_ret (v := .tuple #[.int .i64 0, .iface 50 (.int .i64 3)]) (by simp [results, Try.results17, go_sem]) rfl ?_
        exact ⟨none, rfl, HR.out⟩
      | some r =>
        unfold idV
        go_wp2_with fail
        refine bodyPost_ret (v := .tuple #[.int .i64 (r : Int), .nilIface]) (by simp [results, Try.results17, go_sem]) rfl ?_
        exact ⟨some r, rfl, HR.out⟩
def joGood (ta tb : List UInt8) (da db : Nat) (E' : List En) (id : Nat) : Prop := ∃ d, TxO E' id (ta ++ tb) d ∧ max da db ≤ d ∧ d ≤ max da db + 1
theorem weight_tx {w : World} {F : Nat → Prop} {p m : Nat} {E : List En} (h : StAt w F p m E) {id : Nat} {z : En} (hz : atE E id = some z) : ∀ W, Below w.heap.size w W → Calls Try.prog 14 #[ptr p, .int .i64 (id : Int)] W fun e w' => e = .returned (.tuple #[z.wt.val, .nilIface]) ∧ Below W.heap.size W w' := fun _ hb => weight_any (h.below hb) id z hz
theorem even_tx {w : World} {F : Nat → Prop} {p m : Nat} {E : List En} (h : StAt w F p m E) {id : Nat} {z : En} (hz : atE E id = some z) (he : z.even = true) : ∀ W, Below w.heap.size w W → Calls Try.prog 43 #[ptr p, .int .i64 (id : Int)] W fun e w' => e = .returned (.bool true) ∧ Below W.heap.size W w' := fun _ hb => by
  have := even_any (h.below hb) id z hz
  rw [he] at this
  exact this
theorem Join_any {w : World} {F : Nat → Prop} {p m : Nat} {E : List En} (hE : EOk E) (h : StAt w F p m E) {a b da db : Nat} {ta tb : List UInt8} (ha : TxO E a ta da) (hb : TxO E b tb db) (hs : ta.length + tb.length ≤ 1152921504606846976) :
    Calls Try.prog 17 #[ptr p, .int .i64 (a : Int), .int .i64 (b : Int)] w (AvEnd 50 w F p m E (3 * gap da db + 1) (joGood ta tb da db)) := by
  obtain ⟨x, hx, hxt, hxd, hxe⟩ := ha.at_
  obtain ⟨y, hy, hyt, hyd, hye⟩ := hb.at_
  have fx := hE.fit a x hx
  have fy := hE.fit b y hy
  have lx := fx.length
  have ly := fy.length
  rw [hxt] at lx
  rw [hyt] at ly
  refine (Join_walk p a b w x.wt y.wt (weight_tx h hx) (weight_tx h hy) (even_tx h hx hxe) (even_tx h hy hye) (fun W => ladd_any x.wt.len y.wt.len W fx.ok.len0 fy.ok.len0 (by omega)) (fun h0 W hW => ?_) (fun h0 h1 W hW => ?_) (fun h0 h1 W hW => ?_)).mono fun _ _ he => he.av
  · have ha0 : a = 0 := by omega
    obtain ⟨_, rfl, rfl⟩ : a = 0 ∧ ta = [] ∧ da = 0 := by
      rcases ha with ha | ha
      · exact ha
      · have := ha.pos; omega
    exact (avEnd_old h hW (some b) (Out.same hE ⟨db, hb, by omega, by omega⟩) rfl).ids
  · obtain ⟨_, rfl, rfl⟩ : b = 0 ∧ tb = [] ∧ db = 0 := by
      rcases hb with hb | hb
      · exact hb
      · have := hb.pos; omega
    exact (avEnd_old h hW (some a) (Out.same hE ⟨da, by rw [List.append_nil]; exact ha, by omega, by omega⟩) rfl).ids
  · have ha' : Tx E a ta da := ha.resolve_left fun k => h0 (by rw [k.1]; rfl)
    have hb' : Tx E b tb db := hb.resolve_left fun k => h1 (by rw [k.1]; rfl)
    exact (join_any hE (h.below hW) ha' hb' hs).mono fun e w' he => ((he.relax (Nat.le_refl _) fun E' id ⟨d, h1, h2, h3⟩ => ⟨d, .inr h1, h2, h3⟩).over hW).ids
end Go.Proofs.Ytphpfkhpihlalaa
