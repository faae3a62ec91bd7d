/- balance.repeat and balance.Repeat at balanced texts. -/
import Derived.Test.YtphpfkhpihlalaaBa2
namespace Go.Proofs.Ytphpfkhpihlalaa
open Go.RowKit
def Rp (w : World) (F : Nat → Prop) (p m : Nat) (E : List En) (t : List UInt8) (K c x id r : Nat) (W : World) : Prop :=
  ∃ (E1 : List En) (s a d d1 : Nat), Kept F w W ∧ StAt W (NewF F w W) p m E1 ∧ EOk E1 ∧ Ext E E1 ∧ E1.length ≤ E.length + (524 * s + c) ∧ Tx E1 id (rep (2 ^ s) t) d ∧ TxO E1 r (rep a t) d1 ∧ a + 2 ^ s * x = K ∧ s < 63
theorem two_lt {s K : Nat} (h : 2 ^ s ≤ K) (hK : K < 9223372036854775808) : s < 63 := by
  rcases Nat.lt_or_ge s 63 with h1 | h1
  · exact h1
  · have := Nat.pow_le_pow_right (show 0 < 2 by decide) h1
    omega
theorem gap_lt {E : List En} (hE : EOk E) {a b da db : Nat} {ta tb : List UInt8} (ha : TxO E a ta da) (hb : TxO E b tb db) : 3 * gap da db + 1 ≤ 262 := by
  have := (ha.len hE).2.1
  have := (hb.len hE).2.1
  unfold gap; omega
theorem Out.lost {m c c1 C : Nat} {E E1 E2 : List En} {g g' : List En → Nat → Prop} (h : Out m E1 c g (E2, none)) (he : Ext E E1) (hl : E1.length ≤ E.length + c1) (hc : c1 + c ≤ C) : Out m E C g' (E2, none) := (h.next he hl).fail hc
theorem kept_new {w W w' : World} {F : Nat → Prop} {p m : Nat} {E : List En} (k : Kept F w W) (k2 : Kept (NewF F w W) W w') (st : StAt w' (NewF (NewF F w W) W w') p m E) : Kept F w w' ∧ StAt w' (NewF F w w') p m E :=
  ⟨k.via newF_sub k2, st.grow k.size newF_sub⟩
set_option maxRecDepth 100000 in
theorem cost_le {a b s : Nat} (h : a ≤ b + (524 * s + 262)) (hs : s < 63) : a ≤ b + 33012 := by omega
theorem repeat_any {w : World} {F : Nat → Prop} {p m : Nat} {E : List En} (hE : EOk E) (h : StAt w F p m E) {id d : Nat} {t : List UInt8} (hx : Tx E id t d) (K : Nat) (hK0 : 0 < K) (hK : K < 9223372036854775808) (hs : K * t.length ≤ 1152921504606846976) :
    Calls Try.prog 37 #[ptr p, .int .i64 (id : Int), .int .i64 (K : Int)] w (AvEnd 50 w F p m E 33012 (fun E' i => ∃ d', TxO E' i (rep K t) d')) := by
  let R := AvR w F p m E 33012 (fun E' i => ∃ d', TxO E' i (rep K t) d')
  let I : Nat → Nat → Nat → World → Prop := fun id k r W => 0 < k ∧ k ≤ K ∧ Rp w F p m E t K 0 k id r W
  let J : Nat → Nat → Nat → World → Prop := fun id k r W => 0 < k ∧ k ≤ K ∧ Rp w F p m E t K 262 (2 * (k / 2)) id r W
  refine (repeat_walk p id K w (R := R) I J (fun id k o W => match o with | some r => J id k r W | none => R none W) (fun k r o W => match o with | some id => I id (k / 2) r W | none => R none W)
    ⟨hK0, Nat.le_refl _, E, 0, 0, d, 0, Kept.refl _ _, h.keep (fun _ _ => rfl) (fun i hi => ⟨.inl hi, h.lt i hi⟩) (fun i hi => hi.2), hE, Ext.refl _, by omega, by rw [Nat.pow_zero, rep_one]; exact hx, .inl ⟨rfl, rep_zero _, rfl⟩, by omega, by omega⟩
    (fun id k r W hi => ⟨by have := hi.2.1; omega, hi.1⟩) (fun id k r W hi hodd => ?_) (fun _ _ _ hr => hr) (fun id k r W hi hodd => ?_) (fun _ _ _ _ hr => hr) (fun id k r W hj hq => ?_) (fun id k r W hj hq => ?_) (fun _ _ _ hr => hr) (fun _ _ _ _ hr => hr)).mono fun _ _ he => he.av
  · obtain ⟨hk0, hkK, E1, s, a, d2, d1, kk, st, ok, ext, len, x1, x2, hsum, hs63⟩ := hi
    have hle : 2 ^ s ≤ 2 ^ s * k := Nat.le_mul_of_pos_right _ hk0
    have hlen : (a + 2 ^ s) * t.length ≤ K * t.length := Nat.mul_le_mul_right _ (by omega)
    rw [Nat.add_mul] at hlen
    refine (Join_any ok st x2 (.inr x1) (by rw [rep_len, rep_len]; omega)).mono ?_
    rintro e w' ⟨⟨E2, o⟩, out, rfl, k2, st2⟩
    have hg := gap_lt ok x2 (.inr x1)
    obtain ⟨k3, st3⟩ := kept_new kk k2 st2
    refine ⟨o, rfl, ?_⟩
    cases o with
    | none => exact ⟨E2, out.lost ext len (by omega), k3, st3⟩
    | some r1 =>
      obtain ⟨d3, x3, _, _⟩ := out.good r1 rfl
      have := out.len
      have hkk : k = 2 * (k / 2) + 1 := by omega
      have hsum2 : a + 2 ^ s + 2 ^ s * (2 * (k / 2)) = K := by
        rw [hkk, Nat.mul_add, Nat.mul_one] at hsum
        omega
      exact ⟨hk0, hkK, E2, s, a + 2 ^ s, d2, d3, k3, st3, out.ok, ext.trans out.ext, by simp only at this; omega, x1.ext out.ext, by rw [rep_add]; exact x3, hsum2, hs63⟩
  · obtain ⟨hk0, hkK, E1, s, a, d2, d1, kk, st, ok, ext, len, x1, x2, hsum, hs63⟩ := hi
    exact ⟨hk0, hkK, E1, s, a, d2, d1, kk, st, ok, ext, by omega, x1, x2, by rw [show 2 * (k / 2) = k by omega]; exact hsum, hs63⟩
  · obtain ⟨hk0, hkK, E1, s, a, d2, d1, kk, st, ok, ext, len, x1, x2, hsum, hs63⟩ := hj
    rw [hq, Nat.mul_zero, Nat.add_zero] at hsum
    subst hsum
    have hl := cost_le len hs63
    have ho : Out m E 33012 (fun E' i => ∃ d', TxO E' i (rep a t) d') (E1, some r) := ⟨ok, ext, hl, fun h => (nomatch h), fun i hi => by cases hi; exact ⟨_, x2⟩⟩
    exact ⟨E1, ho, kk, st⟩
  · obtain ⟨hk0, hkK, E1, s, a, d2, d1, kk, st, ok, ext, len, x1, x2, hsum, hs63⟩ := hj
    have hle : 2 ^ s * 2 ≤ 2 ^ s * (2 * (k / 2)) := Nat.mul_le_mul_left _ (by omega)
    have hlen : (2 ^ s + 2 ^ s) * t.length ≤ K * t.length := Nat.mul_le_mul_right _ (by omega)
    rw [Nat.add_mul] at hlen
    refine (Join_any ok st (.inr x1) (.inr x1) (by rw [rep_len]; omega)).mono ?_
    rintro e w' ⟨⟨E2, o⟩, out, rfl, k2, st2⟩
    have hg := gap_lt ok (.inr x1) (.inr x1)
    obtain ⟨k3, st3⟩ := kept_new kk k2 st2
    refine ⟨o, rfl, ?_⟩
    cases o with
    | none => exact ⟨E2, out.lost ext len (by omega), k3, st3⟩
    | some i1 =>
      obtain ⟨d3, x3, _, _⟩ := out.good i1 rfl
      have := out.len
      have h2 : 2 ^ (s + 1) = 2 ^ s + 2 ^ s := by rw [Nat.pow_succ]; omega
      have x3' : Tx E2 i1 (rep (2 ^ (s + 1)) t) d3 := by
        rw [h2, rep_add]
        refine x3.resolve_left fun hz => ?_
        have h0 := (x1.len ok).1
        have := congrArg List.length hz.2.1
        rw [List.length_append, List.length_nil] at this
        omega
      refine ⟨by omega, by omega, E2, s + 1, a, d3, d1, k3, st3, out.ok, ext.trans out.ext, by simp only at this; omega, x3', x2.ext out.ext, ?_, ?_⟩
      · rw [← hsum, Nat.pow_succ, Nat.mul_assoc]
      · exact two_lt (K := K) (by rw [Nat.pow_succ]; omega) hK
set_option maxRecDepth 100000 in
set_option maxHeartbeats 1000000 in
theorem Repeat_walk (p : Nat) (a k : Int) (w : World) {R : Option Nat → World → Prop} (x : Wt) (hk : 0 ≤ k) (pr : Int)
    (g0 : ∀ W, Below w.heap.size w W → Calls Try.prog 18 #[ptr p, .int .i64 a] W fun e w' => e = .returned (.tuple #[.bool true, .nilIface]) ∧ Below W.heap.size W w')
    (g1 : ∀ W, Below w.heap.size w W → Calls Try.prog 14 #[ptr p, .int .i64 a] W fun e w' => e = .returned (.tuple #[x.val, .nilIface]) ∧ Below W.heap.size W w')
    (hmul : ∀ W, Calls Try.prog 36 #[.int .i64 x.len, .int .i64 k] W fun e w' => e = .returned (.tuple #[.int .i64 pr, .nilIface]) ∧ w' = W)
    (k0 : k = 0 ∨ a = 0 → ∀ W, Below w.heap.size w W → Ids R (.returned (.tuple #[.int .i64 0, .nilIface])) W)
    (k1 : k ≠ 0 → a ≠ 0 → ∀ W, Below w.heap.size w W → Calls Try.prog 37 #[ptr p, .int .i64 a, .int .i64 k] W (Ids R)) :
    Calls Try.prog 12 #[ptr p, .int .i64 a, .int .i64 k] w (Ids R) := by
  obtain ⟨xn, xl, xh, xt, ⟨xv, xs⟩⟩ := x
  simp only [Wt.val] at g1 hmul
  generalize (xv : Int) = xv at g1
  generalize (xs : Int) = xs at g1
  have K0 := Lib.hid k0
  have K1 := Lib.hid k1
  clear k0 k1
  have hk0 : ¬ k < 0 := by omega
  clear hk
  unfold ptr at *
  go_enter Try.func12, Try.ntmps12
  go_wp2_with fail
  refine (g0 _ (Below.refl _ _)).mono ?_
  rintro _ w0 ⟨rfl, hb0⟩
  have HB0 := Lib.hid hb0
  clear hb0 g0
  go_wp2_with fail
  refine (g1 _ HB0.out).mono ?_
  rintro _ w1 ⟨rfl, hb1⟩
  have HB1 := Lib.hid (HB0.out.trans (hb1.mono HB0.out.size))
  clear hb1 g1 HB0
  go_upto_region 11 with (fail)
  have HK := Lib.hid (Blk.new w1 38 #[.int .i64 xn, .int .i64 xl, .int .i64 xh, .int .i64 xt, .int .u64 xv, .int .u64 xs])
  have HB2 := Lib.hid (HB1.out.alloc HB1.out.size (.cells #[.int .i64 xn, .int .i64 xl, .int .i64 xh, .int .i64 xt, .int .u64 xv, .int .u64 xs] 38))
  obtain ⟨w2, hw2⟩ : ∃ w2, w2 = w1.alloc (.cells #[.int .i64 xn, .int .i64 xl, .int .i64 xh, .int .i64 xt, .int .u64 xv, .int .u64 xs] 38) := ⟨_, rfl⟩
  rw [← hw2] at HK HB2 ⊢
  clear hw2 HB1
  generalize w1.heap.size = q1 at *
  have z0 := HK.out.cell 0
  simp only [List.getElem?_toArray, List.getElem?_cons_zero, List.getElem?_cons_succ] at z0
  go_wp2_with fail
  refine (hmul _).mono ?_
  rintro _ wk ⟨rfl, hwk⟩
  rw [hwk]
  clear hwk wk hmul z0
  by_cases hz : k = 0
  · have HE := Lib.hid (K0.out (.inl hz) _ HB2.out)
    have hkz : (k == 0) = true := by simp [hz]
    go_wp2_with fail
    refine bodyPost_ret (v := .tuple #[.int .i64 0, .nilIface]) (by simp [results, Try.results12, go_sem]) rfl ?_
    exact HE.out
  · have hkz : (k == 0) = false := by simpa using hz
    by_cases ha : a = 0
    · have HE := Lib.hid (K0.out (.inr ha) _ HB2.out)
      have haz : (a == 0) = true := by simp [ha]
      go_wp2_with fail
      refine bodyPost_ret (v := .tuple #[.int .i64 0, .nilIface]) (by simp [results, Try.results12, go_sem]) rfl ?_
      exact HE.out
    · have haz : (a == 0) = false := by simpa using ha
      have g3 := K1.out hz ha _ HB2.out
      clear hz ha
      go_wp2_with fail
      refine g3.mono ?_
      rintro _ w7 ⟨o, rfl, hr⟩
      have HR := Lib.hid hr
      clear hr g3
      cases o with
      | none =>
        unfold idV
        go_wp2_with fail
        refine bodyPost_ret (v := .tuple #[.int .i64 0, .iface 50 (.int .i64 3)]) (by simp [results, Try.results12, go_sem]) rfl ?_
        exact ⟨none, rfl, HR.out⟩
      | some r =>
        unfold idV
        go_wp2_with fail
        refine bodyPost_ret (v := .tuple #[.int .i64 (r : Int), .nilIface]) (by simp [results, Try.results12, go_sem]) rfl ?_
        exact ⟨some r, rfl, HR.out⟩
theorem balanced_tx {w : World} {F : Nat → Prop} {p m : Nat} {E : List En} (h : StAt w F p m E) {id : Nat} {z : En} (hz : atE E id = some z) (he : z.even = true) : ∀ W, Below w.heap.size w W → Calls Try.prog 18 #[ptr p, .int .i64 (id : Int)] W fun e w' => e = .returned (.tuple #[.bool true, .nilIface]) ∧ Below W.heap.size W w' := fun _ hb => by
  have := balanced_any (h.below hb) id z hz
  rw [he] at this
  exact this
theorem Repeat_any {w : World} {F : Nat → Prop} {p m : Nat} {E : List En} (hE : EOk E) (h : StAt w F p m E) {id d : Nat} {t : List UInt8} (hx : TxO E id t d) (K : Nat) (hK : K < 9223372036854775808) (hs : K * t.length ≤ 1152921504606846976) :
    Calls Try.prog 12 #[ptr p, .int .i64 (id : Int), .int .i64 (K : Int)] w (AvEnd 50 w F p m E 33012 (fun E' i => ∃ d', TxO E' i (rep K t) d')) := by
  obtain ⟨x, hz, hxt, hxd, hxe⟩ := hx.at_
  have fx := hE.fit id x hz
  have lx := fx.length
  rw [hxt] at lx
  refine (Repeat_walk p id K w x.wt (by omega) (x.wt.len * K) (balanced_tx h hz hxe) (weight_tx h hz) (fun W => lmul_any x.wt.len K W fx.ok.len0 (by omega) ?_ fx.ok.len1) (fun h0 W hW => ?_) (fun h0 h1 W hW => ?_)).mono fun _ _ he => he.av
  · rw [lx, Int.mul_comm]
    exact Int.ofNat_le.2 hs
  · refine (avEnd_old h hW (some 0) (Out.same hE ⟨0, .inl ⟨rfl, ?_, rfl⟩⟩) rfl).ids
    rcases h0 with h0 | h0
    · obtain rfl : K = 0 := by omega
      exact rep_zero t
    · have : t = [] := ((hx.len hE).2.2).1 (by omega)
      subst this
      simp [rep]
  · have hx' : Tx E id t d := hx.resolve_left fun k => h1 (by rw [k.1]; rfl)
    exact (repeat_any hE (h.below hW) hx' K (by omega) hK hs).mono fun e w' he => (he.over hW).ids
end Go.Proofs.Ytphpfkhpihlalaa
