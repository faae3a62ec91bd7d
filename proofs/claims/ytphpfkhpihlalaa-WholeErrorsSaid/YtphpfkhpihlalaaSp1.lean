/- The walks of balance.Text, split.size, split.check. -/
import Derived.Test.YtphpfkhpihlalaaBa3
namespace Go.Proofs.Ytphpfkhpihlalaa
open Go.RowKit
set_option maxRecDepth 100000 in
theorem Text_some (p g o n c : Nat) (w : World) (hn : 0 < n) (h1 : n ≤ 65536) {R : Option Nat → World → Prop} (g1 : Calls Try.prog 35 #[ptr p, .slice (some ⟨g, o, none⟩) n c] w (Ids R)) :
    Calls Try.prog 11 #[ptr p, .slice (some ⟨g, o, none⟩) n c] w (Ids R) := by
  have hne : ((n : Int) == 0) = false := by simp; omega
  have hgt : ¬ (65536 : Int) < (n : Int) := by omega
  clear hn h1
  unfold ptr at *
  go_enter Try.func11, Try.ntmps11
  go_wp2_with fail
  refine g1.mono ?_
  rintro _ w7 ⟨o, rfl, hr⟩
  have HR := Lib.hid hr
  clear hr g1
  cases o with
  | none =>
    unfold idV
    go_wp2_with fail
    refine bodyPost_ret (v := .tuple #[.int .i64 0, .iface 50 (.int .i64 3)]) (by simp [results, Try.results11, go_sem]) rfl ?_
    exact ⟨none, rfl, HR.out⟩
  | some r =>
    unfold idV
    go_wp2_with fail
    refine bodyPost_ret (v := .tuple #[.int .i64 (r : Int), .nilIface]) (by simp [results, Try.results11, go_sem]) rfl ?_
    exact ⟨some r, rfl, HR.out⟩
set_option maxRecDepth 100000 in
theorem Text_none (p c : Nat) (A : Option Addr) (w : World) : Calls Try.prog 11 #[ptr p, .slice A 0 c] w fun e w' => e = .returned (idV 50 (some 0)) ∧ w' = w := by
  unfold ptr idV
  go_enter Try.func11, Try.ntmps11
  go_wp2_with fail
  refine bodyPost_ret (v := .tuple #[.int .i64 0, .nilIface]) (by simp [results, Try.results11, go_sem]) rfl ?_
  exact ⟨rfl, rfl⟩
/-- A slice of bytes, or an empty one. -/
def SlO (w : World) (F : Nat → Prop) (A : Option Addr) (bs : List UInt8) : Prop := 0 < bs.length → ∃ g o, A = some ⟨g, o, none⟩ ∧ SlB w F g o bs
theorem Text_any {w : World} {F : Nat → Prop} {p m : Nat} {E : List En} (hE : EOk E) (h : StAt w F p m E) {A : Option Addr} {n c : Nat} {bs : List UInt8} (hb : SlO w F A bs) (hl : bs.length = n) (hc : n ≤ c) (h1 : n ≤ 65536) :
    Calls Try.prog 11 #[ptr p, .slice A n c] w (AvEnd 50 w F p m E (2 * n) (fun E' id => TxO E' id bs (dpN n))) := by
  rcases Nat.eq_zero_or_pos n with h0 | h0
  · subst h0
    have hbs : bs = [] := List.length_eq_zero_iff.1 hl
    subst hbs
    refine (Text_none p c A w).mono ?_
    rintro e w' ⟨rfl, rfl⟩
    exact avEnd_old h (Below.refl _ _) (some 0) (Out.same hE (.inl ⟨rfl, rfl, by rw [dpN]; simp⟩)) rfl
  · obtain ⟨g, o, rfl, hs⟩ := hb (by omega)
    exact (Text_some p g o n c w h0 h1 ((text_ind n hE h hs hl h0 hc h1).mono fun e w' he => he.ids)).mono fun e w' he => he.av.relax (by omega) fun E' id hx => .inr hx
set_option maxRecDepth 100000 in
theorem size_walk (p : Nat) (a : Int) (w : World) (x : Wt) (g1 : Calls Try.prog 14 #[ptr p, .int .i64 a] w fun e w' => e = .returned (.tuple #[x.val, .nilIface]) ∧ Below w.heap.size w w') :
    Calls Try.prog 71 #[ptr p, .int .i64 a] w fun e w' => e = .returned (.tuple #[.int .i64 x.len, .nilIface]) ∧ Below w.heap.size w w' := by
  obtain ⟨xn, xl, xh, xt, ⟨xv, xs⟩⟩ := x
  simp only [Wt.val] at g1 ⊢
  generalize (xv : Int) = xv at g1
  generalize (xs : Int) = xs at g1
  unfold ptr at *
  go_enter Try.func71, Try.ntmps71
  go_wp2_with fail
  refine g1.mono ?_
  rintro _ w1 ⟨rfl, hb1⟩
  have HB1 := Lib.hid hb1
  clear hb1 g1
  go_upto_region 4 with (fail)
  have HK := Lib.hid (Blk.new w1 38 #[.int .i64 xn, .int .i64 xl, .int .i64 xh, .int .i64 xt, .int .u64 xv, .int .u64 xs])
  have HB2 := Lib.hid (HB1.out.alloc HB1.out.size (.cells #[.int .i64 xn, .int .i64 xl, .int .i64 xh, .int .i64 xt, .int .u64 xv, .int .u64 xs] 38))
  obtain ⟨w2, hw2⟩ : ∃ w2, w2 = w1.alloc (.cells #[.int .i64 xn, .int .i64 xl, .int .i64 xh, .int .i64 xt, .int .u64 xv, .int .u64 xs] 38) := ⟨_, rfl⟩
  rw [← hw2] at HK HB2 ⊢
  clear hw2 HB1
  generalize w1.heap.size = q1 at *
  have z0 := HK.out.cell 0
  simp only [List.getElem?_toArray, List.getElem?_cons_zero, List.getElem?_cons_succ] at z0
  go_wp2_with fail
  refine bodyPost_ret (v := .tuple #[.int .i64 xn, .nilIface]) (by simp [results, Try.results71, go_sem]) rfl ?_
  exact ⟨rfl, HB2.out⟩
theorem size_tx {w : World} {F : Nat → Prop} {p m : Nat} {E : List En} (h : StAt w F p m E) {id : Nat} {z : En} (hz : atE E id = some z) : ∀ W, Below w.heap.size w W → Calls Try.prog 71 #[ptr p, .int .i64 (id : Int)] W fun e w' => e = .returned (.tuple #[.int .i64 z.wt.len, .nilIface]) ∧ Below W.heap.size W w' :=
  fun W hW => size_walk p id W z.wt (weight_any (h.below hW) id z hz)
set_option maxRecDepth 100000 in
theorem check_walk (p : Nat) (a n : Int) (w : World) (g0 : ∀ W, Below w.heap.size w W → Calls Try.prog 18 #[ptr p, .int .i64 a] W fun e w' => e = .returned (.tuple #[.bool true, .nilIface]) ∧ Below W.heap.size W w') (g1 : ∀ W, Below w.heap.size w W → Calls Try.prog 71 #[ptr p, .int .i64 a] W fun e w' => e = .returned (.tuple #[.int .i64 n, .nilIface]) ∧ Below W.heap.size W w') :
    Calls Try.prog 40 #[ptr p, .int .i64 a] w fun e w' => e = .returned (.tuple #[.int .i64 n, .nilIface]) ∧ Below w.heap.size w w' := by
  unfold ptr at *
  go_enter Try.func40, Try.ntmps40
  go_wp2_with fail
  refine (g0 _ (Below.refl _ _)).mono ?_
  rintro _ w1 ⟨rfl, hb1⟩
  go_wp2_with fail
  refine (g1 _ hb1).mono ?_
  rintro _ w2 ⟨rfl, hb2⟩
  have HQ := Lib.hid (hb1.trans (hb2.mono hb1.size))
  clear hb1 hb2 g0 g1
  go_wp2_with fail
  refine bodyPost_ret (v := .tuple #[.int .i64 n, .nilIface]) (by simp [results, Try.results40, go_sem]) rfl ?_
  exact ⟨rfl, HQ.out⟩
theorem check_tx {w : World} {F : Nat → Prop} {p m : Nat} {E : List En} (h : StAt w F p m E) {id : Nat} {z : En} (hz : atE E id = some z) (he : z.even = true) : ∀ W, Below w.heap.size w W → Calls Try.prog 40 #[ptr p, .int .i64 (id : Int)] W fun e w' => e = .returned (.tuple #[.int .i64 z.wt.len, .nilIface]) ∧ Below W.heap.size W w' :=
  fun W hW => check_walk p id z.wt.len W (fun W' hW' => balanced_tx (h.below hW) hz he W' hW') (fun W' hW' => size_tx (h.below hW) hz W' hW')
end Go.Proofs.Ytphpfkhpihlalaa
