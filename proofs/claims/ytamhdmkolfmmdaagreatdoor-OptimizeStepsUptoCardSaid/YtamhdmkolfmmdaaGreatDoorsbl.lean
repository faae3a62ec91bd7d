/- The walk of optimize's rule neutral at any step (printed by gen_ozk.py). The walk of optimize's rule neutral at any step, its end (printed by gen_ozk.py). -/
import Derived.Test.YtamhdmkolfmmdaaGreatDoorsax
import Derived.BigQuiet
import Derived.StillTailTactics
import Derived.Test.YtamhdmkolfmmdaaGreatDoorsaa
set_option linter.unusedVariables false
set_option linter.unusedSimpArgs false
namespace Go.Proofs.YtamhdmkolfmmdaaGreatDoor
open Go.RowKit
set_option maxRecDepth 100000
set_option maxHeartbeats 8000000
theorem y67 {P : Prop} (h : P := by
 clear h hs hb hv ho hn hop hl hk hnum htext hty hc hR hj0 ht0 hi0 ea0 a0 hj1 ht1 hi1 ea1 a1
 go_enter Tryz.func69, Tryz.ntmps69
 go_upto_region 15 with (fail)
 first
 | guard_hyp t47q0
   obtain ⟨w1, hw1⟩ := xE (w.alloc (.cells #[.string ⟨#[119, 105, 116, 104, 105, 110]⟩, .slice (some ⟨q, 0, none⟩) k c, .int .i64 num, .string ⟨text.toArray⟩, .int .i64 ty] 77))
 | guard_hyp t47q1
   obtain ⟨w1, hw1⟩ := xE (w.alloc (.cells #[.string ⟨#[111, 114]⟩, .slice (some ⟨q, 0, none⟩) k c, .int .i64 num, .string ⟨text.toArray⟩, .int .i64 ty] 77))
 | guard_hyp t47q2
   obtain ⟨w1, hw1⟩ := xE (w.alloc (.cells #[.string ⟨#[97, 110, 100]⟩, .slice (some ⟨q, 0, none⟩) k c, .int .i64 num, .string ⟨text.toArray⟩, .int .i64 ty] 77))
 | guard_hyp t47q3
   obtain ⟨w1, hw1⟩ := xE (w.alloc (.cells #[.string ⟨#[109, 97, 120]⟩, .slice (some ⟨q, 0, none⟩) k c, .int .i64 num, .string ⟨text.toArray⟩, .int .i64 ty] 77))
 | guard_hyp t47q4
   obtain ⟨w1, hw1⟩ := xE (w.alloc (.cells #[.string ⟨#[109, 105, 110]⟩, .slice (some ⟨q, 0, none⟩) k c, .int .i64 num, .string ⟨text.toArray⟩, .int .i64 ty] 77))
 | obtain ⟨w1, hw1⟩ := xE (w.alloc (.cells #[.string ⟨#[117, 110, 105, 111, 110]⟩, .slice (some ⟨q, 0, none⟩) k c, .int .i64 num, .string ⟨text.toArray⟩, .int .i64 ty] 77))
 rw [← hw1]
 have HB1 : Hid (Below w.heap.size w w1) := hD (by rw [hw1]; exact kaa _ _)
 first
 | guard_hyp t47q0
   have HS1 : Hid (Blk w1 w.heap.size 77 #[.string ⟨#[119, 105, 116, 104, 105, 110]⟩, .slice (some ⟨q, 0, none⟩) k c, .int .i64 num, .string ⟨text.toArray⟩, .int .i64 ty]) := hD (by rw [hw1]; exact Blk.new _ _ _)
 | guard_hyp t47q1
   have HS1 : Hid (Blk w1 w.heap.size 77 #[.string ⟨#[111, 114]⟩, .slice (some ⟨q, 0, none⟩) k c, .int .i64 num, .string ⟨text.toArray⟩, .int .i64 ty]) := hD (by rw [hw1]; exact Blk.new _ _ _)
 | guard_hyp t47q2
   have HS1 : Hid (Blk w1 w.heap.size 77 #[.string ⟨#[97, 110, 100]⟩, .slice (some ⟨q, 0, none⟩) k c, .int .i64 num, .string ⟨text.toArray⟩, .int .i64 ty]) := hD (by rw [hw1]; exact Blk.new _ _ _)
 | guard_hyp t47q3
   have HS1 : Hid (Blk w1 w.heap.size 77 #[.string ⟨#[109, 97, 120]⟩, .slice (some ⟨q, 0, none⟩) k c, .int .i64 num, .string ⟨text.toArray⟩, .int .i64 ty]) := hD (by rw [hw1]; exact Blk.new _ _ _)
 | guard_hyp t47q4
   have HS1 : Hid (Blk w1 w.heap.size 77 #[.string ⟨#[109, 105, 110]⟩, .slice (some ⟨q, 0, none⟩) k c, .int .i64 num, .string ⟨text.toArray⟩, .int .i64 ty]) := hD (by rw [hw1]; exact Blk.new _ _ _)
 | have HS1 : Hid (Blk w1 w.heap.size 77 #[.string ⟨#[117, 110, 105, 111, 110]⟩, .slice (some ⟨q, 0, none⟩) k c, .int .i64 num, .string ⟨text.toArray⟩, .int .i64 ty]) := hD (by rw [hw1]; exact Blk.new _ _ _)
 clear hw1 x0 y0 y1 y2 y3 y4
 have s1 := HS1.out.cell 1
 simp only [gA, gB, gC] at s1
 have b1_0 := (HB1.out.cell (p := ⟨q, 0, none⟩) hql).trans HA0.out
 have b1_1 := (HB1.out.cell (p := ⟨q, 1, none⟩) hql).trans HA1.out
 first
 | guard_hyp t510q0
   have e1 : ((j0 : Int) == (j0 : Int)) = true := by simp
   go_wp2_with fail
   go_still_tail 16, (by kernel_rfl)
   change wpList _ _ _ _ _ w1.drew
   obtain ⟨w2, hw2⟩ := xE w1.drew
   rw [← hw2]
   have HB2 : Hid (Below w.heap.size w w2) := hD (by rw [hw2]; exact HB1.out.drew)
   clear hw2
   clear s1 b1_0 b1_1
   go_wp2_with fail
   refine (HP0.out w2 (HH.out.below HB2.out)).mono ?_
   intro e w3 h3
   cases r0 with
   | none =>
    exact z21
   | some l9 =>
    exact z14
 | go_wp2_with fail
   go_quiet (fail)
   have HRN := HR
   go_wp2_with fail
   go_ret
   unfold RepEnd
   rw [HRN.out]
   exact ⟨rfl, kaf HB1.out _⟩) : P := h
theorem y45 {P : Prop} (h : P := by
 have hil := (gH hs).1
 have hbase := h.base_le
 have x0 := h.ed.cell 0
 simp only [gA, gB] at x0
 obtain ⟨v, hv, ⟨y0, y1, y2, y3, y4⟩, ho⟩ := h.at_ hs
 obtain ⟨A, c, rfl⟩ := kak ho
 obtain ⟨R, hR⟩ := xE (Oz.neutralR l i)
 rw [← hR]
 unfold Oz.neutralR at hR
 rw [kad hs] at hR
 dsimp only at hR
 obtain ⟨n, hn⟩ := xE l.length
 have HI : Hid (i < l.length) := hD hil
 rw [← hn] at hil x0
 have HH := hD h
 have HBB := hD hb
 exact y88) : P := h
theorem y8 {P : Prop} (h : P := by
 have t488q0 := True.intro
 exact y45) : P := h
theorem y16 {P : Prop} (h : P := by
 have t488q1 := True.intro
 exact y45) : P := h
theorem kiW (base g gs cap i : Nat) (l : List St) (vs : List Value) (V : Value) (s : St) (w : World) (h : EdX w base g gs cap l vs V) (hs : l[i]? = some s) (hb : ∀ s ∈ l, s.args.length ≤ 3 ∧ ∀ a ∈ s.args, 0 ≤ a ∧ a ≤ 100000) (hop : s.op = Oz.oAdd) (hl : s.args.length = 2) (j0 j1 : Nat) (t0 t1 : St) (hj0 : s.args[0]? = some (j0 : Int)) (ht0 : l[j0]? = some t0) (hi0 : j0 < i) (hj1 : s.args[1]? = some (j1 : Int)) (ht1 : l[j1]? = some t1) (hi1 : j1 < i):
  Calls Tryz.prog 69 #[.pointer (some ⟨g, 0, none⟩), .int .i64 i] w (RepEnd base g gs cap l vs V (Oz.neutralR l i) w) := by
 have t24q1 := True.intro
 exact y8
theorem kiQ (base g gs cap i : Nat) (l : List St) (vs : List Value) (V : Value) (s : St) (w : World) (h : EdX w base g gs cap l vs V) (hs : l[i]? = some s) (hb : ∀ s ∈ l, s.args.length ≤ 3 ∧ ∀ a ∈ s.args, 0 ≤ a ∧ a ≤ 100000) (hop : s.op = Oz.oMul) (hl : s.args.length = 2) (j0 j1 : Nat) (t0 t1 : St) (hj0 : s.args[0]? = some (j0 : Int)) (ht0 : l[j0]? = some t0) (hi0 : j0 < i) (hj1 : s.args[1]? = some (j1 : Int)) (ht1 : l[j1]? = some t1) (hi1 : j1 < i):
  Calls Tryz.prog 69 #[.pointer (some ⟨g, 0, none⟩), .int .i64 i] w (RepEnd base g gs cap l vs V (Oz.neutralR l i) w) := by
 have t24q2 := True.intro
 exact y8
theorem kiT (base g gs cap i : Nat) (l : List St) (vs : List Value) (V : Value) (s : St) (w : World) (h : EdX w base g gs cap l vs V) (hs : l[i]? = some s) (hb : ∀ s ∈ l, s.args.length ≤ 3 ∧ ∀ a ∈ s.args, 0 ≤ a ∧ a ≤ 100000) (hop : s.op = Oz.oCat) (hl : s.args.length = 2) (j0 j1 : Nat) (t0 t1 : St) (hj0 : s.args[0]? = some (j0 : Int)) (ht0 : l[j0]? = some t0) (hi0 : j0 < i) (hj1 : s.args[1]? = some (j1 : Int)) (ht1 : l[j1]? = some t1) (hi1 : j1 < i):
  Calls Tryz.prog 69 #[.pointer (some ⟨g, 0, none⟩), .int .i64 i] w (RepEnd base g gs cap l vs V (Oz.neutralR l i) w) := by
 have t24q0 := True.intro
 exact y8
theorem kiN (base g gs cap i : Nat) (l : List St) (vs : List Value) (V : Value) (s : St) (w : World) (h : EdX w base g gs cap l vs V) (hs : l[i]? = some s) (hb : ∀ s ∈ l, s.args.length ≤ 3 ∧ ∀ a ∈ s.args, 0 ≤ a ∧ a ≤ 100000) (hop : s.op = Oz.oSub) (hl : s.args.length = 2) (j0 j1 : Nat) (t0 t1 : St) (hj0 : s.args[0]? = some (j0 : Int)) (ht0 : l[j0]? = some t0) (hi0 : j0 < i) (hj1 : s.args[1]? = some (j1 : Int)) (ht1 : l[j1]? = some t1) (hi1 : j1 < i):
  Calls Tryz.prog 69 #[.pointer (some ⟨g, 0, none⟩), .int .i64 i] w (RepEnd base g gs cap l vs V (Oz.neutralR l i) w) := by
 have t24q3 := True.intro
 exact y8
theorem kiO (base g gs cap i : Nat) (l : List St) (vs : List Value) (V : Value) (s : St) (w : World) (h : EdX w base g gs cap l vs V) (hs : l[i]? = some s) (hb : ∀ s ∈ l, s.args.length ≤ 3 ∧ ∀ a ∈ s.args, 0 ≤ a ∧ a ≤ 100000) (hop : s.op = Oz.oRep) (hl : s.args.length = 2) (j0 j1 : Nat) (t0 t1 : St) (hj0 : s.args[0]? = some (j0 : Int)) (ht0 : l[j0]? = some t0) (hi0 : j0 < i) (hj1 : s.args[1]? = some (j1 : Int)) (ht1 : l[j1]? = some t1) (hi1 : j1 < i):
  Calls Tryz.prog 69 #[.pointer (some ⟨g, 0, none⟩), .int .i64 i] w (RepEnd base g gs cap l vs V (Oz.neutralR l i) w) := by
 have t24q4 := True.intro
 exact y8
theorem kiR (base g gs cap i : Nat) (l : List St) (vs : List Value) (V : Value) (s : St) (w : World) (h : EdX w base g gs cap l vs V) (hs : l[i]? = some s) (hb : ∀ s ∈ l, s.args.length ≤ 3 ∧ ∀ a ∈ s.args, 0 ≤ a ∧ a ≤ 100000) (hop : s.op = Oz.oMin) (hl : s.args.length = 2) (j0 j1 : Nat) (t0 t1 : St) (hj0 : s.args[0]? = some (j0 : Int)) (ht0 : l[j0]? = some t0) (hi0 : j0 < i) (hj1 : s.args[1]? = some (j1 : Int)) (ht1 : l[j1]? = some t1) (hi1 : j1 < i):
  Calls Tryz.prog 69 #[.pointer (some ⟨g, 0, none⟩), .int .i64 i] w (RepEnd base g gs cap l vs V (Oz.neutralR l i) w) := by
 have t47q4 := True.intro
 exact y16
theorem kiS (base g gs cap i : Nat) (l : List St) (vs : List Value) (V : Value) (s : St) (w : World) (h : EdX w base g gs cap l vs V) (hs : l[i]? = some s) (hb : ∀ s ∈ l, s.args.length ≤ 3 ∧ ∀ a ∈ s.args, 0 ≤ a ∧ a ≤ 100000) (hop : s.op = Oz.oMax) (hl : s.args.length = 2) (j0 j1 : Nat) (t0 t1 : St) (hj0 : s.args[0]? = some (j0 : Int)) (ht0 : l[j0]? = some t0) (hi0 : j0 < i) (hj1 : s.args[1]? = some (j1 : Int)) (ht1 : l[j1]? = some t1) (hi1 : j1 < i):
  Calls Tryz.prog 69 #[.pointer (some ⟨g, 0, none⟩), .int .i64 i] w (RepEnd base g gs cap l vs V (Oz.neutralR l i) w) := by
 have t47q3 := True.intro
 exact y16
theorem kiV (base g gs cap i : Nat) (l : List St) (vs : List Value) (V : Value) (s : St) (w : World) (h : EdX w base g gs cap l vs V) (hs : l[i]? = some s) (hb : ∀ s ∈ l, s.args.length ≤ 3 ∧ ∀ a ∈ s.args, 0 ≤ a ∧ a ≤ 100000) (hop : s.op = Oz.oAnd) (hl : s.args.length = 2) (j0 j1 : Nat) (t0 t1 : St) (hj0 : s.args[0]? = some (j0 : Int)) (ht0 : l[j0]? = some t0) (hi0 : j0 < i) (hj1 : s.args[1]? = some (j1 : Int)) (ht1 : l[j1]? = some t1) (hi1 : j1 < i):
  Calls Tryz.prog 69 #[.pointer (some ⟨g, 0, none⟩), .int .i64 i] w (RepEnd base g gs cap l vs V (Oz.neutralR l i) w) := by
 have t47q2 := True.intro
 exact y16
theorem kks (base g gs cap i : Nat) (l : List St) (vs : List Value) (V : Value) (s : St) (w : World) (h : EdX w base g gs cap l vs V) (hs : l[i]? = some s) (hb : ∀ s ∈ l, s.args.length ≤ 3 ∧ ∀ a ∈ s.args, 0 ≤ a ∧ a ≤ 100000) (hop : s.op = Oz.oOr) (hl : s.args.length = 2) (j0 j1 : Nat) (t0 t1 : St) (hj0 : s.args[0]? = some (j0 : Int)) (ht0 : l[j0]? = some t0) (hi0 : j0 < i) (hj1 : s.args[1]? = some (j1 : Int)) (ht1 : l[j1]? = some t1) (hi1 : j1 < i):
  Calls Tryz.prog 69 #[.pointer (some ⟨g, 0, none⟩), .int .i64 i] w (RepEnd base g gs cap l vs V (Oz.neutralR l i) w) := by
 have t47q1 := True.intro
 exact y16
theorem kg3 (base g gs cap i : Nat) (l : List St) (vs : List Value) (V : Value) (s : St) (w : World) (h : EdX w base g gs cap l vs V) (hs : l[i]? = some s) (hb : ∀ s ∈ l, s.args.length ≤ 3 ∧ ∀ a ∈ s.args, 0 ≤ a ∧ a ≤ 100000) (hop : s.op = Oz.oUnion) (hl : s.args.length = 2) (j0 j1 : Nat) (t0 t1 : St) (hj0 : s.args[0]? = some (j0 : Int)) (ht0 : l[j0]? = some t0) (hi0 : j0 < i) (hj1 : s.args[1]? = some (j1 : Int)) (ht1 : l[j1]? = some t1) (hi1 : j1 < i):
  Calls Tryz.prog 69 #[.pointer (some ⟨g, 0, none⟩), .int .i64 i] w (RepEnd base g gs cap l vs V (Oz.neutralR l i) w) := by
 exact y16
theorem kgi (base g gs cap i : Nat) (l : List St) (vs : List Value) (V : Value) (s : St) (w : World) (h : EdX w base g gs cap l vs V) (hs : l[i]? = some s) (hb : ∀ s ∈ l, s.args.length ≤ 3 ∧ ∀ a ∈ s.args, 0 ≤ a ∧ a ≤ 100000) (hop : s.op = Oz.oWithin) (hl : s.args.length = 2) (j0 j1 : Nat) (t0 t1 : St) (hj0 : s.args[0]? = some (j0 : Int)) (ht0 : l[j0]? = some t0) (hi0 : j0 < i) (hj1 : s.args[1]? = some (j1 : Int)) (ht1 : l[j1]? = some t1) (hi1 : j1 < i):
  Calls Tryz.prog 69 #[.pointer (some ⟨g, 0, none⟩), .int .i64 i] w (RepEnd base g gs cap l vs V (Oz.neutralR l i) w) := by
 have t47q0 := True.intro
 exact y16
theorem y7 {P : Prop} (h : P := by
 have t488q2 := True.intro
 exact y45) : P := h
theorem y15 {P : Prop} (h : P := by
 exact y45) : P := h
theorem kg6 (base g gs cap i : Nat) (l : List St) (vs : List Value) (V : Value) (s : St) (w : World) (h : EdX w base g gs cap l vs V) (hs : l[i]? = some s) (hb : ∀ s ∈ l, s.args.length ≤ 3 ∧ ∀ a ∈ s.args, 0 ≤ a ∧ a ≤ 100000) (hop : s.op = Oz.oCut) (hl : s.args.length = 3) (j0 j1 j2 : Nat) (t0 t1 t2 : St) (hj0 : s.args[0]? = some (j0 : Int)) (ht0 : l[j0]? = some t0) (hi0 : j0 < i) (hj1 : s.args[1]? = some (j1 : Int)) (ht1 : l[j1]? = some t1) (hi1 : j1 < i) (hj2 : s.args[2]? = some (j2 : Int)) (ht2 : l[j2]? = some t2) (hi2 : j2 < i)(m : Nat) (hm : t2.args[0]? = some (m : Int)) (hop2 : t2.op = Oz.oLen) (hmm : m = j0) :
  Calls Tryz.prog 69 #[.pointer (some ⟨g, 0, none⟩), .int .i64 i] w (RepEnd base g gs cap l vs V (Oz.neutralR l i) w) := by
 have t23q0 := True.intro
 exact y7
theorem kg8 (base g gs cap i : Nat) (l : List St) (vs : List Value) (V : Value) (s : St) (w : World) (h : EdX w base g gs cap l vs V) (hs : l[i]? = some s) (hb : ∀ s ∈ l, s.args.length ≤ 3 ∧ ∀ a ∈ s.args, 0 ≤ a ∧ a ≤ 100000) (hop : s.op = Oz.oCut) (hl : s.args.length = 3) (j0 j1 j2 : Nat) (t0 t1 t2 : St) (hj0 : s.args[0]? = some (j0 : Int)) (ht0 : l[j0]? = some t0) (hi0 : j0 < i) (hj1 : s.args[1]? = some (j1 : Int)) (ht1 : l[j1]? = some t1) (hi1 : j1 < i) (hj2 : s.args[2]? = some (j2 : Int)) (ht2 : l[j2]? = some t2) (hi2 : j2 < i)(m : Nat) (hm : t2.args[0]? = some (m : Int)) (hop2 : t2.op = Oz.oLen) (hmm : m ≠ j0) :
  Calls Tryz.prog 69 #[.pointer (some ⟨g, 0, none⟩), .int .i64 i] w (RepEnd base g gs cap l vs V (Oz.neutralR l i) w) := by
 have t23q1 := True.intro
 exact y7
theorem kg7 (base g gs cap i : Nat) (l : List St) (vs : List Value) (V : Value) (s : St) (w : World) (h : EdX w base g gs cap l vs V) (hs : l[i]? = some s) (hb : ∀ s ∈ l, s.args.length ≤ 3 ∧ ∀ a ∈ s.args, 0 ≤ a ∧ a ≤ 100000) (hop : s.op = Oz.oCut) (hl : s.args.length = 3) (j0 j1 j2 : Nat) (t0 t1 t2 : St) (hj0 : s.args[0]? = some (j0 : Int)) (ht0 : l[j0]? = some t0) (hi0 : j0 < i) (hj1 : s.args[1]? = some (j1 : Int)) (ht1 : l[j1]? = some t1) (hi1 : j1 < i) (hj2 : s.args[2]? = some (j2 : Int)) (ht2 : l[j2]? = some t2) (hi2 : j2 < i)(hop2 : t2.op ≠ Oz.oLen) :
  Calls Tryz.prog 69 #[.pointer (some ⟨g, 0, none⟩), .int .i64 i] w (RepEnd base g gs cap l vs V (Oz.neutralR l i) w) := by
 have t23q2 := True.intro
 exact y7
theorem kg4 (base g gs cap i : Nat) (l : List St) (vs : List Value) (V : Value) (s : St) (w : World) (h : EdX w base g gs cap l vs V) (hs : l[i]? = some s) (hb : ∀ s ∈ l, s.args.length ≤ 3 ∧ ∀ a ∈ s.args, 0 ≤ a ∧ a ≤ 100000) (hop : s.op = Oz.oNot) (hl : s.args.length = 1) (j0 : Nat) (t0 : St) (hj0 : s.args[0]? = some (j0 : Int)) (ht0 : l[j0]? = some t0) (hi0 : j0 < i)(m : Nat) (hm : t0.args[0]? = some (m : Int)) (hop2 : t0.op = Oz.oNot) (hmi : m < i) :
  Calls Tryz.prog 69 #[.pointer (some ⟨g, 0, none⟩), .int .i64 i] w (RepEnd base g gs cap l vs V (Oz.neutralR l i) w) := by
 have t39q0 := True.intro
 exact y15
theorem kg5 (base g gs cap i : Nat) (l : List St) (vs : List Value) (V : Value) (s : St) (w : World) (h : EdX w base g gs cap l vs V) (hs : l[i]? = some s) (hb : ∀ s ∈ l, s.args.length ≤ 3 ∧ ∀ a ∈ s.args, 0 ≤ a ∧ a ≤ 100000) (hop : s.op = Oz.oNot) (hl : s.args.length = 1) (j0 : Nat) (t0 : St) (hj0 : s.args[0]? = some (j0 : Int)) (ht0 : l[j0]? = some t0) (hi0 : j0 < i)(hop2 : t0.op ≠ Oz.oNot) :
  Calls Tryz.prog 69 #[.pointer (some ⟨g, 0, none⟩), .int .i64 i] w (RepEnd base g gs cap l vs V (Oz.neutralR l i) w) := by
 exact y15
theorem kkt (base g gs cap i : Nat) (l : List St) (vs : List Value) (V : Value) (s : St) (w : World) (h : EdX w base g gs cap l vs V) (hs : l[i]? = some s) (h0 : s.op ≠ Oz.oAdd) (h1 : s.op ≠ Oz.oSub) (h2 : s.op ≠ Oz.oMul) (h3 : s.op ≠ Oz.oMin) (h4 : s.op ≠ Oz.oMax) (h5 : s.op ≠ Oz.oAnd) (h6 : s.op ≠ Oz.oOr) (h7 : s.op ≠ Oz.oUnion) (h8 : s.op ≠ Oz.oWithin) (h9 : s.op ≠ Oz.oCat) (h10 : s.op ≠ Oz.oRep) (h11 : s.op ≠ Oz.oCut) (h12 : s.op ≠ Oz.oNot) :
  Calls Tryz.prog 69 #[.pointer (some ⟨g, 0, none⟩), .int .i64 i] w (RepEnd base g gs cap l vs V (Oz.neutralR l i) w) := by
 have t121q0 := True.intro
 exact y26
theorem kiU (base g gs cap i : Nat) (l : List St) (vs : List Value) (V : Value) (s : St) (w : World) (h : EdX w base g gs cap l vs V) (hs : l[i]? = some s) (hc : kac l = 0) :
  Calls Tryz.prog 69 #[.pointer (some ⟨g, 0, none⟩), .int .i64 i] w (RepEnd base g gs cap l vs V (Oz.neutralR l i) w) := by
 have hb := kcc hc
 by_cases h0 : s.op = Oz.oAdd
 ·
  have hal := kae hc hs 2 (by rw [h0]; kernel_rfl)
  obtain ⟨j0, t0, hj0, hi0, ht0, _, _⟩ := kah hc hs (k := 0) (by omega)
  obtain ⟨j1, t1, hj1, hi1, ht1, _, _⟩ := kah hc hs (k := 1) (by omega)
  exact kiW base g gs cap i l vs V s w h hs hb h0 hal j0 j1 t0 t1 hj0 ht0 hi0 hj1 ht1 hi1
 by_cases h1 : s.op = Oz.oSub
 ·
  have hal := kae hc hs 2 (by rw [h1]; kernel_rfl)
  obtain ⟨j0, t0, hj0, hi0, ht0, _, _⟩ := kah hc hs (k := 0) (by omega)
  obtain ⟨j1, t1, hj1, hi1, ht1, _, _⟩ := kah hc hs (k := 1) (by omega)
  exact kiN base g gs cap i l vs V s w h hs hb h1 hal j0 j1 t0 t1 hj0 ht0 hi0 hj1 ht1 hi1
 by_cases h2 : s.op = Oz.oMul
 ·
  have hal := kae hc hs 2 (by rw [h2]; kernel_rfl)
  obtain ⟨j0, t0, hj0, hi0, ht0, _, _⟩ := kah hc hs (k := 0) (by omega)
  obtain ⟨j1, t1, hj1, hi1, ht1, _, _⟩ := kah hc hs (k := 1) (by omega)
  exact kiQ base g gs cap i l vs V s w h hs hb h2 hal j0 j1 t0 t1 hj0 ht0 hi0 hj1 ht1 hi1
 by_cases h3 : s.op = Oz.oMin
 ·
  have hal := kae hc hs 2 (by rw [h3]; kernel_rfl)
  obtain ⟨j0, t0, hj0, hi0, ht0, _, _⟩ := kah hc hs (k := 0) (by omega)
  obtain ⟨j1, t1, hj1, hi1, ht1, _, _⟩ := kah hc hs (k := 1) (by omega)
  exact kiR base g gs cap i l vs V s w h hs hb h3 hal j0 j1 t0 t1 hj0 ht0 hi0 hj1 ht1 hi1
 by_cases h4 : s.op = Oz.oMax
 ·
  have hal := kae hc hs 2 (by rw [h4]; kernel_rfl)
  obtain ⟨j0, t0, hj0, hi0, ht0, _, _⟩ := kah hc hs (k := 0) (by omega)
  obtain ⟨j1, t1, hj1, hi1, ht1, _, _⟩ := kah hc hs (k := 1) (by omega)
  exact kiS base g gs cap i l vs V s w h hs hb h4 hal j0 j1 t0 t1 hj0 ht0 hi0 hj1 ht1 hi1
 by_cases h5 : s.op = Oz.oAnd
 ·
  have hal := kae hc hs 2 (by rw [h5]; kernel_rfl)
  obtain ⟨j0, t0, hj0, hi0, ht0, _, _⟩ := kah hc hs (k := 0) (by omega)
  obtain ⟨j1, t1, hj1, hi1, ht1, _, _⟩ := kah hc hs (k := 1) (by omega)
  exact kiV base g gs cap i l vs V s w h hs hb h5 hal j0 j1 t0 t1 hj0 ht0 hi0 hj1 ht1 hi1
 by_cases h6 : s.op = Oz.oOr
 ·
  have hal := kae hc hs 2 (by rw [h6]; kernel_rfl)
  obtain ⟨j0, t0, hj0, hi0, ht0, _, _⟩ := kah hc hs (k := 0) (by omega)
  obtain ⟨j1, t1, hj1, hi1, ht1, _, _⟩ := kah hc hs (k := 1) (by omega)
  exact kks base g gs cap i l vs V s w h hs hb h6 hal j0 j1 t0 t1 hj0 ht0 hi0 hj1 ht1 hi1
 by_cases h7 : s.op = Oz.oUnion
 ·
  have hal := kae hc hs 2 (by rw [h7]; kernel_rfl)
  obtain ⟨j0, t0, hj0, hi0, ht0, _, _⟩ := kah hc hs (k := 0) (by omega)
  obtain ⟨j1, t1, hj1, hi1, ht1, _, _⟩ := kah hc hs (k := 1) (by omega)
  exact kg3 base g gs cap i l vs V s w h hs hb h7 hal j0 j1 t0 t1 hj0 ht0 hi0 hj1 ht1 hi1
 by_cases h8 : s.op = Oz.oWithin
 ·
  have hal := kae hc hs 2 (by rw [h8]; kernel_rfl)
  obtain ⟨j0, t0, hj0, hi0, ht0, _, _⟩ := kah hc hs (k := 0) (by omega)
  obtain ⟨j1, t1, hj1, hi1, ht1, _, _⟩ := kah hc hs (k := 1) (by omega)
  exact kgi base g gs cap i l vs V s w h hs hb h8 hal j0 j1 t0 t1 hj0 ht0 hi0 hj1 ht1 hi1
 by_cases h9 : s.op = Oz.oCat
 ·
  have hal := kae hc hs 2 (by rw [h9]; kernel_rfl)
  obtain ⟨j0, t0, hj0, hi0, ht0, _, _⟩ := kah hc hs (k := 0) (by omega)
  obtain ⟨j1, t1, hj1, hi1, ht1, _, _⟩ := kah hc hs (k := 1) (by omega)
  exact kiT base g gs cap i l vs V s w h hs hb h9 hal j0 j1 t0 t1 hj0 ht0 hi0 hj1 ht1 hi1
 by_cases h10 : s.op = Oz.oRep
 ·
  have hal := kae hc hs 2 (by rw [h10]; kernel_rfl)
  obtain ⟨j0, t0, hj0, hi0, ht0, _, _⟩ := kah hc hs (k := 0) (by omega)
  obtain ⟨j1, t1, hj1, hi1, ht1, _, _⟩ := kah hc hs (k := 1) (by omega)
  exact kiO base g gs cap i l vs V s w h hs hb h10 hal j0 j1 t0 t1 hj0 ht0 hi0 hj1 ht1 hi1
 by_cases h11 : s.op = Oz.oCut
 ·
  have hal := kae hc hs 3 (by rw [h11]; kernel_rfl)
  obtain ⟨j0, t0, hj0, hi0, ht0, _, _⟩ := kah hc hs (k := 0) (by omega)
  obtain ⟨j1, t1, hj1, hi1, ht1, _, _⟩ := kah hc hs (k := 1) (by omega)
  obtain ⟨j2, t2, hj2, hi2, ht2, _, _⟩ := kah hc hs (k := 2) (by omega)
  by_cases hop2 : t2.op = Oz.oLen
  ·
   have hal2 := kae hc ht2 1 (by rw [hop2]; kernel_rfl)
   obtain ⟨m, _, hm, _⟩ := kah hc ht2 (k := 0) (by omega)
   by_cases hmm : m = j0
   ·
    exact kg6 base g gs cap i l vs V s w h hs hb h11 hal j0 j1 j2 t0 t1 t2 hj0 ht0 hi0 hj1 ht1 hi1 hj2 ht2 hi2 m hm hop2 hmm
   ·
    exact kg8 base g gs cap i l vs V s w h hs hb h11 hal j0 j1 j2 t0 t1 t2 hj0 ht0 hi0 hj1 ht1 hi1 hj2 ht2 hi2 m hm hop2 hmm
  ·
   exact kg7 base g gs cap i l vs V s w h hs hb h11 hal j0 j1 j2 t0 t1 t2 hj0 ht0 hi0 hj1 ht1 hi1 hj2 ht2 hi2 hop2
 by_cases h12 : s.op = Oz.oNot
 ·
  have hal := kae hc hs 1 (by rw [h12]; kernel_rfl)
  obtain ⟨j0, t0, hj0, hi0, ht0, _, _⟩ := kah hc hs (k := 0) (by omega)
  by_cases hop2 : t0.op = Oz.oNot
  ·
   have hal2 := kae hc ht0 1 (by rw [hop2]; kernel_rfl)
   obtain ⟨m, _, hm, hmj, _⟩ := kah hc ht0 (k := 0) (by omega)
   exact kg4 base g gs cap i l vs V s w h hs hb h12 hal j0 t0 hj0 ht0 hi0 m hm hop2 (by omega)
  ·
   exact kg5 base g gs cap i l vs V s w h hs hb h12 hal j0 t0 hj0 ht0 hi0 hop2
 exact kkt base g gs cap i l vs V s w h hs h0 h1 h2 h3 h4 h5 h6 h7 h8 h9 h10 h11 h12
end Go.Proofs.YtamhdmkolfmmdaaGreatDoor
