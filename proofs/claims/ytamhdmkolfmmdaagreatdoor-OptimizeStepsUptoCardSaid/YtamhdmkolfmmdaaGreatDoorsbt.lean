/- The walk of the document's Apply at operations on two numbers (printed by gen_rvd.py). What the walks of the document's rule fold share (printed by gen_rve.py). The walk of the document's rule fold at operations on two numbers (printed by gen_rve.py). The opener of the steps that come in, and the bound on what they hold together. The opener of steps: how many fit. -/
import Derived.Test.YtamhdmkolfmmdaaGreatDoorsbs
import Derived.Test.YtamhdmkolfmmdaaGreatDoorsaa
import Derived.Test.YtamhdmkolfmmdaaGreatDoorsbh
import Derived.Test.YtamhdmkolfmmdaaGreatDoorsbi
import Derived.Test.YtamhdmkolfmmdaaGreatDoorsan
import Derived.Deep.DeepCutAuto
import Derived.Test.YtamhdmkolfmmdaaGreatDoorRows
import Derived.Test.YtamhdmkolfmmdaaGreatDoorsas
import Derived.Deep.Slices
import Derived.Deep.Fields
import Derived.Deep.Matrix
import Derived.ChangeSame
import Derived.Lib.SmallJoins
import Derived.JoinedCond
set_option linter.unusedVariables false
set_option linter.unusedSimpArgs false
namespace Go.Proofs.YtamhdmkolfmmdaaGreatDoor
open Go.RowKit
set_option maxRecDepth 100000
set_option maxHeartbeats 8000000
theorem kmh (g : Nat) (r : Option Int) (w : World) (hp : ∀ w', Below w.heap.size w w' → Calls Tryz.prog 83 #[.string ⟨#[109, 105, 110]⟩, .slice (some ⟨g, 0, none⟩) 2 2] w' (kaY w' r)) :
  Calls Tryz.prog 45 #[.string ⟨#[109, 105, 110]⟩, .int .i64 0, .string ⟨#[]⟩, .slice (some ⟨g, 0, none⟩) 2 2, .slice none 0 0] w (kaY w r) := by
 exact y29
theorem kmi (g : Nat) (r : Option Int) (w : World) (hp : ∀ w', Below w.heap.size w w' → Calls Tryz.prog 83 #[.string ⟨#[109, 97, 120]⟩, .slice (some ⟨g, 0, none⟩) 2 2] w' (kaY w' r)) :
  Calls Tryz.prog 45 #[.string ⟨#[109, 97, 120]⟩, .int .i64 0, .string ⟨#[]⟩, .slice (some ⟨g, 0, none⟩) 2 2, .slice none 0 0] w (kaY w r) := by
 exact y29
theorem kgP (g : Nat) (r : Option Int) (w : World) (hp : ∀ w', Below w.heap.size w w' → Calls Tryz.prog 83 #[.string ⟨#[43]⟩, .slice (some ⟨g, 0, none⟩) 2 2] w' (kaY w' r)) :
  Calls Tryz.prog 45 #[.string ⟨#[43]⟩, .int .i64 0, .string ⟨#[]⟩, .slice (some ⟨g, 0, none⟩) 2 2, .slice none 0 0] w (kaY w r) := by
 exact y29
theorem kmf (g : Nat) (r : Option Int) (w : World) (hp : ∀ w', Below w.heap.size w w' → Calls Tryz.prog 83 #[.string ⟨#[45]⟩, .slice (some ⟨g, 0, none⟩) 2 2] w' (kaY w' r)) :
  Calls Tryz.prog 45 #[.string ⟨#[45]⟩, .int .i64 0, .string ⟨#[]⟩, .slice (some ⟨g, 0, none⟩) 2 2, .slice none 0 0] w (kaY w r) := by
 exact y29
theorem kmg (g : Nat) (r : Option Int) (w : World) (hp : ∀ w', Below w.heap.size w w' → Calls Tryz.prog 83 #[.string ⟨#[42]⟩, .slice (some ⟨g, 0, none⟩) 2 2] w' (kaY w' r)) :
  Calls Tryz.prog 45 #[.string ⟨#[42]⟩, .int .i64 0, .string ⟨#[]⟩, .slice (some ⟨g, 0, none⟩) 2 2, .slice none 0 0] w (kaY w r) := by
 exact y29
theorem kjl (op : List UInt8) (hop : op = Oz.oMin ∨ op = Oz.oMax ∨ op = Oz.oAdd ∨ op = Oz.oSub ∨ op = Oz.oMul) (g : Nat) (a b : Int) (ha : 0 ≤ a) (ha' : a ≤ 1152921504606846976) (hb : 0 ≤ b) (hb' : b ≤ 1152921504606846976) (w : World) (hg : g < w.heap.size) (h0 : w.cell? ⟨g, 1, none⟩ = some (.int .i64 a)) (h1 : w.cell? ⟨g, 6, none⟩ = some (.int .i64 b)) :
  Calls Tryz.prog 45 #[.string ⟨op.toArray⟩, .int .i64 0, .string ⟨#[]⟩, .slice (some ⟨g, 0, none⟩) 2 2, .slice none 0 0] w (kaY w (Rf.arithL op a b)) := by
 have hc : ∀ w', Below w.heap.size w w' → g < w'.heap.size ∧ w'.cell? ⟨g, 1, none⟩ = some (.int .i64 a) ∧ w'.cell? ⟨g, 6, none⟩ = some (.int .i64 b) := fun w' hb => ⟨Nat.lt_of_lt_of_le hg hb.size, (hb.cell (p := ⟨g, 1, none⟩) hg).trans h0, (hb.cell (p := ⟨g, 6, none⟩) hg).trans h1⟩
 rcases hop with rfl | rfl | rfl | rfl | rfl
 ·
  have hr : Rf.arithL Oz.oMin a b = some (min a b) := by
   unfold Rf.arithL
   rw [if_pos rfl]
   exact kcI (by omega) (by omega)
  rw [hr]
  exact kmh g _ w (fun w' hb2 => by obtain ⟨c1, c2, c3⟩ := hc w' hb2; exact call_min g a b ha ha' hb hb' w' c1 c2 c3)
 ·
  have hr : Rf.arithL Oz.oMax a b = some (max a b) := by
   unfold Rf.arithL
   rw [if_neg (by decide), if_pos rfl]
   exact kcI (by omega) (by omega)
  rw [hr]
  exact kmi g _ w (fun w' hb2 => by obtain ⟨c1, c2, c3⟩ := hc w' hb2; exact call_max g a b ha ha' hb hb' w' c1 c2 c3)
 ·
  have hr : Rf.arithL Oz.oAdd a b = Rf.numL (a + b) := by
   unfold Rf.arithL
   rw [if_neg (by decide), if_neg (by decide), if_pos rfl]
  rw [hr]
  by_cases h : 1152921504606846976 < a + b
  ·
   rw [numL_out h]
   exact kgP g _ w (fun w' hb2 => by obtain ⟨c1, c2, c3⟩ := hc w' hb2; exact kma g a b ha ha' hb hb' h w' c1 c2 c3)
  ·
   rw [kcI (by omega) h]
   exact kgP g _ w (fun w' hb2 => by obtain ⟨c1, c2, c3⟩ := hc w' hb2; exact call_add g a b ha ha' hb hb' (by omega) w' c1 c2 c3)
 ·
  have hr : Rf.arithL Oz.oSub a b = some (a - b) := by
   unfold Rf.arithL
   rw [if_neg (by decide), if_neg (by decide), if_neg (by decide), if_pos rfl]
   exact kcI (by omega) (by omega)
  rw [hr]
  exact kmf g _ w (fun w' hb2 => by obtain ⟨c1, c2, c3⟩ := hc w' hb2; exact call_sub g a b ha ha' hb hb' w' c1 c2 c3)
 ·
  have hr : Rf.arithL Oz.oMul a b = Rf.prodL a b := by
   unfold Rf.arithL
   rw [if_neg (by decide), if_neg (by decide), if_neg (by decide), if_neg (by decide)]
  rw [hr]
  have key : ∃ r, Rf.prodL a b = r ∧ ∀ w', Calls Tryz.prog 130 #[.int .i64 a, .int .i64 b] w' (kaY w' r) := by
   by_cases ha0 : a = 0
   ·
    refine ⟨some 0, by rw [ha0, kkn]; exact kcI (by decide) (by decide), fun w' => ?_⟩
    rw [ha0]
    exact khJ b w'
   by_cases hb0 : b = 0
   ·
    refine ⟨some 0, by rw [hb0, kiK]; exact kcI (by decide) (by decide), fun w' => ?_⟩
    rw [hb0]
    exact khI a ha0 w'
   have hap : 0 < a := by omega
   have hbp : 0 < b := by omega
   have hle := Int.le_ediv_iff_mul_le (a := b) (b := 1152921504606846976) hap
   by_cases h : a * b ≤ 1152921504606846976
   ·
    refine ⟨some (a * b), ?_, fun w' => khK a b hap ha' hbp hb' h w'⟩
    unfold Rf.prodL Oz.maxLn
    have hm : 0 ≤ a * b := Int.mul_nonneg ha hb
    rw [if_neg (fun e => by
     have h3 := e.2.2
     have h4 : max a (-a) = a := by omega
     have h5 : max b (-b) = b := by omega
     rw [h4, h5] at h3
     have h6 := hle.2 (by rw [Int.mul_comm]; exact h)
     omega)]
    exact kcI (by omega) (by omega)
   ·
    refine ⟨none, ?_, fun w' => khL a b hap ha' hbp hb' h w'⟩
    unfold Rf.prodL Oz.maxLn
    rw [if_pos ⟨ha0, hb0, by
     have h4 : max a (-a) = a := by omega
     have h5 : max b (-b) = b := by omega
     rw [h4, h5]
     rcases Int.lt_or_le ((1152921504606846976 : Int) / a) b with h6 | h6
     ·
      exact h6
     ·
      exact absurd (by have := hle.1 h6; rw [Int.mul_comm] at this; exact this) h⟩]
  obtain ⟨r, hpr, hpc⟩ := key
  rw [hpr]
  exact kmg g _ w (fun w' hb2 => by obtain ⟨c1, c2, c3⟩ := hc w' hb2; exact call_mul g a b r hpc w' c1 c2 c3)
theorem kcH (n : Int) (w : World) : Calls Tryz.prog 145 #[.int .i64 n] w fun e w' => Below w.heap.size w w' ∧ e = .returned (.agg #[.string ⟨#[110, 117, 109, 98, 101, 114]⟩, .slice none 0 0, .int .i64 n, .string ⟨#[]⟩, .int .i64 1]) := by
 have HB := hD (fun o : Obj => kaa w o)
 go_enter Tryz.func145, Tryz.ntmps145
 go_wp2_with fail
 refine bodyPost_ret (v := .agg #[.string ⟨#[110, 117, 109, 98, 101, 114]⟩, .slice none 0 0, .int .i64 n, .string ⟨#[]⟩, .int .i64 1]) (by simp [results, Tryz.results145, go_sem]) rfl ?_
 exact ⟨HB.out _, rfl⟩
def kdA (w : World) (t : TypeId) (ca cb sc : Array Value) (u v : Value) (wc : World) : Prop := ∃ x y, u = .pointer (some ⟨x, 0, none⟩) ∧ v = .pointer (some ⟨y, 0, none⟩) ∧ Hid (Blk wc x t ca) ∧ Hid (Blk wc y t cb) ∧ Hid (Blk wc w.heap.size 76 sc) ∧ Hid (Below w.heap.size w wc)
theorem two_a {w w1 : World} {t : TypeId} {ca cb sc : Array Value} (hb : Below w.heap.size w w1) (hs : Blk w1 w.heap.size 76 sc) : kdA w t ca cb sc (.pointer (some ⟨w1.heap.size, 0, none⟩)) (.pointer (some ⟨w1.heap.size + 1, 0, none⟩)) ((w1.alloc (.cells ca t)).alloc (.cells cb t)).drew := by
 have h2 := Blk.new (w1.alloc (.cells ca t)) t cb
 rw [show (w1.alloc (.cells ca t)).heap.size = w1.heap.size + 1 by simp] at h2
 have hb2 := (hb.alloc hb.size (.cells ca t)).alloc (by have := hb.size; simp; omega) (.cells cb t)
 exact ⟨_, _, rfl, rfl, hD (show Blk _ _ _ _ from (Blk.new w1 t ca).alloc (.cells cb t)), hD (show Blk _ _ _ _ from h2), hD (show Blk _ _ _ _ from (hs.alloc (.cells ca t)).alloc (.cells cb t)), hD hb2.drew⟩
theorem two_b {w w1 : World} {t : TypeId} {ca cb sc : Array Value} (hb : Below w.heap.size w w1) (hs : Blk w1 w.heap.size 76 sc) : kdA w t ca cb sc (.pointer (some ⟨w1.heap.size + 1, 0, none⟩)) (.pointer (some ⟨w1.heap.size, 0, none⟩)) ((w1.alloc (.cells cb t)).alloc (.cells ca t)).drew := by
 obtain ⟨x, y, h1, h2, h3, h4, h5, h6⟩ := two_a (t := t) (ca := cb) (cb := ca) hb hs
 exact ⟨_, _, rfl, rfl, by injection h2 with h2; injection h2 with h2; injection h2 with h2; subst h2; exact h4, by injection h1 with h1; injection h1 with h1; injection h1 with h1; subst h1; exact h3, h5, h6⟩
theorem y43 {P : Prop} (h : P := by
 refine wp_region_noPanic ?_
 refine wp_region_held_drew (S := (fun w' => w'.cell? ⟨w.heap.size, 1, none⟩ = some (.slice (some ⟨ba, oa, none⟩) 2 cs) ∧ w'.cell? ⟨ba, oa, none⟩ = some (.int .i64 j0) ∧ w'.cell? ⟨ba, oa + 1, none⟩ = some (.int .i64 j1) ∧ w'.cell? ⟨b, o + j0 * 5, none⟩ = some (.string ⟨o0.toArray⟩) ∧ w'.cell? ⟨b, o + j0 * 5 + 1, none⟩ = some (.slice A0 m0 c0) ∧ w'.cell? ⟨b, o + j0 * 5 + 2, none⟩ = some (.int .i64 n0) ∧ w'.cell? ⟨b, o + j0 * 5 + 3, none⟩ = some (.string ⟨x0.toArray⟩) ∧ w'.cell? ⟨b, o + j0 * 5 + 4, none⟩ = some (.int .i64 y0) ∧ w'.cell? ⟨b, o + j1 * 5, none⟩ = some (.string ⟨o1.toArray⟩) ∧ w'.cell? ⟨b, o + j1 * 5 + 1, none⟩ = some (.slice A1 m1 c1) ∧ w'.cell? ⟨b, o + j1 * 5 + 2, none⟩ = some (.int .i64 n1) ∧ w'.cell? ⟨b, o + j1 * 5 + 3, none⟩ = some (.string ⟨x1.toArray⟩) ∧ w'.cell? ⟨b, o + j1 * 5 + 4, none⟩ = some (.int .i64 y1))) (by kernel_rfl) (HSS _ HBD.out HSD.out) (fun hHeld => ?_)
 exact y76) : P := h
theorem kdr (b o c : Nat) (l : List St) (i : Nat) (s : St) (w : World) (h : ArgPl w (some ⟨b, o, none⟩) l) (hc : kac l = 0) (hs : l[i]? = some s) (hop : s.op = [109, 105, 110] ∨ s.op = [109, 97, 120] ∨ s.op = [43] ∨ s.op = [45] ∨ s.op = [42]) :
  Calls Tryz.prog 100 #[.slice (some ⟨b, o, none⟩) l.length c, .int .i64 i] w (kal w (Rf.foldL l i)) := by
 have hil := (gH hs).1
 have hbn := kc6 hc
 have hlen := hbn.1
 have hl : s.args.length = 2 := kae hc hs 2 (by rcases hop with e | e | e | e | e <;> rw [e] <;> (show (_ : Option Nat) = _; kernel_rfl))
 obtain ⟨R, hR⟩ := xE (Rf.foldL l i)
 rw [← hR]
 unfold Rf.foldL at hR
 rw [kad hs] at hR
 dsimp only at hR
 obtain ⟨As, cs, hv⟩ := h.vw hs
 have d0 := hv.x0
 have d1 := hv.x1
 have d2 := hv.x2
 have d3 := hv.x3
 have d4 := hv.x4
 rw [hl] at d1
 obtain ⟨num, hnum⟩ := xE s.num
 obtain ⟨text, htext⟩ := xE s.text
 obtain ⟨ty, hty⟩ := xE s.ty
 obtain ⟨n, hn⟩ := xE l.length
 rw [← hnum] at d2
 rw [← htext] at d3
 rw [← hty] at d4
 have q0 : (i : Int) < (n : Int) := by omega
 have q1 : (0 : Int) ≤ (i : Int) := by omega
 obtain ⟨ba, oa, rfl, hba, hca⟩ := hv.ar (by omega)
 obtain ⟨j0, t0, hj0, hji0, ht0, ha0, hat0⟩ := kah hc hs (k := 0) (by omega)
 obtain ⟨A0, c0, hv0⟩ := h.vw ht0
 have q2 : (j0 : Int) < (n : Int) := by omega
 have q3 : (0 : Int) ≤ (j0 : Int) := by omega
 obtain ⟨o0, ho0⟩ := xE t0.op
 obtain ⟨n0, hn0⟩ := xE t0.num
 obtain ⟨x0, hx0⟩ := xE t0.text
 obtain ⟨y0, hy0⟩ := xE t0.ty
 obtain ⟨m0, hm0⟩ := xE t0.args.length
 obtain ⟨j1, t1, hj1, hji1, ht1, ha1, hat1⟩ := kah hc hs (k := 1) (by omega)
 obtain ⟨A1, c1, hv1⟩ := h.vw ht1
 have q4 : (j1 : Int) < (n : Int) := by omega
 have q5 : (0 : Int) ≤ (j1 : Int) := by omega
 obtain ⟨o1, ho1⟩ := xE t1.op
 obtain ⟨n1, hn1⟩ := xE t1.num
 obtain ⟨x1, hx1⟩ := xE t1.text
 obtain ⟨y1, hy1⟩ := xE t1.ty
 obtain ⟨m1, hm1⟩ := xE t1.args.length
 rw [ha0, ha1, hat0, hat1] at hR
 rw [if_pos (show s.op = Oz.oMin ∨ s.op = Oz.oMax ∨ s.op = Oz.oAdd ∨ s.op = Oz.oSub ∨ s.op = Oz.oMul from hop)] at hR
 obtain ⟨op, hopv⟩ := xE s.op
 rw [← hopv] at d0 hR hop
 obtain ⟨_, f0⟩ := (check_fit.1 hc).2.2 j0 t0 ht0
 obtain ⟨_, f1⟩ := (check_fit.1 hc).2.2 j1 t1 ht1
 have hp0 : 0 ≤ t0.num := f0.num
 have hp1 : 0 ≤ t1.num := f1.num
 rw [← ho0, ← ho1, ← hn0, ← hn1] at hR
 rw [← hn0] at hp0
 rw [← hn1] at hp1
 have HS : Hid (∀ w', Below w.heap.size w w' → w'.cell? ⟨ba, oa, none⟩ = some (.int .i64 j0) ∧ w'.cell? ⟨ba, oa + 1, none⟩ = some (.int .i64 j1) ∧ w'.cell? ⟨b, o + j0 * 5, none⟩ = some (.string ⟨o0.toArray⟩) ∧ w'.cell? ⟨b, o + j0 * 5 + 1, none⟩ = some (.slice A0 m0 c0) ∧ w'.cell? ⟨b, o + j0 * 5 + 2, none⟩ = some (.int .i64 n0) ∧ w'.cell? ⟨b, o + j0 * 5 + 3, none⟩ = some (.string ⟨x0.toArray⟩) ∧ w'.cell? ⟨b, o + j0 * 5 + 4, none⟩ = some (.int .i64 y0) ∧ w'.cell? ⟨b, o + j1 * 5, none⟩ = some (.string ⟨o1.toArray⟩) ∧ w'.cell? ⟨b, o + j1 * 5 + 1, none⟩ = some (.slice A1 m1 c1) ∧ w'.cell? ⟨b, o + j1 * 5 + 2, none⟩ = some (.int .i64 n1) ∧ w'.cell? ⟨b, o + j1 * 5 + 3, none⟩ = some (.string ⟨x1.toArray⟩) ∧ w'.cell? ⟨b, o + j1 * 5 + 4, none⟩ = some (.int .i64 y1)) := hD (fun w' hb => by
  have v0 := hv0.below hb
  have v1 := hv1.below hb
  have k0 := hca w' hb 0 _ hj0
  rw [ho0, hn0, hx0, hy0, hm0, ho1, hn1, hx1, hy1, hm1]
  exact ⟨k0, hca w' hb 1 _ hj1, v0.x0, v0.x1, v0.x2, v0.x3, v0.x4, v1.x0, v1.x1, v1.x2, v1.x3, v1.x4⟩)
 have HWI : Hid (∀ (m : Int) w1, Below w.heap.size w w1 → Calls Tryz.prog 144 #[.slice (some ⟨b, o, none⟩) n c, .int .i64 i, .agg #[.string ⟨#[110, 117, 109, 98, 101, 114]⟩, .slice none 0 0, .int .i64 m, .string ⟨#[]⟩, .int .i64 1]] w1 (kbd w1 (l.set i (Oz.mk kab [] m [] 1)))) := hD (fun m w1 hb1 => by
  have := kb3 (some ⟨b, o, none⟩) c l i (Oz.mk kab [] m [] 1) none 0 w1 (h.below hb1) (hbn.bd (by decide)) hil ⟨rfl, fun h => absurd (show (0 : Nat) < 0 from h) (by decide)⟩
  rwa [← hn] at this)
 have HLS : Hid (∀ x : St, (l.set i x).length = n) := hD (fun x => by rw [List.length_set, hn])
 have HR := hD hR
 rw [← hn]
 obtain ⟨w1, hw1⟩ := xE (w.alloc (.cells #[.string ⟨op.toArray⟩, .slice (some ⟨ba, oa, none⟩) 2 cs, .int .i64 num, .string ⟨text.toArray⟩, .int .i64 ty] 76))
 have HB1 := hD (show Below w.heap.size w w1 by rw [hw1]; exact kaa _ _)
 have HS1 := hD (show Blk w1 w.heap.size 76 #[.string ⟨op.toArray⟩, .slice (some ⟨ba, oa, none⟩) 2 cs, .int .i64 num, .string ⟨text.toArray⟩, .int .i64 ty] by rw [hw1]; exact Blk.new _ _ _)
 have HW1 := hD hw1
 clear h hc hs hopv hil hbn hlen hl hR hv hnum htext hty hn hj0 hj1 ht0 ht1 ha0 ha1 hat0 hat1 hv0 hv1 hca f0 f1 hw1 ho0 hn0 hx0 hy0 hm0 ho1 hn1 hx1 hy1 hm1
 go_enter Tryz.func100, Tryz.ntmps100
 go_upto_region 2 with (fail)
 rw [← HW1.out]
 have s0 := HS1.out.cell 0
 simp only [gA, gB] at s0
 have HBD := hD (show Below w.heap.size w w1.drew from HB1.out.drew)
 have HSD := hD (show Blk w1.drew w.heap.size 76 #[.string ⟨op.toArray⟩, .slice (some ⟨ba, oa, none⟩) 2 cs, .int .i64 num, .string ⟨text.toArray⟩, .int .i64 ty] from HS1.out)
 have HSS0 : Hid (∀ w', Below w.heap.size w w' → Blk w' w.heap.size 76 #[.string ⟨op.toArray⟩, .slice (some ⟨ba, oa, none⟩) 2 cs, .int .i64 num, .string ⟨text.toArray⟩, .int .i64 ty] → (w'.cell? ⟨w.heap.size, 1, none⟩ = some (.slice (some ⟨ba, oa, none⟩) 2 cs) ∧ w'.cell? ⟨ba, oa, none⟩ = some (.int .i64 j0) ∧ w'.cell? ⟨ba, oa + 1, none⟩ = some (.int .i64 j1) ∧ w'.cell? ⟨b, o + j0 * 5, none⟩ = some (.string ⟨o0.toArray⟩) ∧ w'.cell? ⟨b, o + j0 * 5 + 1, none⟩ = some (.slice A0 m0 c0) ∧ w'.cell? ⟨b, o + j0 * 5 + 2, none⟩ = some (.int .i64 n0) ∧ w'.cell? ⟨b, o + j0 * 5 + 3, none⟩ = some (.string ⟨x0.toArray⟩) ∧ w'.cell? ⟨b, o + j0 * 5 + 4, none⟩ = some (.int .i64 y0) ∧ w'.cell? ⟨b, o + j1 * 5, none⟩ = some (.string ⟨o1.toArray⟩) ∧ w'.cell? ⟨b, o + j1 * 5 + 1, none⟩ = some (.slice A1 m1 c1) ∧ w'.cell? ⟨b, o + j1 * 5 + 2, none⟩ = some (.int .i64 n1) ∧ w'.cell? ⟨b, o + j1 * 5 + 3, none⟩ = some (.string ⟨x1.toArray⟩) ∧ w'.cell? ⟨b, o + j1 * 5 + 4, none⟩ = some (.int .i64 y1))) := hD (fun w' hb hs => by
  have s1 := hs.cell 1
  simp only [gA, gB, gC] at s1
  exact ⟨s1, HS.out w' hb⟩)
 have HSS := HSS0.out
 have HSC := fun (t : TypeId) (ca cb : Array Value) (u v : Value) (wc : World) (ht : kdA w t ca cb #[.string ⟨op.toArray⟩, .slice (some ⟨ba, oa, none⟩) 2 cs, .int .i64 num, .string ⟨text.toArray⟩, .int .i64 ty] u v wc) => (by
  obtain ⟨_, _, _, _, _, _, h5, h6⟩ := ht
  exact HSS0.out _ h6.out h5.out : (wc.cell? ⟨w.heap.size, 1, none⟩ = some (.slice (some ⟨ba, oa, none⟩) 2 cs) ∧ wc.cell? ⟨ba, oa, none⟩ = some (.int .i64 j0) ∧ wc.cell? ⟨ba, oa + 1, none⟩ = some (.int .i64 j1) ∧ wc.cell? ⟨b, o + j0 * 5, none⟩ = some (.string ⟨o0.toArray⟩) ∧ wc.cell? ⟨b, o + j0 * 5 + 1, none⟩ = some (.slice A0 m0 c0) ∧ wc.cell? ⟨b, o + j0 * 5 + 2, none⟩ = some (.int .i64 n0) ∧ wc.cell? ⟨b, o + j0 * 5 + 3, none⟩ = some (.string ⟨x0.toArray⟩) ∧ wc.cell? ⟨b, o + j0 * 5 + 4, none⟩ = some (.int .i64 y0) ∧ wc.cell? ⟨b, o + j1 * 5, none⟩ = some (.string ⟨o1.toArray⟩) ∧ wc.cell? ⟨b, o + j1 * 5 + 1, none⟩ = some (.slice A1 m1 c1) ∧ wc.cell? ⟨b, o + j1 * 5 + 2, none⟩ = some (.int .i64 n1) ∧ wc.cell? ⟨b, o + j1 * 5 + 3, none⟩ = some (.string ⟨x1.toArray⟩) ∧ wc.cell? ⟨b, o + j1 * 5 + 4, none⟩ = some (.int .i64 y1)))
 clear d0 d1 d2 d3 d4
 go_upto_if 25 with (fail)
 go_cut [25] (fun u wx => u = .bool true ∧ w1 = wx)
 case first =>
  rcases hop with rfl | rfl | rfl | rfl | rfl
  all_goals (go_wp2_with fail; go_meet; exact ⟨rfl, rfl⟩)
 case rest =>
 obtain ⟨rfl, rfl⟩ := hcut
 go_wp2_with fail
 clear s0
 go_cut [7, 8] (fun u v wc => kdA w 76 #[.string ⟨o0.toArray⟩, .slice A0 m0 c0, .int .i64 n0, .string ⟨x0.toArray⟩, .int .i64 y0] #[.string ⟨o1.toArray⟩, .slice A1 m1 c1, .int .i64 n1, .string ⟨x1.toArray⟩, .int .i64 y1] #[.string ⟨op.toArray⟩, .slice (some ⟨ba, oa, none⟩) 2 cs, .int .i64 num, .string ⟨text.toArray⟩, .int .i64 ty] u v wc)
 case first =>
  exact y43
 case rest =>
 obtain ⟨X, Y, rfl, rfl, HX, HY, HSc, HBc⟩ := hcut
 clear HSS HSC HBD HSD HB1 HS1 HSS0 HS HW1
 obtain ⟨u0, u1, u2, u3, u4, _⟩ := blk5 HX.out
 obtain ⟨v0, v1, v2, v3, v4, _⟩ := blk5 HY.out
 by_cases g0 : o0 = kab
 rotate_left
 ·
  have HRN : Hid (R = none) := hD (by rw [HR.out, if_pos (.inl g0)])
  have e0 : (o0 == [110, 117, 109, 98, 101, 114]) = false := beq_eq_false_iff_ne.2 g0
  go_wp2_with fail
  go_ret2
  unfold kal
  rw [HRN.out]
  exact ⟨HBc.out, rfl⟩
 obtain rfl : o0 = [110, 117, 109, 98, 101, 114] := g0
 by_cases g1 : o1 = kab
 rotate_left
 ·
  have HRN : Hid (R = none) := hD (by rw [HR.out, if_pos (.inr (.inl g1))])
  have e0 : (o1 == [110, 117, 109, 98, 101, 114]) = false := beq_eq_false_iff_ne.2 g1
  go_wp2_with fail
  go_ret2
  unfold kal
  rw [HRN.out]
  exact ⟨HBc.out, rfl⟩
 obtain rfl : o1 = [110, 117, 109, 98, 101, 114] := g1
 by_cases g2 : 1152921504606846976 < n0
 ·
  have HRN : Hid (R = none) := hD (by rw [HR.out, if_pos (.inr (.inr (.inl g2)))])
  go_wp2_with fail
  go_ret2
  unfold kal
  rw [HRN.out]
  exact ⟨HBc.out, rfl⟩
 by_cases g3 : 1152921504606846976 < n1
 ·
  have HRN : Hid (R = none) := hD (by rw [HR.out, if_pos (.inr (.inr (.inr g3)))])
  go_wp2_with fail
  go_ret2
  unfold kal
  rw [HRN.out]
  exact ⟨HBc.out, rfl⟩
 have HR2 : Hid (R = match Rf.arithL op n0 n1 with
   | none => none
   | some n => if n < 0 then none else some (l.set i (Oz.mk kab [] n [] 1))) := hD (by
  rw [HR.out, if_neg (by rintro (e | e | e | e); exact e rfl; exact e rfl; exact g2 e; exact g3 e)]
  rfl)
 have HXl := HX.out.lt
 have HYl := HY.out.lt
 have HK : Hid (∀ w', Below wc.heap.size wc w' → w'.cell? ⟨X, 2, none⟩ = some (.int .i64 n0) ∧ w'.cell? ⟨Y, 2, none⟩ = some (.int .i64 n1)) := hD (fun w' hb => ⟨(hb.cell (p := ⟨X, 2, none⟩) HXl).trans u2, (hb.cell (p := ⟨Y, 2, none⟩) HYl).trans v2⟩)
 go_wp2_with fail
 have HBD := hD (show Below w.heap.size w wc.drew from HBc.out.drew)
 have HSD := hD (show Blk wc.drew w.heap.size 76 #[.string ⟨op.toArray⟩, .slice (some ⟨ba, oa, none⟩) 2 cs, .int .i64 num, .string ⟨text.toArray⟩, .int .i64 ty] from HSc.out)
 have HSS : ∀ w', Below wc.heap.size wc w' → True → w'.cell? ⟨X, 2, none⟩ = some (.int .i64 n0) ∧ w'.cell? ⟨Y, 2, none⟩ = some (.int .i64 n1) := fun w' hb _ => HK.out w' hb
 clear u0 u1 u2 u3 u4 v0 v1 v2 v3 v4
 go_cut [9, 10] (fun u v wd => kdA w 40 #[.int .i64 1, .int .i64 n0, .bool false, .string ⟨#[]⟩, .slice none 0 0] #[.int .i64 1, .int .i64 n1, .bool false, .string ⟨#[]⟩, .slice none 0 0] #[.string ⟨op.toArray⟩, .slice (some ⟨ba, oa, none⟩) 2 cs, .int .i64 num, .string ⟨text.toArray⟩, .int .i64 ty] u v wd)
 case first =>
  refine wp_region_noPanic ?_
  refine wp_region_held_drew (S := (fun w' => w'.cell? ⟨X, 2, none⟩ = some (.int .i64 n0) ∧ w'.cell? ⟨Y, 2, none⟩ = some (.int .i64 n1))) (by kernel_rfl) (HK.out _ (Below.drew (Below.refl _ _))) (fun hHeld => ?_)
  exact y50
 case rest =>
 obtain ⟨P, Q, rfl, rfl, HP, HQ, HSd, HBd⟩ := hcut
 obtain ⟨wd, hwd⟩ := xE wc
 subst hwd
 obtain ⟨u0, u1, u2, u3, u4, _⟩ := blk5 HP.out
 obtain ⟨v0, v1, v2, v3, v4, _⟩ := blk5 HQ.out
 obtain ⟨s0, _⟩ := blk5 HSd.out
 obtain ⟨we, hwe⟩ := xE (wd.alloc (.cells #[.int .i64 1, .int .i64 n0, .bool false, .string ⟨#[]⟩, .slice none 0 0, .int .i64 1, .int .i64 n1, .bool false, .string ⟨#[]⟩, .slice none 0 0] 40))
 have hke : Blk we wd.heap.size 40 #[.int .i64 1, .int .i64 n0, .bool false, .string ⟨#[]⟩, .slice none 0 0, .int .i64 1, .int .i64 n1, .bool false, .string ⟨#[]⟩, .slice none 0 0] := by rw [hwe]; exact Blk.new _ _ _
 have HAP := hD (kjl op hop wd.heap.size n0 n1 hp0 (by omega) hp1 (by omega) we hke.lt (hke.cell 1) (hke.cell 6))
 have HBE := hD (show Below w.heap.size w we by rw [hwe]; exact HBd.out.alloc HBd.out.size _)
 have HWE := hD hwe
 obtain ⟨r, hr⟩ := xE (Rf.arithL op n0 n1)
 rw [← hr] at HR2 HAP
 clear hwe hke hr HK HSS HXl HYl HX HY HBD HSD HR hp0 hp1 g2 g3
 go_wp2_with fail
 rw [← HWE.out]
 refine HAP.out.mono ?_
 rintro e w5 ⟨hb5, he5⟩
 have HB5 := hD (HBE.out.trans (hb5.mono HBE.out.size))
 have HB6 := hD (fun o : Obj => HB5.out.alloc HB5.out.size o)
 clear hb5 u0 u1 u2 u3 u4 v0 v1 v2 v3 v4 s0 HAP
 cases r with
 | none =>
  have he5 : e = .returned (.tuple #[ka4, .int .i64 2, .bool true]) := he5
  subst he5
  unfold ka4
  have HRN : Hid (R = none) := HR2
  go_wp2_with fail
  go_ret2
  unfold kal
  rw [HRN.out]
  exact ⟨HB6.out _, rfl⟩
 | some m =>
  have he5 : e = .returned (.tuple #[valV m, .int .i64 0, .bool true]) := he5
  subst he5
  unfold valV
  by_cases hm : m < 0
  ·
   have HRN : Hid (R = none) := hD (by rw [HR2.out]; exact if_pos hm)
   go_wp2_with fail
   go_ret2
   unfold kal
   rw [HRN.out]
   exact ⟨HB6.out _, rfl⟩
  have HRN : Hid (R = some (l.set i (Oz.mk kab [] m [] 1))) := hD (by rw [HR2.out]; exact if_neg hm)
  go_wp2_with fail
  refine (kcH m _).mono ?_
  rintro e w7 ⟨hb7, rfl⟩
  have HB7 := hD ((HB6.out _).trans (hb7.mono (HB6.out _).size))
  have HW7 := hD (HWI.out m w7 HB7.out)
  obtain ⟨LR, hLR⟩ := xE (l.set i (Oz.mk kab [] m [] 1))
  rw [← hLR] at HW7 HRN
  clear hb7 hLR
  go_wp2_with fail
  refine HW7.out.mono ?_
  rintro e wz ⟨hbz, Az, cz, he, hcz, hpz⟩
  have HBZ := hD (HB7.out.trans (hbz.mono HB7.out.size))
  exact z3
end Go.Proofs.YtamhdmkolfmmdaaGreatDoor
namespace Go.Proofs.YtamhdmkolfmmdaaGreatDoor
open Go.RowKit Go.ChangeShapes Go.WideShapes Go.Deep
theorem bulk_pos {H : Type} (d : DataW H) : 1 ≤ Rows.uptoBulk d := by
 cases d with
 | lit l => cases l <;> simp [Rows.uptoBulk]
 | nil => simp [Rows.uptoBulk]
 | ptr d => simp [Rows.uptoBulk]
 | slice elems spare => simp [Rows.uptoBulk]
 | agg parts => simp [Rows.uptoBulk]
 | iface t d => simp [Rows.uptoBulk]
 | map entries => simp [Rows.uptoBulk]
 | held h => simp [Rows.uptoBulk]
theorem kfA {H : Type} : ∀ l : List (DataW H), l.length ≤ Rows.uptoBulkAll l
 | [] => Nat.zero_le _
 | x :: r => by have := bulk_pos x; have := kfA r; simp only [Rows.uptoBulkAll, List.length_cons]; omega
theorem kkY {H : Type} (d : DataW H) : Joins.sliceLen d ≤ Rows.uptoBulk d := by
 cases d with
 | slice elems spare => have := kfA elems; simp only [Joins.sliceLen, Rows.uptoBulk]; omega
 | lit l => simp [Joins.sliceLen]
 | nil => simp [Joins.sliceLen]
 | ptr d => simp [Joins.sliceLen]
 | agg parts => simp [Joins.sliceLen]
 | iface t d => simp [Joins.sliceLen]
 | map entries => simp [Joins.sliceLen]
 | held h => simp [Joins.sliceLen]
theorem keq {H : Type} {y : DataW H} : ∀ (l : List (DataW H)), y ∈ l → Rows.uptoBulk y ≤ Rows.uptoBulkAll l
 | [], h => by cases h
 | a :: t, h => by
  simp only [Rows.uptoBulkAll]
  rcases List.mem_cons.1 h with rfl | h
  ·
   omega
  ·
   have := keq t h; omega
theorem ki7 {α : Type} (len : Nat) (Q : Nat → α → Prop) (h : ∀ i, i < len → ∃ st, Q i st) : ∃ l : List α, l.length = len ∧ ∀ i (hi : i < l.length), Q i l[i] := by
 induction len with
 | zero => exact ⟨[], rfl, fun i hi => by simp at hi⟩
 | succ k ih =>
  obtain ⟨l, hl, hq⟩ := ih fun i hi => h i (by omega)
  obtain ⟨st, hs⟩ := h k (by omega)
  refine ⟨l ++ [st], by simp [hl], fun i hi => ?_⟩
  by_cases hik : i < l.length
  ·
   rw [List.getElem_append_left hik]; exact hq i hik
  ·
   have : i = l.length := by simp at hi; omega
   subst this
   rw [List.getElem_append_right (Nat.le_refl _)]
   simp [hl, hs]
theorem kgU {w : World} {x : Addr} {len cap : Nat} {zs : List Int} (hl : len ≤ cap) (hz : zs.length = cap)
  (hcell : ∀ i, i < zs.length → w.cell? (x.add i) = some (.int .i64 (zs.getD i 0))) : Reads w w.heap.size 1 (some x) len ((zs.take len).map (Value.int .i64)) := by
 refine ⟨by simp; omega, fun hn => ?_⟩
 have hb : x.block < w.heap.size := by
  have := block_lt_of_cell (hcell 0 (by omega))
  rwa [kdz] at this
 refine ⟨x, rfl, hb, fun j u hu => ?_⟩
 rw [List.getElem?_map] at hu
 by_cases hj : j < len
 ·
  have hjz : j < zs.length := by omega
  rw [List.getElem?_take, if_pos hj, List.getElem?_eq_getElem hjz] at hu
  simp only [Option.map_some, Option.some.injEq] at hu
  rw [hcell j hjz, ← hu]
  simp [List.getD, hjz]
 ·
  rw [List.getElem?_take, if_neg hj] at hu; simp at hu
section
variable {H : Type} {enc : TypeId × Value → H} {P : Program} {w : World} {base : Nat} {spare : Nat → Bool} {held : Bool}
theorem kc9 {t e : TypeId} {fs : Array Field} {fuel : Nat} {cs : List Value} {x : DataW H × List MemPlace} (ht : P.underlying t = some (.slice e)) (he : P.underlying e = some (.struct fs))
  (hone : oneCellFields P fs = true) (hC : P.cellsOf e = fs.size) (h : DataW.trod enc P w base spare held fuel t cs = some x) :
  (cs = [.slice none 0 0] ∧ x = (.nil, [])) ∨
  ∃ (a : Addr) (len cap m : Nat) (D : Nat → DataW H) (Pl : Nat → List MemPlace), cs = [.slice (some a) len cap] ∧ base ≤ a.block ∧ len ≤ cap ∧ cap ≤ maxLen ∧ m = (if spare a.block then cap else len) ∧
   x = (.slice ((List.range len).map D) ((List.range (m - len)).map fun j => D (len + j)), MemPlace.row a (m * fs.size) ++ (List.range m).flatMap Pl) ∧
   ∀ i, i < m → ∃ (ys : List (DataW H × List MemPlace)) (n : Nat), D i = .agg (ys.map (·.1)) ∧ Pl i = ys.flatMap (·.2) ∧ ys.length = fs.size ∧
    ∀ (j : Nat) (f : Field), fs[j]? = some f → ∃ (v : Value) (y : DataW H × List MemPlace), w.cell? (a.add (i * fs.size + j)) = some v ∧ ys[j]? = some y ∧ DataW.trod enc P w base spare held n f.type [v] = some y := by
 rcases open_slice ht h with h0 | ⟨a, len, cap, m, n, D, Pl, hcs, hb, hl, hm, hmm, hx, hi⟩
 ·
  exact .inl h0
 ·
  refine .inr ⟨a, len, cap, m, D, Pl, hcs, hb, hl, hm, hmm, by rw [hC] at hx; exact hx, fun i him => ?_⟩
  obtain ⟨cs', hc, ht'⟩ := hi i him
  rw [hC] at hc
  obtain ⟨ys, n', hn', hy, hlen, hyl, hf⟩ := DataW.trod_struct he ht'
  obtain ⟨_, hcl, hat⟩ := World.cells?_some hc
  simp only [Prod.mk.injEq] at hy
  refine ⟨ys, n', hy.1, hy.2, hyl, fun j f hj => ?_⟩
  obtain ⟨ho, hk⟩ := hone_of hone j f hj
  have hjl : j < fs.size := (Array.getElem?_eq_some_iff.1 hj).1
  have hcell := hat j hjl
  have hv : cs'[j]? = some (cs'[j]'(by omega)) := List.getElem?_eq_getElem (by omega)
  have h1 := hf j f hj
  rw [ho, hk] at h1
  have hone' : (cs'.drop j).take 1 = [cs'[j]'(by omega)] := by
   rw [List.drop_eq_getElem_cons (by omega)]
   rfl
  rw [hone'] at h1
  have hys : ys[j]? = some (ys[j]'(by omega)) := List.getElem?_eq_getElem (by omega)
  refine ⟨_, _, ?_, hys, h1.trans hys⟩
  rw [← Go.Deep.add_add, hcell, hv]
end
theorem khQ {H : Type} {enc : TypeId × Value → H} {w : World} {base fuel : Nat} {spare : Nat → Bool} {held : Bool} {v : Value} {x : DataW H × List MemPlace}
  (h : DataW.trod enc Tryz.prog w base spare held fuel 47 [v] = some x) : ∃ (A : Option Addr) (cb : Nat) (l : List Int), v = .slice A l.length cb ∧ Reads w w.heap.size 1 A l.length (l.map (Value.int .i64)) ∧ l.length ≤ Rows.uptoBulk x.1 ∧ ∀ k ∈ l, -9223372036854775808 ≤ k ∧ k ≤ 9223372036854775807 := by
 obtain ⟨x1, x2⟩ := x
 rcases open_ints Tryz.underlying47 Tryz.underlying3 (by kernel_rfl) h with ⟨hcs, _⟩ | ⟨x, l, c, zs, hcs, _, hl, hm, hz, _, hcell, hwz⟩
 ·
  simp at hcs
  exact ⟨none, 0, [], hcs, Reads.none_, Nat.zero_le _, fun k hk => by cases hk⟩
 ·
  simp at hcs
  subst hcs
  have hzl : l ≤ zs.length := by rw [hz]; split <;> omega
  have hlen : (zs.take l).length = l := by rw [List.length_take]; omega
  refine ⟨some x, c, zs.take l, by rw [hlen], by rw [hlen]; exact kgU hzl rfl hcell, ?_, fun k hk => ?_⟩
  ·
   have := Joins.sliceLen_trod Tryz.underlying47 h
   rw [hlen, ← this]
   exact kkY _
  ·
   have := hwz k (List.mem_of_mem_take hk)
   simp [Lit.wf, IntKind.min, IntKind.max, IntKind.signed, IntKind.bits] at this
   omega
structure StOk (s : St) : Prop where
 args : s.args.length ≤ 1048576
 text : s.text.length ≤ 9223372036854775807
 op : s.op.length ≤ 9223372036854775807
 num : -9223372036854775808 ≤ s.num ∧ s.num ≤ 9223372036854775807
 ty : -9223372036854775808 ≤ s.ty ∧ s.ty ≤ 9223372036854775807
 ints : ∀ k ∈ s.args, -9223372036854775808 ≤ k ∧ k ≤ 9223372036854775807
 textB : s.text.length ≤ 1048576
theorem open_steps {H : Type} {enc : TypeId × Value → H} {w : World} {base fuel : Nat} {spare : Nat → Bool} {held : Bool} {A : Option Addr} {len cap : Nat} {x : DataW H × List MemPlace}
  (h : DataW.trod enc Tryz.prog w base spare held fuel 22 [.slice A len cap] = some x) (hx : Rows.uptoBulk x.1 ≤ 1048576) : ∃ l : List St, l.length = len ∧ ArgPl w A l ∧ len ≤ 1048576 ∧ ∀ s ∈ l, StOk s := by
 rcases kc9 Tryz.underlying22 Tryz.underlying76 (by kernel_rfl) (by kernel_rfl) h with ⟨hcs, _⟩ | ⟨a, len', cap', m, D, Pl, hcs, _, hl, _, hm, hxe, hall⟩
 ·
  simp at hcs
  obtain ⟨rfl, rfl, rfl⟩ := hcs
  exact ⟨[], rfl, fun i s hs => by simp at hs, by omega, fun s hs => by cases hs⟩
 ·
  simp at hcs
  obtain ⟨rfl, rfl, rfl⟩ := hcs
  have him : ∀ j, j < len → j < m := fun j hj => by rw [hm]; split <;> omega
  rw [hxe] at hx
  simp only [Rows.uptoBulk] at hx
  have hlen := kfA ((List.range len).map D)
  rw [List.length_map, List.length_range] at hlen
  obtain ⟨b, o, spot⟩ := a
  obtain ⟨l, hll, hq⟩ := ki7 len (fun i (s : St) => spot = none ∧ StOk s ∧ ∃ As c, b < w.heap.size ∧ w.cell? ⟨b, o + i * 5, none⟩ = some (.string ⟨s.op.toArray⟩) ∧ w.cell? ⟨b, o + i * 5 + 1, none⟩ = some (.slice As s.args.length c) ∧
   w.cell? ⟨b, o + i * 5 + 2, none⟩ = some (.int .i64 s.num) ∧ w.cell? ⟨b, o + i * 5 + 3, none⟩ = some (.string ⟨s.text.toArray⟩) ∧ w.cell? ⟨b, o + i * 5 + 4, none⟩ = some (.int .i64 s.ty) ∧ Reads w w.heap.size 1 As s.args.length (s.args.map (Value.int .i64))) fun i hi => by
   have hspot : spot = none := by
    obtain ⟨ys, n, _, _, _, hf⟩ := hall 0 (him 0 (by omega))
    obtain ⟨v0, y0, g0, _, t0⟩ := hf 0 _ rfl
    simpa [Addr.add] using World.cell?_spot g0
   subst hspot
   obtain ⟨ys, n, hD, _, _, hf⟩ := hall i (him i hi)
   obtain ⟨v0, y0, g0, _, t0⟩ := hf 0 _ rfl
   obtain ⟨v1, y1, g1, e1, t1⟩ := hf 1 _ rfl
   obtain ⟨v2, y2, g2, _, t2⟩ := hf 2 _ rfl
   obtain ⟨v3, y3, g3, e3, t3⟩ := hf 3 _ rfl
   obtain ⟨v4, y4, g4, _, t4⟩ := hf 4 _ rfl
   obtain ⟨z0, f0, _, z0w⟩ := DataW.trod_string Tryz.underlying9 t0
   obtain ⟨Ak, ck, ks, f1, hr1, hb1, hk1⟩ := khQ t1
   obtain ⟨z2, f2, _, z2w⟩ := DataW.trod_int Tryz.underlying3 t2
   obtain ⟨z3, f3, d3, z3w⟩ := DataW.trod_string Tryz.underlying9 t3
   obtain ⟨z4, f4, _, z4w⟩ := DataW.trod_int Tryz.underlying3 t4
   simp at f0 f2 f3 f4
   subst f0 f1 f2 f3 f4
   simp [Lit.wf, IntKind.min, IntKind.max, IntKind.signed, IntKind.bits] at z2w z4w
   rw [ka1] at g0 g1 g2 g3 g4
   have hbi : Rows.uptoBulk (D i) ≤ 1048576 := by
    have := keq ((List.range len).map D) (List.mem_map.2 ⟨i, List.mem_range.2 hi, rfl⟩)
    omega
   have hb2 : Rows.uptoBulk y1.1 ≤ Rows.uptoBulk (D i) := by
    have := keq (ys.map (·.1)) (List.mem_map.2 ⟨y1, List.mem_of_getElem? e1, rfl⟩)
    rw [hD]
    simp only [Rows.uptoBulk]
    omega
   have hb3 : Rows.uptoBulk y3.1 ≤ Rows.uptoBulk (D i) := by
    have := keq (ys.map (·.1)) (List.mem_map.2 ⟨y3, List.mem_of_getElem? e3, rfl⟩)
    rw [hD]
    simp only [Rows.uptoBulk]
    omega
   rw [d3] at hb3
   simp only [Rows.uptoBulk] at hb3
   have hz0 : (⟨z0.data.toList.toArray⟩ : ByteArray) = z0 := by cases z0; simp
   have hz3 : (⟨z3.data.toList.toArray⟩ : ByteArray) = z3 := by cases z3; simp
   have hm0 : z0.data.toList.length ≤ 9223372036854775807 := by have : z0.size ≤ 9223372036854775807 := z0w; simpa using this
   have hm3 : z3.data.toList.length ≤ 9223372036854775807 := by have : z3.size ≤ 9223372036854775807 := z3w; simpa using this
   exact ⟨⟨z0.data.toList, ks, z2, z3.data.toList, z4⟩, rfl, ⟨by show ks.length ≤ _; omega, hm3, hm0, show (-9223372036854775808 : Int) ≤ z2 ∧ z2 ≤ 9223372036854775807 from by omega, show (-9223372036854775808 : Int) ≤ z4 ∧ z4 ≤ 9223372036854775807 from by omega, hk1, by show z3.data.toList.length ≤ _; omega⟩, Ak, ck, block_lt_of_cell g0, by dsimp only; rw [hz0]; exact g0, g1, g2, by dsimp only; rw [hz3]; exact g3, g4, hr1⟩
  refine ⟨l, hll, fun i s hs => ?_, by omega, fun s hs => ?_⟩
  ·
   obtain ⟨hi, rfl⟩ := List.getElem?_eq_some_iff.1 hs
   obtain ⟨h1, _, As, c, h2⟩ := hq i hi
   subst h1
   exact ⟨b, o, As, c, rfl, h2⟩
  ·
   obtain ⟨i, hi0⟩ := List.getElem?_of_mem hs
   obtain ⟨hi1, rfl⟩ := List.getElem?_eq_some_iff.1 hi0
   exact (hq i hi1).2.1
theorem open_cap {H : Type} {enc : TypeId × Value → H} {w : World} {base fuel : Nat} {spare : Nat → Bool} {held : Bool} {A : Option Addr} {len cap : Nat} {x : DataW H × List MemPlace}
  (h : DataW.trod enc Tryz.prog w base spare held fuel 22 [.slice A len cap] = some x) : len ≤ cap := by
 rcases kc9 Tryz.underlying22 Tryz.underlying76 (by kernel_rfl) (by kernel_rfl) h with ⟨hcs, _⟩ | ⟨a, len', cap', m, D, Pl, hcs, _, hl, _, _, _, _⟩
 ·
  simp at hcs
  omega
 ·
  simp at hcs
  omega
end Go.Proofs.YtamhdmkolfmmdaaGreatDoor
