/- The walk of the document's counted term (printed by gen_gm.py). -/
import Derived.Test.YtpiagfmjekcncaaDoorjGl
import Derived.Test.YtpiagfmjekcncaaDoorjTerms
import Derived.Deep.CutBlock
set_option linter.unusedVariables false
set_option linter.unusedSimpArgs false
set_option linter.unusedSectionVars false
namespace Go.Proofs.YtpiagfmjekcncaaDoor
open Go.RowKit
/-- A counter over a tree that has just been laid in a block of its own. -/
theorem grxv_rep {w : World} {G : Nat → Prop} {r : Rx} {cs : List Value} {B : Nat} (lo hi : Int) (h : RxV w G r cs) (hb : Blk w B 27 cs.toArray) (hG : G B) : RxV w G (Rx.rep lo hi r) [.int .i64 5, .int .u64 0, .int .u64 0, .int .u64 0, .int .u64 0, .int .i64 lo, .int .i64 hi, .slice (some ⟨B, 0, none⟩) 1 1] := by
  unfold Rx.rep RxV
  refine ⟨some ⟨B, 0, none⟩, 1, cs, rfl, ⟨by rw [h.len]; rfl, fun _ => ⟨B, 0, rfl, hG, Blk.lt hb, fun j u hu => ?_⟩⟩, RxVs.one h⟩
  rw [Nat.zero_add, Blk.cell hb, List.getElem?_toArray]
  exact hu
/-- The state of counted. -/
structure CtSt (T : List UInt8) (w : World) (g B : Nat) (r : Rx) (cs : List Value) (k : Nat) (b : Bool) (wr : World) : Prop where
  s : GS T wr g k b
  z : R8 wr w.heap.size (.int .i64 0) (.int .u64 0) (.int .u64 0) (.int .u64 0) (.int .u64 0) (.int .i64 0) (.int .i64 0) (.slice none 0 0)
  c : Blk wr B 27 cs.toArray
  v : RxV wr (fun i => w.heap.size < i ∧ i < wr.heap.size ∧ i ≠ B) r cs
  k : Kept (isG g) w wr
theorem gr_cntL_true (T : List UInt8) (f : Nat) (r : Rx) (k : Nat) : Gr.cntL T f r k true = (r, k, true) := by cases f <;> rfl
section
variable {T : List UInt8} {w : World} {g B : Nat} {r : Rx} {cs : List Value} {k : Nat} {b : Bool} {wr : World}
theorem CtSt.drewN (h : CtSt T w g B r cs k b wr) (n : Nat) : CtSt T w g B r cs k b (wr.drewN n) :=
  ⟨h.s.drewN n, Blk.drewN h.z n, Blk.drewN h.c n, grxv_kept h.v ((Kept.refl (fun _ => False) wr).drewN n) (fun _ _ _ => id) (fun _ hhi _ => hhi), h.k.drewN n⟩
theorem CtSt.kept {w' : World} {k' : Nat} {b' : Bool} (h : CtSt T w g B r cs k b wr) (hg : g < w.heap.size) (hB : w.heap.size < B) (hk : Kept (isG g) wr w') (hs : GS T w' g k' b') : CtSt T w g B r cs k' b' w' :=
  ⟨hs, h.z.kept hk (fun e => by have e' : w.heap.size = g := e; omega), Blk.kept h.c hk (fun e => by have e' : B = g := e; omega),
    grxv_kept h.v hk (fun i hhi _ e => by have e' : i = g := e; have := hhi.1; omega) (fun i hhi _ => ⟨hhi.1, by have := hk.size; omega, hhi.2.2⟩), h.k.then_ hk⟩
theorem CtSt.at (h : CtSt T w g B r cs k b wr) (hg : g < w.heap.size) (hB : w.heap.size < B) (k' : Nat) : CtSt T w g B r cs k' b (wr.setCell ⟨g, 1, none⟩ (.int .i64 k')) :=
  h.kept hg hB ((Kept.refl (isG g) wr).setCell (p := ⟨g, 1, none⟩) (.inl rfl) _) (h.s.go k')
theorem CtSt.rep (h : CtSt T w g B r cs k b wr) (hg : g < w.heap.size) (hB : w.heap.size < B) (lo hi : Int) : CtSt T w g B (Rx.rep lo hi r) [.int .i64 5, .int .u64 0, .int .u64 0, .int .u64 0, .int .u64 0, .int .i64 lo, .int .i64 hi, .slice (some ⟨wr.heap.size, 0, none⟩) 1 1] k b
    (set8 (wr.alloc (.cells cs.toArray 27)) B (.int .i64 5) (.int .u64 0) (.int .u64 0) (.int .u64 0) (.int .u64 0) (.int .i64 lo) (.int .i64 hi) (.slice (some ⟨wr.heap.size, 0, none⟩) 1 1)) := by
  have hBl := Blk.lt h.c
  have hgl := h.s.lt
  have hwl := Blk.lt h.z
  have ka : Kept (fun _ => False) wr (wr.alloc (.cells cs.toArray 27)) := (Kept.refl _ wr).alloc _
  have k8 := kept_set8 (Kept.refl (fun i => i = B) (wr.alloc (.cells cs.toArray 27))) (g := B) (.inl rfl) (.int .i64 5) (.int .u64 0) (.int .u64 0) (.int .u64 0) (.int .u64 0) (.int .i64 lo) (.int .i64 hi) (.slice (some ⟨wr.heap.size, 0, none⟩) 1 1)
  have hsz : (wr.alloc (.cells cs.toArray 27)).heap.size = wr.heap.size + 1 := by simp
  have hs8 := k8.size
  rw [hsz] at hs8
  obtain ⟨kd, a0, a1, a2, a3, l, hh, A, n, c, rfl⟩ := h.v.eight
  refine ⟨Blk.set8 (h.s.alloc _) (by omega) _ _ _ _ _ _ _ _, Blk.set8 (h.z.alloc _) (by omega) _ _ _ _ _ _ _ _, ?_, ?_, kept_set8 (h.k.alloc _) (.inr (by omega)) _ _ _ _ _ _ _ _⟩
  · exact R8.all (show R8 _ B _ _ _ _ _ _ _ _ from Blk.alloc h.c _) _ _ _ _ _ _ _ _
  · refine grxv_rep lo hi ?_ (Blk.set8 (Blk.new wr 27 _) (by omega) _ _ _ _ _ _ _ _) ⟨by omega, by omega, by omega⟩
    exact grxv_kept (grxv_kept h.v ka (fun _ _ _ => id) (fun _ hhi _ => hhi)) k8 (fun i hhi _ e => hhi.2.2 e) (fun i hhi _ => ⟨hhi.1, by omega, hhi.2.2⟩)
end
set_option maxRecDepth 100000 in
set_option maxHeartbeats 8000000 in
theorem gcounted_any {T : List UInt8} {g k0 d : Nat} (E : Nat → Rx × Nat × Bool) (w : World) (h : GS T w g k0 false) (hT : T.length ≤ 262144) (hk : k0 < T.length) (hd : d ≤ 300000) (hd2 : 2 ≤ d) (hO : Gr.Ok T d E)
    (hE : ∀ k1 w1, k0 < k1 → k1 ≤ T.length → GS T w1 g k1 false → Calls Tryd.prog 20 #[.pointer (some ⟨g, 0, none⟩)] w1 (GTEnd T w1 g (E k1))) : Calls Tryd.prog 52 #[.pointer (some ⟨g, 0, none⟩)] w (GTEnd T w g (Gr.cnt T E k0)) := by
  obtain ⟨i0, hinf, hz0, hz1, hz2⟩ := info_parts infoR
  have hg := h.lt
  have hle := gr_trm_le hd2 hO hk
  obtain ⟨Z, hZ⟩ : ∃ Z, Z = Gr.cnt T E k0 := ⟨_, rfl⟩
  rw [← hZ]
  unfold Gr.cnt at hZ
  have HS1 := Lib.hid (h.alloc (.cells #[.int .i64 0, .int .u64 0, .int .u64 0, .int .u64 0, .int .u64 0, .int .i64 0, .int .i64 0, .slice none 0 0] 27))
  have HR1 := Lib.hid (R8.mk0 w w.heap.size rfl)
  have HK1 := Lib.hid ((Kept.refl (isG g) w).alloc (.cells #[.int .i64 0, .int .u64 0, .int .u64 0, .int .u64 0, .int .u64 0, .int .i64 0, .int .i64 0, .slice none 0 0] 27))
  obtain ⟨w1, hw1⟩ : ∃ w1, w1 = w.alloc (.cells #[.int .i64 0, .int .u64 0, .int .u64 0, .int .u64 0, .int .u64 0, .int .i64 0, .int .i64 0, .slice none 0 0] 27) := ⟨_, rfl⟩
  rw [← hw1] at HS1 HR1 HK1
  have hw1s : w1.heap.size = w.heap.size + 1 := by rw [hw1]; simp
  have HW1 := Lib.hid hw1
  have HT := Lib.hid (gterm_any E w1 HS1.out hT hk hd hO hE)
  obtain ⟨r0, k1, b1, hr1⟩ : ∃ r0 k1 b1, Gr.trm T E k0 = (r0, k1, b1) := ⟨_, _, _, rfl⟩
  rw [hr1] at hZ HT hle
  dsimp only at hZ HT hle
  obtain ⟨hle1, hle2, hle3⟩ := hle
  have HZ := Lib.hid hZ
  clear h hw1 hr1 hZ hE hO
  go_enter Tryd.func52, Tryd.ntmps52
  go_upto_region 1 with (fail)
  rw [← HW1.out]
  go_wp2_with fail
  refine HT.out.mono ?_
  rintro ee w2 ⟨cs, rfl, hv2, hs2, hk2⟩
  obtain ⟨kd, a0, a1, a2, a3, lo, hi, A, n, c, rfl⟩ := hv2.eight
  have hR2 := HR1.out.kept hk2 (fun e => by have e' : w.heap.size = g := e; omega)
  have hK2 := HK1.out.then_ hk2
  have hw2s : w1.heap.size ≤ w2.heap.size := hk2.size
  obtain ⟨B, hB⟩ : ∃ B, B = w2.heap.size := ⟨_, rfl⟩
  have HCT := Lib.hid (show CtSt T w g B r0 [.int .i64 kd, .int .u64 a0, .int .u64 a1, .int .u64 a2, .int .u64 a3, .int .i64 lo, .int .i64 hi, .slice A n c] k1 b1 (w2.alloc (.cells #[.int .i64 kd, .int .u64 a0, .int .u64 a1, .int .u64 a2, .int .u64 a3, .int .i64 lo, .int .i64 hi, .slice A n c] 27)) from by
    refine ⟨hs2.alloc _, hR2.alloc _, by rw [hB]; exact Blk.new w2 _ _, ?_, hK2.alloc _⟩
    exact grxv_kept hv2 ((Kept.refl (fun _ => False) w2).alloc (.cells #[.int .i64 kd, .int .u64 a0, .int .u64 a1, .int .u64 a2, .int .u64 a3, .int .i64 lo, .int .i64 hi, .slice A n c] 27)) (fun _ _ _ => id) (fun i hhi hl => ⟨by have := hhi.1; omega, by simp; omega, by omega⟩))
  have hwB : w.heap.size < B := by omega
  have hgB : g ≠ B := by have := hs2.lt; omega
  obtain ⟨w3, hw3⟩ : ∃ w3, w3 = w2.alloc (.cells #[.int .i64 kd, .int .u64 a0, .int .u64 a1, .int .u64 a2, .int .u64 a3, .int .i64 lo, .int .i64 hi, .slice A n c] 27) := ⟨_, rfl⟩
  rw [← hw3] at HCT
  have HW3 := Lib.hid hw3
  have HBQ := Lib.hid hB
  clear hv2 hs2 hk2 hR2 hK2 hw3 hB HT HS1 HR1 HK1 HW1
  go_upto_block 0 with (fail)
  rw [← HW3.out, ← HBQ.out]
  clear HW3 HBQ hw2s hw1s
  go_cut [] (fun wc => ∃ (r : Rx) (cs : List Value) (k : Nat) (b : Bool), Hid (Z = (r, k, b)) ∧ Hid (CtSt T w g B r cs k b wc))
  case first =>
    go_wp2_with fail
    go_loopg [] (T.length + 2) (fun f wr => ∃ (r : Rx) (cs : List Value) (k : Nat) (b : Bool), (b = false → k ≤ T.length) ∧ T.length + 2 ≤ k + f ∧ Hid (Gr.cntL T f r k b = Z) ∧ Hid (CtSt T w g B r cs k b wr))
    case atStart => exact ⟨r0, _, k1, b1, fun e => (hle3 e).2, by omega, Lib.hid HZ.out.symm, HCT⟩
    case round =>
      obtain ⟨r, cs, k, b, hkb, hkf, hP, hct⟩ := hrel
      cases b with
      | true =>
        rw [gr_cntL_true] at hP
        have HP := Lib.hid hP.out.symm
        obtain ⟨c0, c1, c2, q1, q2⟩ := hct.out.s.cells
        go_wp2_with fail
        go_meet
        case rel => exact ⟨r, cs, k, true, HP, hct⟩
      | false =>
        have hk := hkb rfl
        obtain ⟨f, rfl⟩ : ∃ f, gk = f + 1 := ⟨gk - 1, by omega⟩
        have hP2 := hP.out
        rw [Gr.cntL, if_neg (by decide)] at hP2
        obtain ⟨cc, hcc⟩ : ∃ cc, cc = Gr.nx T k := ⟨_, rfl⟩
        rw [← hcc] at hP2
        have HN := Lib.hid (gnext_any wr hct.out.s hT (by omega))
        rw [← hcc] at HN
        obtain ⟨c0, c1, c2, q1, q2⟩ := hct.out.s.cells
        obtain ⟨uc0, uc1⟩ := u8b cc
        obtain ⟨wo, hwo⟩ : ∃ wo, wo = wr := ⟨_, rfl⟩
        subst hwo
        have HCT2 := Lib.hid hct.out
        have HP2 := Lib.hid hP2
        clear hP hP2 hct HZ HCT
        by_cases hor : cc = 42 ∨ cc = 43 ∨ cc = 63 ∨ cc = 123
        · have hkl : k < T.length := gr_nx_lt (T := T) (by rw [← hcc]; rcases hor with h | h | h | h <;> rw [h] <;> decide)
          have e0 : decide (k < T.length) = true := decide_eq_true hkl
          have HC := Lib.hid hcc
          clear hcc
          go_wp2_with fail
          refine HN.out.mono ?_
          rintro ee w4 ⟨rfl, n4, rfl⟩
          have HCT4 := Lib.hid (HCT2.out.drewN n4)
          obtain ⟨w4, hw4⟩ : ∃ w4, w4 = wo.drewN n4 := ⟨_, rfl⟩
          rw [← hw4] at HCT4 ⊢
          clear hw4 HCT2 HN c0 c1 c2 q1 q2
          go_upto_region 4 with (fail)
          go_cut [37] (fun v wc => v = .bool false ∧ w4 = wc)
          case first =>
            rcases hor with h42 | h43 | h63 | h123
            · have s42 : ((cc.toNat : Int) == 42) = true := by rw [h42]; rfl
              have n42 : ((cc.toNat : Int) != 42) = false := by rw [h42]; rfl
              have s43 : ((cc.toNat : Int) == 43) = false := by rw [h42]; rfl
              have n43 : ((cc.toNat : Int) != 43) = true := by rw [h42]; rfl
              have s63 : ((cc.toNat : Int) == 63) = false := by rw [h42]; rfl
              have n63 : ((cc.toNat : Int) != 63) = true := by rw [h42]; rfl
              have s123 : ((cc.toNat : Int) == 123) = false := by rw [h42]; rfl
              have n123 : ((cc.toNat : Int) != 123) = true := by rw [h42]; rfl
              go_wp2_with fail
              go_meet
              case rel => exact ⟨rfl, rfl⟩
            · have s42 : ((cc.toNat : Int) == 42) = false := by rw [h43]; rfl
              have n42 : ((cc.toNat : Int) != 42) = true := by rw [h43]; rfl
              have s43 : ((cc.toNat : Int) == 43) = true := by rw [h43]; rfl
              have n43 : ((cc.toNat : Int) != 43) = false := by rw [h43]; rfl
              have s63 : ((cc.toNat : Int) == 63) = false := by rw [h43]; rfl
              have n63 : ((cc.toNat : Int) != 63) = true := by rw [h43]; rfl
              have s123 : ((cc.toNat : Int) == 123) = false := by rw [h43]; rfl
              have n123 : ((cc.toNat : Int) != 123) = true := by rw [h43]; rfl
              go_wp2_with fail
              go_meet
              case rel => exact ⟨rfl, rfl⟩
            · have s42 : ((cc.toNat : Int) == 42) = false := by rw [h63]; rfl
              have n42 : ((cc.toNat : Int) != 42) = true := by rw [h63]; rfl
              have s43 : ((cc.toNat : Int) == 43) = false := by rw [h63]; rfl
              have n43 : ((cc.toNat : Int) != 43) = true := by rw [h63]; rfl
              have s63 : ((cc.toNat : Int) == 63) = true := by rw [h63]; rfl
              have n63 : ((cc.toNat : Int) != 63) = false := by rw [h63]; rfl
              have s123 : ((cc.toNat : Int) == 123) = false := by rw [h63]; rfl
              have n123 : ((cc.toNat : Int) != 123) = true := by rw [h63]; rfl
              go_wp2_with fail
              go_meet
              case rel => exact ⟨rfl, rfl⟩
            · have s42 : ((cc.toNat : Int) == 42) = false := by rw [h123]; rfl
              have n42 : ((cc.toNat : Int) != 42) = true := by rw [h123]; rfl
              have s43 : ((cc.toNat : Int) == 43) = false := by rw [h123]; rfl
              have n43 : ((cc.toNat : Int) != 43) = true := by rw [h123]; rfl
              have s63 : ((cc.toNat : Int) == 63) = false := by rw [h123]; rfl
              have n63 : ((cc.toNat : Int) != 63) = true := by rw [h123]; rfl
              have s123 : ((cc.toNat : Int) == 123) = true := by rw [h123]; rfl
              have n123 : ((cc.toNat : Int) != 123) = false := by rw [h123]; rfl
              go_wp2_with fail
              go_meet
              case rel => exact ⟨rfl, rfl⟩
          case rest =>
          obtain ⟨rfl, rfl⟩ := hcut
          obtain ⟨c0, c1, c2, q1, q2⟩ := HCT4.out.s.cells
          have HCT5 := Lib.hid (HCT4.out.at hg hwB (k + 1))
          obtain ⟨w5, hw5⟩ : ∃ w5, w5 = w4.setCell ⟨g, 1, none⟩ (.int .i64 ((k + 1 : Nat) : Int)) := ⟨_, rfl⟩
          rw [← hw5] at HCT5
          rw [show ((k + 1 : Nat) : Int) = (k : Int) + 1 by omega] at hw5
          have HW5 := Lib.hid hw5
          clear hw5 HCT4
          go_upto_block 2 with (fail)
          rw [← HW5.out]
          clear c0 c1 c2 q1 q2 HW5
          go_cut [6, 7] (fun u v wc => ∃ (lo hi : Int) (k' : Nat) (b' : Bool), u = .int .i64 lo ∧ v = .int .i64 hi ∧ Hid (Gr.cntL T f (Rx.rep lo hi r) k' b' = Z) ∧ (b' = false → k' ≤ T.length) ∧ k < k' ∧ Hid (CtSt T w g B r cs k' b' wc))
          case first =>
            have hP2 := HP2.out
            rcases hor with h42 | h43 | h63 | h123
            · have s42 : ((cc.toNat : Int) == 42) = true := by rw [h42]; rfl
              have n42 : ((cc.toNat : Int) != 42) = false := by rw [h42]; rfl
              have s43 : ((cc.toNat : Int) == 43) = false := by rw [h42]; rfl
              have n43 : ((cc.toNat : Int) != 43) = true := by rw [h42]; rfl
              have s63 : ((cc.toNat : Int) == 63) = false := by rw [h42]; rfl
              have n63 : ((cc.toNat : Int) != 63) = true := by rw [h42]; rfl
              have s123 : ((cc.toNat : Int) == 123) = false := by rw [h42]; rfl
              have n123 : ((cc.toNat : Int) != 123) = true := by rw [h42]; rfl
              rw [if_pos h42] at hP2
              have HP := Lib.hid hP2
              clear hP2 h42
              go_wp2_with fail
              go_meet
              case rel => exact ⟨0, (-1), k + 1, false, rfl, rfl, HP, fun _ => by omega, by omega, HCT5⟩
            · have s42 : ((cc.toNat : Int) == 42) = false := by rw [h43]; rfl
              have n42 : ((cc.toNat : Int) != 42) = true := by rw [h43]; rfl
              have s43 : ((cc.toNat : Int) == 43) = true := by rw [h43]; rfl
              have n43 : ((cc.toNat : Int) != 43) = false := by rw [h43]; rfl
              have s63 : ((cc.toNat : Int) == 63) = false := by rw [h43]; rfl
              have n63 : ((cc.toNat : Int) != 63) = true := by rw [h43]; rfl
              have s123 : ((cc.toNat : Int) == 123) = false := by rw [h43]; rfl
              have n123 : ((cc.toNat : Int) != 123) = true := by rw [h43]; rfl
              rw [if_neg (show ¬ cc = 42 by rw [h43]; decide)] at hP2
              rw [if_pos h43] at hP2
              have HP := Lib.hid hP2
              clear hP2 h43
              go_wp2_with fail
              go_meet
              case rel => exact ⟨1, (-1), k + 1, false, rfl, rfl, HP, fun _ => by omega, by omega, HCT5⟩
            · have s42 : ((cc.toNat : Int) == 42) = false := by rw [h63]; rfl
              have n42 : ((cc.toNat : Int) != 42) = true := by rw [h63]; rfl
              have s43 : ((cc.toNat : Int) == 43) = false := by rw [h63]; rfl
              have n43 : ((cc.toNat : Int) != 43) = true := by rw [h63]; rfl
              have s63 : ((cc.toNat : Int) == 63) = true := by rw [h63]; rfl
              have n63 : ((cc.toNat : Int) != 63) = false := by rw [h63]; rfl
              have s123 : ((cc.toNat : Int) == 123) = false := by rw [h63]; rfl
              have n123 : ((cc.toNat : Int) != 123) = true := by rw [h63]; rfl
              rw [if_neg (show ¬ cc = 42 by rw [h63]; decide)] at hP2
              rw [if_neg (show ¬ cc = 43 by rw [h63]; decide)] at hP2
              rw [if_pos h63] at hP2
              have HP := Lib.hid hP2
              clear hP2 h63
              go_wp2_with fail
              go_meet
              case rel => exact ⟨0, 1, k + 1, false, rfl, rfl, HP, fun _ => by omega, by omega, HCT5⟩
            · have s42 : ((cc.toNat : Int) == 42) = false := by rw [h123]; rfl
              have n42 : ((cc.toNat : Int) != 42) = true := by rw [h123]; rfl
              have s43 : ((cc.toNat : Int) == 43) = false := by rw [h123]; rfl
              have n43 : ((cc.toNat : Int) != 43) = true := by rw [h123]; rfl
              have s63 : ((cc.toNat : Int) == 63) = false := by rw [h123]; rfl
              have n63 : ((cc.toNat : Int) != 63) = true := by rw [h123]; rfl
              have s123 : ((cc.toNat : Int) == 123) = true := by rw [h123]; rfl
              have n123 : ((cc.toNat : Int) != 123) = false := by rw [h123]; rfl
              rw [if_neg (show ¬ cc = 42 by rw [h123]; decide)] at hP2
              rw [if_neg (show ¬ cc = 43 by rw [h123]; decide)] at hP2
              rw [if_neg (show ¬ cc = 63 by rw [h123]; decide)] at hP2
              rw [if_pos h123] at hP2
              have l9 := gr_bnd_le (T := T) (k := k + 1) (by omega)
              have o9 := gr_bnd_ok (T := T) (k := k + 1) (by omega)
              obtain ⟨lo9, hi9, k9, b9, hr9⟩ : ∃ lo9 hi9 k9 b9, Gr.bnd T (k + 1) = (lo9, hi9, k9, b9) := ⟨_, _, _, _, rfl⟩
              have HBN := Lib.hid (fun w1 h1 => gbounds_any (T := T) (g := g) (k0 := k + 1) w1 h1 hT (by omega))
              rw [hr9] at hP2 l9 o9 HBN
              dsimp only at hP2 l9 o9 HBN
              obtain ⟨l91, l92, l93, l94, l95⟩ := l9
              clear hr9
              have HP := Lib.hid hP2
              clear hP2 h123
              go_wp2_with fail
              refine (HBN.out _ HCT5.out.s).mono ?_
              rintro ee w6 ⟨rfl, hs6, hk6⟩
              have HCT6 := Lib.hid (HCT5.out.kept hg hwB hk6 hs6)
              clear hs6 hk6 HCT5 HBN
              go_wp2_with fail
              go_meet
              case rel => exact ⟨_, _, k9, b9, rfl, rfl, HP, fun e => o9 e, by omega, HCT6⟩
          case rest =>
          obtain ⟨lo, hi, k', b', rfl, rfl, HP, hb', hk', HCT6⟩ := hcut
          clear HP2 HCT5 hor
          obtain ⟨kd, a0, a1, a2, a3, lo', hi', A, n, c, rfl⟩ := HCT6.out.v.eight
          have HREP := Lib.hid (HCT6.out.rep hg hwB lo hi)
          unfold set8 at HREP
          obtain ⟨⟨⟨l0, l1⟩, l2, l3⟩, ⟨l4, l5⟩, l6, l7⟩ := R8.cells (show R8 wc B (.int .i64 kd) (.int .u64 a0) (.int .u64 a1) (.int .u64 a2) (.int .u64 a3) (.int .i64 lo') (.int .i64 hi') (.slice A n c) from HCT6.out.c)
          obtain ⟨⟨⟨z0, z1⟩, z2, z3⟩, ⟨z4, z5⟩, z6, z7⟩ := R8.free (show R8 (wc.alloc (.cells #[.int .i64 kd, .int .u64 a0, .int .u64 a1, .int .u64 a2, .int .u64 a3, .int .i64 lo', .int .i64 hi', .slice A n c] 27)) B (.int .i64 kd) (.int .u64 a0) (.int .u64 a1) (.int .u64 a2) (.int .u64 a3) (.int .i64 lo') (.int .i64 hi') (.slice A n c) from Blk.alloc HCT6.out.c _)
          obtain ⟨⟨⟨m0, m1⟩, m2, m3⟩, ⟨m4, m5⟩, m6, m7⟩ := R8.cells (show R8 (wc.alloc (.cells #[.int .i64 kd, .int .u64 a0, .int .u64 a1, .int .u64 a2, .int .u64 a3, .int .i64 lo', .int .i64 hi', .slice A n c] 27)) B (.int .i64 kd) (.int .u64 a0) (.int .u64 a1) (.int .u64 a2) (.int .u64 a3) (.int .i64 lo') (.int .i64 hi') (.slice A n c) from Blk.alloc HCT6.out.c _)
          clear HCT6
          go_wp2_with fail
          go_roundg f
          case measure => omega
          case rel => exact ⟨_, _, k', b', hb', by omega, HP, HREP⟩
        · have h42 : ¬ cc = 42 := fun e => hor (by rw [e]; decide)
          have s42 : ((cc.toNat : Int) == 42) = false := glit (c := 42) h42
          have n42 : ((cc.toNat : Int) != 42) = true := by rw [show (42 : Int) = ((42 : UInt8).toNat : Int) from rfl, u8_ne_int]; exact bne_iff_ne.2 h42
          have h43 : ¬ cc = 43 := fun e => hor (by rw [e]; decide)
          have s43 : ((cc.toNat : Int) == 43) = false := glit (c := 43) h43
          have n43 : ((cc.toNat : Int) != 43) = true := by rw [show (43 : Int) = ((43 : UInt8).toNat : Int) from rfl, u8_ne_int]; exact bne_iff_ne.2 h43
          have h63 : ¬ cc = 63 := fun e => hor (by rw [e]; decide)
          have s63 : ((cc.toNat : Int) == 63) = false := glit (c := 63) h63
          have n63 : ((cc.toNat : Int) != 63) = true := by rw [show (63 : Int) = ((63 : UInt8).toNat : Int) from rfl, u8_ne_int]; exact bne_iff_ne.2 h63
          have h123 : ¬ cc = 123 := fun e => hor (by rw [e]; decide)
          have s123 : ((cc.toNat : Int) == 123) = false := glit (c := 123) h123
          have n123 : ((cc.toNat : Int) != 123) = true := by rw [show (123 : Int) = ((123 : UInt8).toNat : Int) from rfl, u8_ne_int]; exact bne_iff_ne.2 h123
          have hP2 := HP2.out
          rw [if_neg h42, if_neg h43, if_neg h63, if_neg h123] at hP2
          have HP := Lib.hid hP2.symm
          clear hP2 HP2 hor hcc h42 h43 h63 h123
          go_wp2_with fail
          refine HN.out.mono ?_
          rintro ee w4 ⟨rfl, n4, rfl⟩
          have HCT4 := Lib.hid (HCT2.out.drewN n4)
          go_wp2_with fail
          all_goals
            go_meet
            case rel => exact ⟨r, cs, k, false, HP, HCT4⟩
  case rest =>
  obtain ⟨r, cs, k, b, HP, hct⟩ := hcut
  obtain ⟨kd, a0, a1, a2, a3, lo, hi, A, n, c, rfl⟩ := hct.out.v.eight
  clear HZ HCT
  obtain ⟨c0, c1, c2, q1, q2⟩ := hct.out.s.cells
  obtain ⟨⟨⟨l0, l1⟩, l2, l3⟩, ⟨l4, l5⟩, l6, l7⟩ := R8.cells (show R8 wc B (.int .i64 kd) (.int .u64 a0) (.int .u64 a1) (.int .u64 a2) (.int .u64 a3) (.int .i64 lo) (.int .i64 hi) (.slice A n c) from hct.out.c)
  have HRx := Lib.hid hct.out.z
  have HSx := Lib.hid hct.out.s
  have HKx := Lib.hid hct.out.k
  have HVx := Lib.hid hct.out.v
  clear hct
  obtain ⟨⟨⟨r0, r1⟩, r2, r3⟩, ⟨r4, r5⟩, r6, r7⟩ := HRx.out.cells
  obtain ⟨⟨⟨z0, z1⟩, z2, z3⟩, ⟨z4, z5⟩, z6, z7⟩ := HRx.out.free
  have HF9 := Lib.hid (HRx.out.all (.int .i64 kd) (.int .u64 a0) (.int .u64 a1) (.int .u64 a2) (.int .u64 a3) (.int .i64 lo) (.int .i64 hi) (.slice A n c))
  have HG9 := Lib.hid (show GS T (set8 wc w.heap.size (.int .i64 kd) (.int .u64 a0) (.int .u64 a1) (.int .u64 a2) (.int .u64 a3) (.int .i64 lo) (.int .i64 hi) (.slice A n c)) g _ _ from Blk.set8 HSx.out (by omega) (.int .i64 kd) (.int .u64 a0) (.int .u64 a1) (.int .u64 a2) (.int .u64 a3) (.int .i64 lo) (.int .i64 hi) (.slice A n c))
  have HK9 := Lib.hid (kept_set8 HKx.out (.inr (Nat.le_refl w.heap.size)) (.int .i64 kd) (.int .u64 a0) (.int .u64 a1) (.int .u64 a2) (.int .u64 a3) (.int .i64 lo) (.int .i64 hi) (.slice A n c))
  have HV9 := Lib.hid (grxv_kept HVx.out (kept_set8 (Kept.refl (fun i => i = w.heap.size) wc) (.inl rfl) (.int .i64 kd) (.int .u64 a0) (.int .u64 a1) (.int .u64 a2) (.int .u64 a3) (.int .i64 lo) (.int .i64 hi) (.slice A n c)) (fun i hhi _ e => by have e' : i = w.heap.size := e; have := hhi.1; omega) (G := grg w.heap.size (set8 wc w.heap.size (.int .i64 kd) (.int .u64 a0) (.int .u64 a1) (.int .u64 a2) (.int .u64 a3) (.int .i64 lo) (.int .i64 hi) (.slice A n c)).heap.size) (fun i hhi hl => ⟨by have := hhi.1; omega, by have := hhi.2.1; have := (kept_set8 (Kept.refl (fun i => i = w.heap.size) wc) (.inl rfl) (.int .i64 kd) (.int .u64 a0) (.int .u64 a1) (.int .u64 a2) (.int .u64 a3) (.int .i64 lo) (.int .i64 hi) (.slice A n c)).size; omega⟩))
  go_wp2_with fail
  obtain ⟨⟨⟨d0, d1⟩, d2, d3⟩, ⟨d4, d5⟩, d6, d7⟩ := HF9.out.cells
  unfold set8 at d0 d1 d2 d3 d4 d5 d6 d7
  refine bodyPost_ret (v := .agg #[.int .i64 kd, .int .u64 a0, .int .u64 a1, .int .u64 a2, .int .u64 a3, .int .i64 lo, .int .i64 hi, .slice A n c]) (by simp [results, Tryd.results52, go_sem, d0, d1, d2, d3, d4, d5, d6, d7]) rfl ?_
  rw [HP.out]
  exact ⟨_, rfl, HV9.out, HG9.out, HK9.out⟩
end Go.Proofs.YtpiagfmjekcncaaDoor
