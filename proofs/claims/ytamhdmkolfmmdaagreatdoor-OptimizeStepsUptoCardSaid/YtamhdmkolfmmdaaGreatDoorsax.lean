/- What a plan without an error is, for the rules of optimize (plain Lean). -/
import Derived.Test.YtamhdmkolfmmdaaGreatDoorsaw
import Derived.Test.YtamhdmkolfmmdaaGreatDoorsaq
import Derived.Test.YtamhdmkolfmmdaaGreatDoorsaa
set_option linter.unusedVariables false
set_option linter.unusedSimpArgs false
namespace Go.Proofs.YtamhdmkolfmmdaaGreatDoor
open Go.RowKit
set_option maxRecDepth 100000
theorem z32 {P : Prop} (h : P := by
 have h3 : e = .returned (.bool true) ∧ (∃ vs9, EdX w5 base g gs cap l9 vs9 V) ∧ FrX base w4 w5 := h3
 obtain ⟨rfl, ⟨vs9, he9⟩, hf9⟩ := h3
 have HE9 := hD he9
 have HF9 := hD (((FrX.refl base w).below HB4.out hbase).trans hf9)
 exact z10) : P := h
theorem z10 {P : Prop} (h : P := by
 clear he9 hf9
 have HRN : Hid (R = some l9) := hD (by rw [HR.out]; rfl)
 go_wp2_with fail
 go_ret
 unfold RepEnd
 rw [HRN.out]
 exact ⟨rfl, ⟨_, HE9.out⟩, HF9.out⟩) : P := h
theorem z14 {P : Prop} (h : P := by
 have h3 : e = .returned (.bool true) ∧ (∃ vs9, EdX w3 base g gs cap l9 vs9 V) ∧ FrX base w2 w3 := h3
 obtain ⟨rfl, ⟨vs9, he9⟩, hf9⟩ := h3
 have HE9 := hD he9
 have HF9 := hD (((FrX.refl base w).below HB2.out hbase).trans hf9)
 clear he9 hf9
 have HRN : Hid (R = some l9) := hD HR.out
 go_wp2_with fail
 go_ret
 unfold RepEnd
 rw [HRN.out]
 exact ⟨rfl, ⟨_, HE9.out⟩, HF9.out⟩) : P := h
theorem z18 {P : Prop} (h : P := by
 have h3 : e = .returned (.bool false) ∧ Below w4.heap.size w4 w5 := h3
 obtain ⟨rfl, hb5⟩ := h3
 have HB5 := hD (HB4.out.trans (hb5.mono HB4.out.size))
 have HS5 := hD (HS4.out.below hb5 HS4.out.lt)
 clear hb5
 have HRN : Hid (R = none) := hD (by rw [HR.out]; rfl)
 go_wp2_with fail
 go_ret
 unfold RepEnd
 rw [HRN.out]
 exact ⟨rfl, HB5.out⟩) : P := h
theorem z21 {P : Prop} (h : P := by
 have h3 : e = .returned (.bool false) ∧ Below w2.heap.size w2 w3 := h3
 obtain ⟨rfl, hb3⟩ := h3
 have HB3 := hD (HB2.out.trans (hb3.mono HB2.out.size))
 clear hb3
 have HRN : Hid (R = none) := hD HR.out
 go_wp2_with fail
 go_ret
 unfold RepEnd
 rw [HRN.out]
 exact ⟨rfl, HB3.out⟩) : P := h
theorem y88 {P : Prop} (h : P := by
 have q0 : (i : Int) < (n : Int) := by omega
 have q1 : (0 : Int) ≤ (i : Int) := by omega
 have hgl := h.ed.lt
 have hgsl := h.gs_lt
 obtain ⟨num, hnum⟩ := xE s.num
 obtain ⟨text, htext⟩ := xE s.text
 obtain ⟨ty, hty⟩ := xE s.ty
 obtain ⟨k, hk⟩ := xE s.args.length
 rw [← hnum] at y2
 rw [← htext] at y3
 rw [← hty] at y4
 rw [← hk] at y1
 obtain ⟨q, c', hvq, _, hbq, hql, hc⟩ := ka8 ho (by omega)
 injection hvq with hA hkk hcc
 clear hkk
 subst hA hcc
 have a0 : w.cell? ⟨q, 0, none⟩ = some (.int .i64 j0) := hc 0 _ (by rw [List.getElem?_map, hj0]; rfl)
 have ea0 : Oz.arg s 0 = (j0 : Int) := by unfold Oz.arg; rw [List.getD_eq_getElem?_getD, hj0]; rfl
 have p0 : (0 : Int) < (k : Int) := by omega
 have pp0 : 0 < k := by omega
 first
 | guard_hyp t531q0
   first
   | guard_hyp t489q0
     first
     | guard_hyp t14q0
       have a1 : w.cell? ⟨q, 1, none⟩ = some (.int .i64 j1) := hc 1 _ (by rw [List.getElem?_map, hj1]; rfl)
       have ea1 : Oz.arg s 1 = (j1 : Int) := by unfold Oz.arg; rw [List.getD_eq_getElem?_getD, hj1]; rfl
       have p1 : (1 : Int) < (k : Int) := by omega
       have pp1 : 1 < k := by omega
     | skip
     have HN0 := hD (fun w h => kev g gs cap j0 l V t0 w h ht0)
     first
     | guard_hyp t14q0
       have HN1 := hD (fun w h => kev g gs cap j1 l V t1 w h ht1)
     | skip
     dsimp only at hR
     first
     | guard_hyp t14q0
       rw [hop, if_neg (by decide), if_neg (by decide), if_neg (by decide), if_pos rfl, ea0, ea1] at hR
     | guard_hyp t14q1
       rw [hop, if_neg (by decide), if_pos rfl, ea0] at hR
     | rw [hop, if_neg (by decide), if_neg (by decide), if_pos rfl, ea0] at hR
     unfold Oz.strR at hR
     first
     | guard_hyp t14q0
       rw [kad ht0, kad ht1] at hR
     | rw [kad ht0] at hR
     rw [hop] at y0
     first
     | guard_hyp t14q0
       unfold Oz.oCat at y0
     | guard_hyp t14q1
       unfold Oz.oLen at y0
     | unfold Oz.oLines at y0
     obtain ⟨v0, hv0, ⟨_, _, _, g3, _⟩, _⟩ := h.at_ ht0
     first
     | guard_hyp t14q0
       obtain ⟨v1, hv1, ⟨_, _, _, g4, _⟩, _⟩ := h.at_ ht1
     | skip
     have hjl := (gH ht0).1
     first
     | guard_hyp t14q0
       have hjl1 := (gH ht1).1
       rw [← hn] at hjl hjl1
     | rw [← hn] at hjl
     have q2 : (j0 : Int) < (n : Int) := by omega
     have q3 : (0 : Int) ≤ (j0 : Int) := by omega
     first
     | guard_hyp t14q0
       have q4 : (j1 : Int) < (n : Int) := by omega
       have q5 : (0 : Int) ≤ (j1 : Int) := by omega
       have q6 : j0 < n := by omega
       have q7 : j1 < n := by omega
       have q8 : i < n := by omega
     | skip
     obtain ⟨T, hT⟩ := xE t0.text
     first
     | guard_hyp t14q0
       obtain ⟨U, hU⟩ := xE t1.text
     | skip
     rw [← hT] at g3 hR
     first
     | guard_hyp t14q0
       rw [← hU] at g4 hR
     | skip
     have HTT := hD hT
     first
     | guard_hyp t14q0
       have HUU := hD hU
     | skip
     have HR := hD hR
     have HX0 := hD x0
     have HG3 := hD g3
     first
     | guard_hyp t14q0
       have HG4 := hD g4
       have HY : Hid (w.cell? ⟨gs, i * 5, none⟩ = some (.string ⟨#[43, 43]⟩) ∧ w.cell? ⟨gs, i * 5 + 1, none⟩ = some (.slice (some ⟨q, 0, none⟩) k c) ∧ w.cell? ⟨gs, i * 5 + 2, none⟩ = some (.int .i64 num) ∧ w.cell? ⟨gs, i * 5 + 3, none⟩ = some (.string ⟨text.toArray⟩) ∧ w.cell? ⟨gs, i * 5 + 4, none⟩ = some (.int .i64 ty)) := hD ⟨y0, y1, y2, y3, y4⟩
     | guard_hyp t14q1
       have HY : Hid (w.cell? ⟨gs, i * 5, none⟩ = some (.string ⟨#[108, 101, 110]⟩) ∧ w.cell? ⟨gs, i * 5 + 1, none⟩ = some (.slice (some ⟨q, 0, none⟩) k c) ∧ w.cell? ⟨gs, i * 5 + 2, none⟩ = some (.int .i64 num) ∧ w.cell? ⟨gs, i * 5 + 3, none⟩ = some (.string ⟨text.toArray⟩) ∧ w.cell? ⟨gs, i * 5 + 4, none⟩ = some (.int .i64 ty)) := hD ⟨y0, y1, y2, y3, y4⟩
     | have HY : Hid (w.cell? ⟨gs, i * 5, none⟩ = some (.string ⟨#[108, 105, 110, 101, 115]⟩) ∧ w.cell? ⟨gs, i * 5 + 1, none⟩ = some (.slice (some ⟨q, 0, none⟩) k c) ∧ w.cell? ⟨gs, i * 5 + 2, none⟩ = some (.int .i64 num) ∧ w.cell? ⟨gs, i * 5 + 3, none⟩ = some (.string ⟨text.toArray⟩) ∧ w.cell? ⟨gs, i * 5 + 4, none⟩ = some (.int .i64 ty)) := hD ⟨y0, y1, y2, y3, y4⟩
     have HA0 := hD a0
     first
     | guard_hyp t14q0
       have HA1 := hD a1
       clear h hs hv ho hn hop hl hj0 ht0 hj1 ht1 hk hnum htext hty hc ea0 a0 ea1 a1 hR hv0 hv1 g3 g4 hjl hjl1 hT hU
     | clear h hs hv ho hn hop hl hj0 ht0 hk hnum htext hty hc ea0 a0 hR hv0 g3 hjl hT
     go_enter Tryz.func68, Tryz.ntmps68
     first
     | guard_hyp t14q0
       go_upto_region 28 with (fail)
       obtain ⟨w1, hw1⟩ := xE (w.alloc (.cells #[.string ⟨#[43, 43]⟩, .slice (some ⟨q, 0, none⟩) k c, .int .i64 num, .string ⟨text.toArray⟩, .int .i64 ty] 77))
     | guard_hyp t14q1
       go_upto_region 19 with (fail)
       obtain ⟨w1, hw1⟩ := xE (w.alloc (.cells #[.string ⟨#[108, 101, 110]⟩, .slice (some ⟨q, 0, none⟩) k c, .int .i64 num, .string ⟨text.toArray⟩, .int .i64 ty] 77))
     | go_upto_region 19 with (fail)
       obtain ⟨w1, hw1⟩ := xE (w.alloc (.cells #[.string ⟨#[108, 105, 110, 101, 115]⟩, .slice (some ⟨q, 0, none⟩) k c, .int .i64 num, .string ⟨text.toArray⟩, .int .i64 ty] 77))
     rw [← hw1]
     have hb1 : Below w.heap.size w w1 := by rw [hw1]; exact kaa _ _
     first
     | guard_hyp t14q0
       have hblk : Blk w1 w.heap.size 77 #[.string ⟨#[43, 43]⟩, .slice (some ⟨q, 0, none⟩) k c, .int .i64 num, .string ⟨text.toArray⟩, .int .i64 ty] := by rw [hw1]; exact Blk.new _ _ _
     | guard_hyp t14q1
       have hblk : Blk w1 w.heap.size 77 #[.string ⟨#[108, 101, 110]⟩, .slice (some ⟨q, 0, none⟩) k c, .int .i64 num, .string ⟨text.toArray⟩, .int .i64 ty] := by rw [hw1]; exact Blk.new _ _ _
     | have hblk : Blk w1 w.heap.size 77 #[.string ⟨#[108, 105, 110, 101, 115]⟩, .slice (some ⟨q, 0, none⟩) k c, .int .i64 num, .string ⟨text.toArray⟩, .int .i64 ty] := by rw [hw1]; exact Blk.new _ _ _
     have HB1 := hD hb1
     have HS1 := hD hblk
     have s1 := hblk.cell 1
     simp only [gA, gB, gC] at s1
     have b0 := (hb1.cell (p := ⟨q, 0, none⟩) hql).trans HA0.out
     first
     | guard_hyp t14q0
       have b1 := (hb1.cell (p := ⟨q, 1, none⟩) hql).trans HA1.out
       clear hw1 hb1 hblk x0 y0 y1 y2 y3 y4
     | have HC0 := hD (HN0.out w1 (HH.out.below hb1).edAt)
       clear hw1 hb1 hblk x0 y0 y1 y2 y3 y4 HN0
     go_wp2_with fail
     first
     | guard_hyp t14q0
       go_quiet (fail)
       go_upto_region 29 with (fail)
       obtain ⟨w2, hw2⟩ := xE (w1.drewN nq)
       rw [← hw2]
       have HB2 : Hid (Below w.heap.size w w2) := hD (by rw [hw2]; exact kaf HB1.out _)
       clear hw2 s1 b0 b1 HB1 HS1
     | refine HC0.out.mono ?_
       rintro e w2 ⟨rfl, hb2⟩
       have HB2 := hD (HB1.out.trans (hb2.mono HB1.out.size))
       have hS2 := HS1.out.below hb2 HS1.out.lt
       have s2 := hS2.cell 0
       simp only [gA, gB, gC] at s2
     have g3 := (HB2.out.cell (p := ⟨gs, _, none⟩) hgsl).trans HG3.out
     first
     | guard_hyp t14q0
       have g4 := (HB2.out.cell (p := ⟨gs, _, none⟩) hgsl).trans HG4.out
     | skip
     have g0 := (HB2.out.cell (p := ⟨g, 0, none⟩) hgl).trans HX0.out
     first
     | guard_hyp t14q0
     | clear hb2 hS2 s1 b0 HC0 HB1 HS1
       rw [← HTT.out]
     obtain ⟨z0, hz0⟩ := xE (decide (t0.op = kai ∧ T.length ≤ 65536))
     first
     | guard_hyp t14q0
       obtain ⟨z1, hz1⟩ := xE (decide (t1.op = kai ∧ U.length ≤ 65536))
       rw [← hz0, ← hz1] at HR
       have HS0 : Hid (∀ d os, Calls Tryz.prog 113 #[.pointer (some ⟨g, 0, none⟩), .int .i64 j0] (Go.Sort.grow (redrawn w2 d) os) fun e w'' => e = .returned (.bool z0) ∧ ∃ p : Regrown, w'' = Go.Sort.grow (redrawn w2 p.d) p.os) := hD (fun d os => Calls.regrown_of (by
        have h := HN0.out _ ((HH.out.below HB2.out).edAt.below (below_regrown w2 d os))
        rw [← HTT.out, ← hz0] at h
        exact h))
       have HS1 : Hid (∀ d os, Calls Tryz.prog 113 #[.pointer (some ⟨g, 0, none⟩), .int .i64 j1] (Go.Sort.grow (redrawn w2 d) os) fun e w'' => e = .returned (.bool z1) ∧ ∃ p : Regrown, w'' = Go.Sort.grow (redrawn w2 p.d) p.os) := hD (fun d os => Calls.regrown_of (by
        have h := HN1.out _ ((HH.out.below HB2.out).edAt.below (below_regrown w2 d os))
        rw [← HUU.out, ← hz1] at h
        exact h))
     | rw [← hz0] at HR ⊢
     have HZ0 := hD hz0
     first
     | guard_hyp t14q0
       have HZ1 := hD hz1
       clear HN0 HN1 hz0 hz1
       cases z0 with
       | false =>
        have HRN : Hid (R = none) := hD (by rw [HR.out]; rfl)
        exact y68
       | true =>
       cases z1 with
       | false =>
        have HRN : Hid (R = none) := hD (by rw [HR.out]; rfl)
        exact y68
       | true =>
       have hzT := (of_decide_eq_true HZ0.out.symm).2
       have hzU := (of_decide_eq_true HZ1.out.symm).2
       have hw := IntWalk.i64_in ((T.length : Int) + (U.length : Int)) (by omega)
       by_cases hlen : T.length + U.length ≤ 65536
       ·
        obtain ⟨TU, hTU⟩ := xE (T ++ U)
        have HRN : Hid (R = some (l.set i (Oz.mk kai [] 0 TU 3))) := hD (by rw [HR.out, if_pos (by simpa using hlen), hTU])
        have hcat : ∀ W : World, (Op.stringOp .add ⟨T.toArray⟩ ⟨U.toArray⟩).run Tryz.prog W = .ok (.string ⟨TU.toArray⟩) W := fun W => by
         rw [run_string_add_sum W _ _ (by simp [ByteArray.size]; omega), ByteArray.mk_append_mk, hTU]
        clear hTU
        have hd : (T.length : Int) + (U.length : Int) ≤ 65536 := by omega
        have t511q0 := True.intro
        exact y68
       ·
        have HRN : Hid (R = none) := hD (by rw [HR.out, if_neg (by simpa using hlen)])
        have hd : ¬ ((T.length : Int) + (U.length : Int) ≤ 65536) := by omega
        exact y68
     | guard_hyp t14q1
       clear hz0
       cases z0 with
       | false =>
        have HRN : Hid (R = none) := hD (by rw [HR.out]; rfl)
        go_wp2_with fail
        go_ret
        unfold RepEnd
        rw [HRN.out]
        exact ⟨rfl, HB2.out⟩
       | true =>
        have HRN : Hid (R = some (l.set i (Oz.mk kab [] T.length [] 1))) := hD (by rw [HR.out]; rfl)
        clear g0
        have g0 := (HB2.out.cell (p := ⟨g, 0, none⟩) hgl).trans HX0.out
        have t517q0 := True.intro
        exact y74
     | clear hz0
       cases z0 with
       | false =>
        have HRN : Hid (R = none) := hD (by rw [HR.out]; rfl)
        go_wp2_with fail
        go_ret
        unfold RepEnd
        rw [HRN.out]
        exact ⟨rfl, HB2.out⟩
       | true =>
        have hz := (of_decide_eq_true HZ0.out.symm).2
        have hcl : (T.filter fun b => b = 10).length ≤ T.length := List.length_filter_le _ _
        obtain ⟨m, hm⟩ := xE ((T.filter fun b => b = 10).length)
        rw [← hm] at hcl
        have HRN : Hid (R = some (l.set i (Oz.mk kab [] (m + 1) [] 1))) := hD (by rw [HR.out, hm]; rfl)
        have HCN : Hid (∀ w : World, Calls Tryz.prog 88 #[.string ⟨T.toArray⟩, .string ⟨#[10]⟩] w fun e w' => e = .returned (.int .i64 m) ∧ w' = w) := hD (fun w => by
         refine (Tryz.strings_Count_one ⟨T.toArray⟩ 10 w).mono ?_
         rintro e w' ⟨he, hw⟩
         refine ⟨?_, hw⟩
         rw [he, hm]
         congr 2
         unfold Lib.countByte
         rw [List.count_eq_length_filter]
         rfl)
        have hw := IntWalk.i64_in ((m : Int) + 1) (by omega)
        clear hm hz
        go_wp2_with fail
        refine (HCN.out _).mono ?_
        rintro e w9 ⟨rfl, hw9⟩
        rw [hw9]
        clear hw9 w9
        clear g3 s2 g0
        exact y74
   | have a1 : w.cell? ⟨q, 1, none⟩ = some (.int .i64 j1) := hc 1 _ (by rw [List.getElem?_map, hj1]; rfl)
     have ea1 : Oz.arg s 1 = (j1 : Int) := by unfold Oz.arg; rw [List.getD_eq_getElem?_getD, hj1]; rfl
     have p1 : (1 : Int) < (k : Int) := by omega
     have pp1 : 1 < k := by omega
     have HN0 := hD (fun w h => kfd g gs cap j0 l V t0 w h ht0)
     have HN1 := hD (fun w h => kfd g gs cap j1 l V t1 w h ht1)
     dsimp only at hR
     rw [hop, if_pos (by decide), ea0, ea1] at hR
     unfold Oz.numR at hR
     rw [kad ht0, kad ht1] at hR
     rw [hop] at y0
     first
     | guard_hyp t38q0
       unfold Oz.oMin at y0
     | guard_hyp t38q1
       unfold Oz.oMul at y0
     | guard_hyp t38q2
       unfold Oz.oSub at y0
     | guard_hyp t38q3
       unfold Oz.oAdd at y0
     | unfold Oz.oMax at y0
     have HR := hD hR
     have HX0 := hD x0
     first
     | guard_hyp t38q0
       have HY : Hid (w.cell? ⟨gs, i * 5, none⟩ = some (.string ⟨#[109, 105, 110]⟩) ∧ w.cell? ⟨gs, i * 5 + 1, none⟩ = some (.slice (some ⟨q, 0, none⟩) k c) ∧ w.cell? ⟨gs, i * 5 + 2, none⟩ = some (.int .i64 num) ∧ w.cell? ⟨gs, i * 5 + 3, none⟩ = some (.string ⟨text.toArray⟩) ∧ w.cell? ⟨gs, i * 5 + 4, none⟩ = some (.int .i64 ty)) := hD ⟨y0, y1, y2, y3, y4⟩
     | guard_hyp t38q1
       have HY : Hid (w.cell? ⟨gs, i * 5, none⟩ = some (.string ⟨#[42]⟩) ∧ w.cell? ⟨gs, i * 5 + 1, none⟩ = some (.slice (some ⟨q, 0, none⟩) k c) ∧ w.cell? ⟨gs, i * 5 + 2, none⟩ = some (.int .i64 num) ∧ w.cell? ⟨gs, i * 5 + 3, none⟩ = some (.string ⟨text.toArray⟩) ∧ w.cell? ⟨gs, i * 5 + 4, none⟩ = some (.int .i64 ty)) := hD ⟨y0, y1, y2, y3, y4⟩
     | guard_hyp t38q2
       have HY : Hid (w.cell? ⟨gs, i * 5, none⟩ = some (.string ⟨#[45]⟩) ∧ w.cell? ⟨gs, i * 5 + 1, none⟩ = some (.slice (some ⟨q, 0, none⟩) k c) ∧ w.cell? ⟨gs, i * 5 + 2, none⟩ = some (.int .i64 num) ∧ w.cell? ⟨gs, i * 5 + 3, none⟩ = some (.string ⟨text.toArray⟩) ∧ w.cell? ⟨gs, i * 5 + 4, none⟩ = some (.int .i64 ty)) := hD ⟨y0, y1, y2, y3, y4⟩
     | guard_hyp t38q3
       have HY : Hid (w.cell? ⟨gs, i * 5, none⟩ = some (.string ⟨#[43]⟩) ∧ w.cell? ⟨gs, i * 5 + 1, none⟩ = some (.slice (some ⟨q, 0, none⟩) k c) ∧ w.cell? ⟨gs, i * 5 + 2, none⟩ = some (.int .i64 num) ∧ w.cell? ⟨gs, i * 5 + 3, none⟩ = some (.string ⟨text.toArray⟩) ∧ w.cell? ⟨gs, i * 5 + 4, none⟩ = some (.int .i64 ty)) := hD ⟨y0, y1, y2, y3, y4⟩
     | have HY : Hid (w.cell? ⟨gs, i * 5, none⟩ = some (.string ⟨#[109, 97, 120]⟩) ∧ w.cell? ⟨gs, i * 5 + 1, none⟩ = some (.slice (some ⟨q, 0, none⟩) k c) ∧ w.cell? ⟨gs, i * 5 + 2, none⟩ = some (.int .i64 num) ∧ w.cell? ⟨gs, i * 5 + 3, none⟩ = some (.string ⟨text.toArray⟩) ∧ w.cell? ⟨gs, i * 5 + 4, none⟩ = some (.int .i64 ty)) := hD ⟨y0, y1, y2, y3, y4⟩
     have HA0 := hD a0
     have HA1 := hD a1
     clear h hs hv ho hn hop hl hj0 hj1 ht0 ht1 hk hnum htext hty hc ea0 ea1 a0 a1 hR
     go_enter Tryz.func68, Tryz.ntmps68
     go_upto_region 8 with (fail)
     first
     | guard_hyp t38q0
       obtain ⟨w1, hw1⟩ := xE (w.alloc (.cells #[.string ⟨#[109, 105, 110]⟩, .slice (some ⟨q, 0, none⟩) k c, .int .i64 num, .string ⟨text.toArray⟩, .int .i64 ty] 77))
     | guard_hyp t38q1
       obtain ⟨w1, hw1⟩ := xE (w.alloc (.cells #[.string ⟨#[42]⟩, .slice (some ⟨q, 0, none⟩) k c, .int .i64 num, .string ⟨text.toArray⟩, .int .i64 ty] 77))
     | guard_hyp t38q2
       obtain ⟨w1, hw1⟩ := xE (w.alloc (.cells #[.string ⟨#[45]⟩, .slice (some ⟨q, 0, none⟩) k c, .int .i64 num, .string ⟨text.toArray⟩, .int .i64 ty] 77))
     | guard_hyp t38q3
       obtain ⟨w1, hw1⟩ := xE (w.alloc (.cells #[.string ⟨#[43]⟩, .slice (some ⟨q, 0, none⟩) k c, .int .i64 num, .string ⟨text.toArray⟩, .int .i64 ty] 77))
     | obtain ⟨w1, hw1⟩ := xE (w.alloc (.cells #[.string ⟨#[109, 97, 120]⟩, .slice (some ⟨q, 0, none⟩) k c, .int .i64 num, .string ⟨text.toArray⟩, .int .i64 ty] 77))
     rw [← hw1]
     have hb1 : Below w.heap.size w w1 := by rw [hw1]; exact kaa _ _
     first
     | guard_hyp t38q0
       have hblk : Blk w1 w.heap.size 77 #[.string ⟨#[109, 105, 110]⟩, .slice (some ⟨q, 0, none⟩) k c, .int .i64 num, .string ⟨text.toArray⟩, .int .i64 ty] := by rw [hw1]; exact Blk.new _ _ _
     | guard_hyp t38q1
       have hblk : Blk w1 w.heap.size 77 #[.string ⟨#[42]⟩, .slice (some ⟨q, 0, none⟩) k c, .int .i64 num, .string ⟨text.toArray⟩, .int .i64 ty] := by rw [hw1]; exact Blk.new _ _ _
     | guard_hyp t38q2
       have hblk : Blk w1 w.heap.size 77 #[.string ⟨#[45]⟩, .slice (some ⟨q, 0, none⟩) k c, .int .i64 num, .string ⟨text.toArray⟩, .int .i64 ty] := by rw [hw1]; exact Blk.new _ _ _
     | guard_hyp t38q3
       have hblk : Blk w1 w.heap.size 77 #[.string ⟨#[43]⟩, .slice (some ⟨q, 0, none⟩) k c, .int .i64 num, .string ⟨text.toArray⟩, .int .i64 ty] := by rw [hw1]; exact Blk.new _ _ _
     | have hblk : Blk w1 w.heap.size 77 #[.string ⟨#[109, 97, 120]⟩, .slice (some ⟨q, 0, none⟩) k c, .int .i64 num, .string ⟨text.toArray⟩, .int .i64 ty] := by rw [hw1]; exact Blk.new _ _ _
     have HB1 := hD hb1
     have HS1 := hD hblk
     have s1 := hblk.cell 1
     simp only [gA, gB, gC] at s1
     have b0 := (hb1.cell (p := ⟨q, 0, none⟩) hql).trans HA0.out
     have HC0 := hD (HN0.out w1 (HH.out.below hb1).edAt)
     clear hw1 hb1 hblk x0 y0 y1 y2 y3 y4 HN0
     go_wp2_with fail
     refine HC0.out.mono ?_
     rintro e w2 ⟨rfl, hb2⟩
     have HB2 := hD (HB1.out.trans (hb2.mono HB1.out.size))
     have hS2 := HS1.out.below hb2 HS1.out.lt
     have HS2 := hD hS2
     have s2 := hS2.cell 1
     simp only [gA, gB, gC] at s2
     have b1 := (HB2.out.cell (p := ⟨q, 1, none⟩) hql).trans HA1.out
     have HC1 := hD (HN1.out w2 (HH.out.below HB2.out).edAt)
     clear hb2 hS2 s1 b0 HC0 HN1 HB1 HS1
     obtain ⟨z0, hz0⟩ := xE (decide (t0.op = kab ∧ t0.num ≤ Oz.maxLn))
     rw [← hz0]
     have HZ0 := hD hz0
     clear hz0
     go_wp2_with fail
     refine HC1.out.mono ?_
     rintro e w3 ⟨rfl, hb3⟩
     have HB3 := hD (HB2.out.trans (hb3.mono HB2.out.size))
     have hS3 := HS2.out.below hb3 HS2.out.lt
     have s3 := hS3.cell 0
     simp only [gA, gB] at s3
     clear hb3 hS3 s2 b1 HC1 HB2 HS2
     obtain ⟨z1, hz1⟩ := xE (decide (t1.op = kab ∧ t1.num ≤ Oz.maxLn))
     rw [← hz1]
     have HZ1 := hD hz1
     clear hz1
     obtain ⟨x, hx⟩ := xE t0.num
     obtain ⟨y, hy⟩ := xE t1.num
     have HXN := hD hx
     have HYN := hD hy
     have HN0 := hD hn0
     have HN1 := hD hn1
     rw [← hx, ← hy]
     clear hx hy hn0 hn1
     cases z0 with
     | false =>
      have hz := of_decide_eq_false HZ0.out.symm
      have HRN : Hid (R = none) := hD (by rw [HR.out, if_neg hz])
      clear hz
      go_wp2_with fail
      go_ret
      unfold RepEnd
      rw [HRN.out]
      exact ⟨rfl, HB3.out⟩
     | true =>
     have hz := of_decide_eq_true HZ0.out.symm
     cases z1 with
     | false =>
      have hz1 := of_decide_eq_false HZ1.out.symm
      have HRN : Hid (R = none) := hD (by rw [HR.out, if_pos hz, if_neg hz1])
      clear hz hz1
      go_wp2_with fail
      go_ret
      unfold RepEnd
      rw [HRN.out]
      exact ⟨rfl, HB3.out⟩
     | true =>
     have hz1 := of_decide_eq_true HZ1.out.symm
     first
     | guard_hyp t38q0
       have HCM := hD (kcj Oz.oMin (by decide) x y (by rw [HXN.out]; exact HN0.out) (by rw [HXN.out]; exact hz.2) (by rw [HYN.out]; exact HN1.out) (by rw [HYN.out]; exact hz1.2) w3)
       have HRM : Hid (R = (Oz.computeR Oz.oMin x y).map fun n => l.set i (Oz.mk kab [] n [] 1)) := hD (by rw [HR.out, if_pos hz, if_pos hz1, ← HXN.out, ← HYN.out])
     | guard_hyp t38q1
       have HCM := hD (kcj Oz.oMul (by decide) x y (by rw [HXN.out]; exact HN0.out) (by rw [HXN.out]; exact hz.2) (by rw [HYN.out]; exact HN1.out) (by rw [HYN.out]; exact hz1.2) w3)
       have HRM : Hid (R = (Oz.computeR Oz.oMul x y).map fun n => l.set i (Oz.mk kab [] n [] 1)) := hD (by rw [HR.out, if_pos hz, if_pos hz1, ← HXN.out, ← HYN.out])
     | guard_hyp t38q2
       have HCM := hD (kcj Oz.oSub (by decide) x y (by rw [HXN.out]; exact HN0.out) (by rw [HXN.out]; exact hz.2) (by rw [HYN.out]; exact HN1.out) (by rw [HYN.out]; exact hz1.2) w3)
       have HRM : Hid (R = (Oz.computeR Oz.oSub x y).map fun n => l.set i (Oz.mk kab [] n [] 1)) := hD (by rw [HR.out, if_pos hz, if_pos hz1, ← HXN.out, ← HYN.out])
     | guard_hyp t38q3
       have HCM := hD (kcj Oz.oAdd (by decide) x y (by rw [HXN.out]; exact HN0.out) (by rw [HXN.out]; exact hz.2) (by rw [HYN.out]; exact HN1.out) (by rw [HYN.out]; exact hz1.2) w3)
       have HRM : Hid (R = (Oz.computeR Oz.oAdd x y).map fun n => l.set i (Oz.mk kab [] n [] 1)) := hD (by rw [HR.out, if_pos hz, if_pos hz1, ← HXN.out, ← HYN.out])
     | have HCM := hD (kcj Oz.oMax (by decide) x y (by rw [HXN.out]; exact HN0.out) (by rw [HXN.out]; exact hz.2) (by rw [HYN.out]; exact HN1.out) (by rw [HYN.out]; exact hz1.2) w3)
       have HRM : Hid (R = (Oz.computeR Oz.oMax x y).map fun n => l.set i (Oz.mk kab [] n [] 1)) := hD (by rw [HR.out, if_pos hz, if_pos hz1, ← HXN.out, ← HYN.out])
     clear hz hz1
     go_wp2_with fail
     refine HCM.out.mono ?_
     clear HCM
     rintro e w4 ⟨hb4, hcm⟩
     have HB4 := hD (HB3.out.trans (hb4.mono HB3.out.size))
     first
     | guard_hyp t38q0
       obtain ⟨o, ho⟩ := xE (Oz.computeR Oz.oMin x y)
     | guard_hyp t38q1
       obtain ⟨o, ho⟩ := xE (Oz.computeR Oz.oMul x y)
     | guard_hyp t38q2
       obtain ⟨o, ho⟩ := xE (Oz.computeR Oz.oSub x y)
     | guard_hyp t38q3
       obtain ⟨o, ho⟩ := xE (Oz.computeR Oz.oAdd x y)
     | obtain ⟨o, ho⟩ := xE (Oz.computeR Oz.oMax x y)
     rw [← ho] at hcm
     have HO := hD ho
     clear hb4 s3 ho
     cases o with
     | none =>
      obtain ⟨z, rfl⟩ := hcm
      have HRN : Hid (R = none) := hD (by rw [HRM.out, ← HO.out]; rfl)
      go_wp2_with fail
      go_ret
      unfold RepEnd
      rw [HRN.out]
      exact ⟨rfl, HB4.out⟩
     | some m =>
      dsimp only at hcm
      subst hcm
      have HRN : Hid (R = some (l.set i (Oz.mk kab [] m [] 1))) := hD (by rw [HRM.out, ← HO.out]; rfl)
      have HW := HB4
      have hcW := fun m => HW.out.cell (p := ⟨gs, m, none⟩) hgsl
      have c0 := (HW.out.cell (p := ⟨g, 0, none⟩) hgl).trans HX0.out
      have d0 := (hcW _).trans HY.out.1
      have d1 := (hcW _).trans HY.out.2.1
      have d2 := (hcW _).trans HY.out.2.2.1
      have d3 := (hcW _).trans HY.out.2.2.2.1
      have d4 := (hcW _).trans HY.out.2.2.2.2
      obtain ⟨f0, f1, f2, f3, f4⟩ : w4.frozen? ⟨gs, i * 5, none⟩ = false ∧ w4.frozen? ⟨gs, i * 5 + 1, none⟩ = false ∧ w4.frozen? ⟨gs, i * 5 + 2, none⟩ = false ∧ w4.frozen? ⟨gs, i * 5 + 3, none⟩ = false ∧ w4.frozen? ⟨gs, i * 5 + 4, none⟩ = false := by
       obtain ⟨cs, e1, _⟩ := (HH.out.below HW.out).blk
       exact ⟨e1.frozen _, e1.frozen _, e1.frozen _, e1.frozen _, e1.frozen _⟩
      have hp := HH.out.putFresh HW.out HI.out (Oz.mk kab [] m [] 1) (.slice none 0 0) (World.ownsRow_nil _ _ _ _)
      have HP := hD hp.1
      have HF := hD hp.2
      clear hp hcW
      go_wp2_with fail
      go_ret
      unfold RepEnd
      rw [HRN.out]
      exact ⟨rfl, ⟨_, HP.out⟩, HF.out⟩
 | first
   | guard_hyp t488q0
     have a1 : w.cell? ⟨q, 1, none⟩ = some (.int .i64 j1) := hc 1 _ (by rw [List.getElem?_map, hj1]; rfl)
     have ea1 : Oz.arg s 1 = (j1 : Int) := by unfold Oz.arg; rw [List.getD_eq_getElem?_getD, hj1]; rfl
     have p1 : (1 : Int) < (k : Int) := by omega
     have pp1 : 1 < k := by omega
     rw [ea0, ea1] at hR
     first
     | guard_hyp t24q0
       rw [hop, if_neg (by decide), if_neg (by decide), if_neg (by decide), if_neg (by decide), if_pos (by decide)] at hR
       obtain ⟨z1, hz1⟩ := xE (decide (t1.op = kai ∧ t1.text = []))
       have ez1 : Oz.emptyR l (j1 : Int) = z1 := by unfold Oz.emptyR; rw [kad ht1, hz1]
       have HC1 : Hid (∀ w : World, EdAt w g gs cap l V → Calls Tryz.prog 115 #[.pointer (some ⟨g, 0, none⟩), .int .i64 j1] w fun e w' => e = .returned (.bool z1) ∧ Below w.heap.size w w') := hD (fun w h => by rw [hz1]; exact keJ g gs cap j1 l V t1 w h ht1)
     | guard_hyp t24q1
       rw [hop, if_pos (by decide)] at hR
       obtain ⟨z1, hz1⟩ := xE (decide (t1.op = kab ∧ t1.num = 0))
       have ez1 : Oz.isR l (j1 : Int) 0 = z1 := by unfold Oz.isR; rw [kad ht1, hz1]
       have HC1 : Hid (∀ w : World, EdAt w g gs cap l V → Calls Tryz.prog 114 #[.pointer (some ⟨g, 0, none⟩), .int .i64 j1, .int .i64 0] w fun e w' => e = .returned (.bool z1) ∧ Below w.heap.size w w') := hD (fun w h => by rw [hz1]; exact kcJ g gs cap j1 l V t1 w h ht1 0)
     | guard_hyp t24q2
       rw [hop, if_neg (by decide), if_neg (by decide), if_pos (by decide)] at hR
       obtain ⟨z1, hz1⟩ := xE (decide (t1.op = kab ∧ t1.num = 1))
       have ez1 : Oz.isR l (j1 : Int) 1 = z1 := by unfold Oz.isR; rw [kad ht1, hz1]
       have HC1 : Hid (∀ w : World, EdAt w g gs cap l V → Calls Tryz.prog 114 #[.pointer (some ⟨g, 0, none⟩), .int .i64 j1, .int .i64 1] w fun e w' => e = .returned (.bool z1) ∧ Below w.heap.size w w') := hD (fun w h => by rw [hz1]; exact kcJ g gs cap j1 l V t1 w h ht1 1)
     | guard_hyp t24q3
       rw [hop, if_neg (by decide), if_pos (by decide)] at hR
       obtain ⟨z1, hz1⟩ := xE (decide (t1.op = kab ∧ t1.num = 0))
       have ez1 : Oz.isR l (j1 : Int) 0 = z1 := by unfold Oz.isR; rw [kad ht1, hz1]
       have HC1 : Hid (∀ w : World, EdAt w g gs cap l V → Calls Tryz.prog 114 #[.pointer (some ⟨g, 0, none⟩), .int .i64 j1, .int .i64 0] w fun e w' => e = .returned (.bool z1) ∧ Below w.heap.size w w') := hD (fun w h => by rw [hz1]; exact kcJ g gs cap j1 l V t1 w h ht1 0)
     | rw [hop, if_neg (by decide), if_neg (by decide), if_neg (by decide), if_neg (by decide), if_neg (by decide), if_pos (by decide)] at hR
       obtain ⟨z1, hz1⟩ := xE (decide (t1.op = kab ∧ t1.num = 1))
       have ez1 : Oz.isR l (j1 : Int) 1 = z1 := by unfold Oz.isR; rw [kad ht1, hz1]
       have HC1 : Hid (∀ w : World, EdAt w g gs cap l V → Calls Tryz.prog 114 #[.pointer (some ⟨g, 0, none⟩), .int .i64 j1, .int .i64 1] w fun e w' => e = .returned (.bool z1) ∧ Below w.heap.size w w') := hD (fun w h => by rw [hz1]; exact kcJ g gs cap j1 l V t1 w h ht1 1)
     rw [ez1] at hR
     clear hz1 ez1
     first
     | guard_hyp t24q0
       obtain ⟨z0, hz0⟩ := xE (decide (t0.op = kai ∧ t0.text = []))
       have ez0 : Oz.emptyR l (j0 : Int) = z0 := by unfold Oz.emptyR; rw [kad ht0, hz0]
       have HC0 : Hid (∀ w : World, EdAt w g gs cap l V → Calls Tryz.prog 115 #[.pointer (some ⟨g, 0, none⟩), .int .i64 j0] w fun e w' => e = .returned (.bool z0) ∧ Below w.heap.size w w') := hD (fun w h => by rw [hz0]; exact keJ g gs cap j0 l V t0 w h ht0)
       rw [ez0] at hR
       clear hz0 ez0
     | guard_hyp t24q1
       obtain ⟨z0, hz0⟩ := xE (decide (t0.op = kab ∧ t0.num = 0))
       have ez0 : Oz.isR l (j0 : Int) 0 = z0 := by unfold Oz.isR; rw [kad ht0, hz0]
       have HC0 : Hid (∀ w : World, EdAt w g gs cap l V → Calls Tryz.prog 114 #[.pointer (some ⟨g, 0, none⟩), .int .i64 j0, .int .i64 0] w fun e w' => e = .returned (.bool z0) ∧ Below w.heap.size w w') := hD (fun w h => by rw [hz0]; exact kcJ g gs cap j0 l V t0 w h ht0 0)
       rw [ez0] at hR
       clear hz0 ez0
     | guard_hyp t24q2
       obtain ⟨z0, hz0⟩ := xE (decide (t0.op = kab ∧ t0.num = 1))
       have ez0 : Oz.isR l (j0 : Int) 1 = z0 := by unfold Oz.isR; rw [kad ht0, hz0]
       have HC0 : Hid (∀ w : World, EdAt w g gs cap l V → Calls Tryz.prog 114 #[.pointer (some ⟨g, 0, none⟩), .int .i64 j0, .int .i64 1] w fun e w' => e = .returned (.bool z0) ∧ Below w.heap.size w w') := hD (fun w h => by rw [hz0]; exact kcJ g gs cap j0 l V t0 w h ht0 1)
       rw [ez0] at hR
       clear hz0 ez0
     | skip
     obtain ⟨r0, hr0⟩ := xE (Oz.replaceR l i j0)
     have HP0 : Hid (∀ w : World, EdX w base g gs cap l vs V → Calls Tryz.prog 110 #[.pointer (some ⟨g, 0, none⟩), .int .i64 i, .int .i64 j0] w (RepEnd base g gs cap l vs V r0 w)) := hD (fun w h => by rw [hr0]; exact ka5 base g gs cap i j0 l vs V w h hi0 HI.out HBB.out)
     rw [Int.toNat_natCast, ← hr0] at hR
     clear hr0
     first
     | (first | guard_hyp t24q3 | guard_hyp t24q4)
     | obtain ⟨r1, hr1⟩ := xE (Oz.replaceR l i j1)
       have HP1 : Hid (∀ w : World, EdX w base g gs cap l vs V → Calls Tryz.prog 110 #[.pointer (some ⟨g, 0, none⟩), .int .i64 i, .int .i64 j1] w (RepEnd base g gs cap l vs V r1 w)) := hD (fun w h => by rw [hr1]; exact ka5 base g gs cap i j1 l vs V w h hi1 HI.out HBB.out)
       rw [Int.toNat_natCast, ← hr1] at hR
       clear hr1
     have HX0 := hD x0
     have HA0 := hD a0
     have HA1 := hD a1
     have HR := hD hR
     rw [hop] at y0
     first
     | guard_hyp t24q0
       unfold Oz.oCat at y0
     | guard_hyp t24q1
       unfold Oz.oAdd at y0
     | guard_hyp t24q2
       unfold Oz.oMul at y0
     | guard_hyp t24q3
       unfold Oz.oSub at y0
     | unfold Oz.oRep at y0
     clear h hs hb hv ho hn hop hl hk hnum htext hty hc hR hj0 ht0 hi0 ea0 a0 hj1 ht1 hi1 ea1 a1
     go_enter Tryz.func69, Tryz.ntmps69
     first
     | guard_hyp t24q0
       go_upto_region 17 with (fail)
       obtain ⟨w1, hw1⟩ := xE (w.alloc (.cells #[.string ⟨#[43, 43]⟩, .slice (some ⟨q, 0, none⟩) k c, .int .i64 num, .string ⟨text.toArray⟩, .int .i64 ty] 77))
     | guard_hyp t24q1
       go_upto_region 4 with (fail)
       obtain ⟨w1, hw1⟩ := xE (w.alloc (.cells #[.string ⟨#[43]⟩, .slice (some ⟨q, 0, none⟩) k c, .int .i64 num, .string ⟨text.toArray⟩, .int .i64 ty] 77))
     | guard_hyp t24q2
       go_upto_region 8 with (fail)
       obtain ⟨w1, hw1⟩ := xE (w.alloc (.cells #[.string ⟨#[42]⟩, .slice (some ⟨q, 0, none⟩) k c, .int .i64 num, .string ⟨text.toArray⟩, .int .i64 ty] 77))
     | guard_hyp t24q3
       go_upto_region 6 with (fail)
       obtain ⟨w1, hw1⟩ := xE (w.alloc (.cells #[.string ⟨#[45]⟩, .slice (some ⟨q, 0, none⟩) k c, .int .i64 num, .string ⟨text.toArray⟩, .int .i64 ty] 77))
     | go_upto_region 19 with (fail)
       obtain ⟨w1, hw1⟩ := xE (w.alloc (.cells #[.string ⟨#[114, 101, 112]⟩, .slice (some ⟨q, 0, none⟩) k c, .int .i64 num, .string ⟨text.toArray⟩, .int .i64 ty] 77))
     rw [← hw1]
     have HB1 : Hid (Below w.heap.size w w1) := hD (by rw [hw1]; exact kaa _ _)
     first
     | guard_hyp t24q0
       have HS1 : Hid (Blk w1 w.heap.size 77 #[.string ⟨#[43, 43]⟩, .slice (some ⟨q, 0, none⟩) k c, .int .i64 num, .string ⟨text.toArray⟩, .int .i64 ty]) := hD (by rw [hw1]; exact Blk.new _ _ _)
     | guard_hyp t24q1
       have HS1 : Hid (Blk w1 w.heap.size 77 #[.string ⟨#[43]⟩, .slice (some ⟨q, 0, none⟩) k c, .int .i64 num, .string ⟨text.toArray⟩, .int .i64 ty]) := hD (by rw [hw1]; exact Blk.new _ _ _)
     | guard_hyp t24q2
       have HS1 : Hid (Blk w1 w.heap.size 77 #[.string ⟨#[42]⟩, .slice (some ⟨q, 0, none⟩) k c, .int .i64 num, .string ⟨text.toArray⟩, .int .i64 ty]) := hD (by rw [hw1]; exact Blk.new _ _ _)
     | guard_hyp t24q3
       have HS1 : Hid (Blk w1 w.heap.size 77 #[.string ⟨#[45]⟩, .slice (some ⟨q, 0, none⟩) k c, .int .i64 num, .string ⟨text.toArray⟩, .int .i64 ty]) := hD (by rw [hw1]; exact Blk.new _ _ _)
     | have HS1 : Hid (Blk w1 w.heap.size 77 #[.string ⟨#[114, 101, 112]⟩, .slice (some ⟨q, 0, none⟩) k c, .int .i64 num, .string ⟨text.toArray⟩, .int .i64 ty]) := hD (by rw [hw1]; exact Blk.new _ _ _)
     clear hw1 x0 y0 y1 y2 y3 y4
     have s1 := HS1.out.cell 1
     simp only [gA, gB, gC] at s1
     have b1_0 := (HB1.out.cell (p := ⟨q, 0, none⟩) hql).trans HA0.out
     have b1_1 := (HB1.out.cell (p := ⟨q, 1, none⟩) hql).trans HA1.out
     go_wp2_with fail
     refine (HC1.out w1 (HH.out.below HB1.out).edAt).mono ?_
     rintro e w2 ⟨rfl, hb2⟩
     have HB2 := hD (HB1.out.trans (hb2.mono HB1.out.size))
     have HS2 := hD (HS1.out.below hb2 HS1.out.lt)
     clear s1 b1_0 b1_1
     clear hb2
     cases z1 with
     | false =>
      first
      | (first | guard_hyp t24q3 | guard_hyp t24q4)
        have HRN : Hid (R = none) := hD (by rw [HR.out]; rfl)
      | have s2 := HS2.out.cell 1
        simp only [gA, gB, gC] at s2
        have b2_0 := (HB2.out.cell (p := ⟨q, 0, none⟩) hql).trans HA0.out
        have b2_1 := (HB2.out.cell (p := ⟨q, 1, none⟩) hql).trans HA1.out
      go_wp2_with fail
      first
      | (first | guard_hyp t24q3 | guard_hyp t24q4)
        go_ret
        unfold RepEnd
        rw [HRN.out]
        exact ⟨rfl, HB2.out⟩
      | refine (HC0.out w2 (HH.out.below HB2.out).edAt).mono ?_
        rintro e w3 ⟨rfl, hb3⟩
        have HB3 := hD (HB2.out.trans (hb3.mono HB2.out.size))
        have HS3 := hD (HS2.out.below hb3 HS2.out.lt)
        clear s2 b2_0 b2_1
        clear hb3
        cases z0 with
        | false =>
         have HRN : Hid (R = none) := hD (by rw [HR.out]; rfl)
         go_wp2_with fail
         go_ret
         unfold RepEnd
         rw [HRN.out]
         exact ⟨rfl, HB3.out⟩
        | true =>
         have s3 := HS3.out.cell 1
         simp only [gA, gB, gC] at s3
         have b3_0 := (HB3.out.cell (p := ⟨q, 0, none⟩) hql).trans HA0.out
         have b3_1 := (HB3.out.cell (p := ⟨q, 1, none⟩) hql).trans HA1.out
         go_wp2_with fail
         refine (HP1.out w3 (HH.out.below HB3.out)).mono ?_
         intro e w4 h3
         clear s3 b3_0 b3_1
         cases r1 with
         | none =>
          have h3 : e = .returned (.bool false) ∧ Below w3.heap.size w3 w4 := h3
          obtain ⟨rfl, hb4⟩ := h3
          have HB4 := hD (HB3.out.trans (hb4.mono HB3.out.size))
          have HS4 := hD (HS3.out.below hb4 HS3.out.lt)
          clear hb4
          have HRN : Hid (R = none) := hD (by rw [HR.out]; rfl)
          go_wp2_with fail
          go_ret
          unfold RepEnd
          rw [HRN.out]
          exact ⟨rfl, HB4.out⟩
         | some l9 =>
          have h3 : e = .returned (.bool true) ∧ (∃ vs9, EdX w4 base g gs cap l9 vs9 V) ∧ FrX base w3 w4 := h3
          obtain ⟨rfl, ⟨vs9, he9⟩, hf9⟩ := h3
          have HE9 := hD he9
          have HF9 := hD (((FrX.refl base w).below HB3.out hbase).trans hf9)
          exact z10
     | true =>
      have s2 := HS2.out.cell 1
      simp only [gA, gB, gC] at s2
      have b2_0 := (HB2.out.cell (p := ⟨q, 0, none⟩) hql).trans HA0.out
      have b2_1 := (HB2.out.cell (p := ⟨q, 1, none⟩) hql).trans HA1.out
      go_wp2_with fail
      refine (HP0.out w2 (HH.out.below HB2.out)).mono ?_
      intro e w3 h3
      clear s2 b2_0 b2_1
      cases r0 with
      | none =>
       have h3 : e = .returned (.bool false) ∧ Below w2.heap.size w2 w3 := h3
       obtain ⟨rfl, hb3⟩ := h3
       have HB3 := hD (HB2.out.trans (hb3.mono HB2.out.size))
       have HS3 := hD (HS2.out.below hb3 HS2.out.lt)
       clear hb3
       first
       | (first | guard_hyp t24q3 | guard_hyp t24q4)
         have HRN : Hid (R = none) := hD (by rw [HR.out]; rfl)
       | have s3 := HS3.out.cell 1
         simp only [gA, gB, gC] at s3
         have b3_0 := (HB3.out.cell (p := ⟨q, 0, none⟩) hql).trans HA0.out
         have b3_1 := (HB3.out.cell (p := ⟨q, 1, none⟩) hql).trans HA1.out
       go_wp2_with fail
       first
       | (first | guard_hyp t24q3 | guard_hyp t24q4)
         go_ret
         unfold RepEnd
         rw [HRN.out]
         exact ⟨rfl, HB3.out⟩
       | refine (HC0.out w3 (HH.out.below HB3.out).edAt).mono ?_
         rintro e w4 ⟨rfl, hb4⟩
         have HB4 := hD (HB3.out.trans (hb4.mono HB3.out.size))
         have HS4 := hD (HS3.out.below hb4 HS3.out.lt)
         clear s3 b3_0 b3_1
         clear hb4
         cases z0 with
         | false =>
          have HRN : Hid (R = none) := hD (by rw [HR.out]; rfl)
          go_wp2_with fail
          go_ret
          unfold RepEnd
          rw [HRN.out]
          exact ⟨rfl, HB4.out⟩
         | true =>
          have s4 := HS4.out.cell 1
          simp only [gA, gB, gC] at s4
          have b4_0 := (HB4.out.cell (p := ⟨q, 0, none⟩) hql).trans HA0.out
          have b4_1 := (HB4.out.cell (p := ⟨q, 1, none⟩) hql).trans HA1.out
          go_wp2_with fail
          refine (HP1.out w4 (HH.out.below HB4.out)).mono ?_
          intro e w5 h3
          clear s4 b4_0 b4_1
          cases r1 with
          | none =>
           exact z18
          | some l9 =>
           exact z32
      | some l9 =>
       have h3 : e = .returned (.bool true) ∧ (∃ vs9, EdX w3 base g gs cap l9 vs9 V) ∧ FrX base w2 w3 := h3
       obtain ⟨rfl, ⟨vs9, he9⟩, hf9⟩ := h3
       have HE9 := hD he9
       have HF9 := hD (((FrX.refl base w).below HB2.out hbase).trans hf9)
       exact z10
   | guard_hyp t488q1
     have a1 : w.cell? ⟨q, 1, none⟩ = some (.int .i64 j1) := hc 1 _ (by rw [List.getElem?_map, hj1]; rfl)
     have ea1 : Oz.arg s 1 = (j1 : Int) := by unfold Oz.arg; rw [List.getD_eq_getElem?_getD, hj1]; rfl
     have p1 : (1 : Int) < (k : Int) := by omega
     have pp1 : 1 < k := by omega
     rw [ea0, ea1] at hR
     rw [hop, if_neg (by decide), if_neg (by decide), if_neg (by decide), if_pos (by decide)] at hR
     obtain ⟨r0, hr0⟩ := xE (Oz.replaceR l i j0)
     have HP0 : Hid (∀ w : World, EdX w base g gs cap l vs V → Calls Tryz.prog 110 #[.pointer (some ⟨g, 0, none⟩), .int .i64 i, .int .i64 j0] w (RepEnd base g gs cap l vs V r0 w)) := hD (fun w h => by rw [hr0]; exact ka5 base g gs cap i j0 l vs V w h hi0 HI.out HBB.out)
     rw [Int.toNat_natCast, ← hr0] at hR
     clear hr0
     by_cases hjj : j0 = j1
     ·
      subst hjj
      rw [if_pos rfl] at hR
      have HX0 := hD x0
      have HA0 := hD a0
      have HA1 := hD a1
      have HR := hD hR
      rw [hop] at y0
      first
      | guard_hyp t47q0
        unfold Oz.oWithin at y0
      | guard_hyp t47q1
        unfold Oz.oOr at y0
      | guard_hyp t47q2
        unfold Oz.oAnd at y0
      | guard_hyp t47q3
        unfold Oz.oMax at y0
      | guard_hyp t47q4
        unfold Oz.oMin at y0
      | unfold Oz.oUnion at y0
      have t510q0 := True.intro
      exact y67
     ·
      have e1 : ((j0 : Int) == (j1 : Int)) = false := beq_eq_false_iff_ne.2 (by omega)
      rw [if_neg (by omega)] at hR
      have HX0 := hD x0
      have HA0 := hD a0
      have HA1 := hD a1
      have HR := hD hR
      rw [hop] at y0
      first
      | guard_hyp t47q0
        unfold Oz.oWithin at y0
      | guard_hyp t47q1
        unfold Oz.oOr at y0
      | guard_hyp t47q2
        unfold Oz.oAnd at y0
      | guard_hyp t47q3
        unfold Oz.oMax at y0
      | guard_hyp t47q4
        unfold Oz.oMin at y0
      | unfold Oz.oUnion at y0
      clear hjj
      exact y67
   | guard_hyp t488q2
     have a1 : w.cell? ⟨q, 1, none⟩ = some (.int .i64 j1) := hc 1 _ (by rw [List.getElem?_map, hj1]; rfl)
     have ea1 : Oz.arg s 1 = (j1 : Int) := by unfold Oz.arg; rw [List.getD_eq_getElem?_getD, hj1]; rfl
     have p1 : (1 : Int) < (k : Int) := by omega
     have pp1 : 1 < k := by omega
     have a2 : w.cell? ⟨q, 2, none⟩ = some (.int .i64 j2) := hc 2 _ (by rw [List.getElem?_map, hj2]; rfl)
     have ea2 : Oz.arg s 2 = (j2 : Int) := by unfold Oz.arg; rw [List.getD_eq_getElem?_getD, hj2]; rfl
     have p2 : (2 : Int) < (k : Int) := by omega
     have pp2 : 2 < k := by omega
     rw [ea0, ea1, ea2] at hR
     rw [hop, if_neg (by decide), if_neg (by decide), if_neg (by decide), if_neg (by decide), if_neg (by decide), if_neg (by decide), if_pos (by decide)] at hR
     rw [kad ht2] at hR
     obtain ⟨z1, hz1⟩ := xE (decide (t1.op = kab ∧ t1.num = 0))
     have ez1 : Oz.isR l (j1 : Int) 0 = z1 := by unfold Oz.isR; rw [kad ht1, hz1]
     have HC1 : Hid (∀ w : World, EdAt w g gs cap l V → Calls Tryz.prog 114 #[.pointer (some ⟨g, 0, none⟩), .int .i64 j1, .int .i64 0] w fun e w' => e = .returned (.bool z1) ∧ Below w.heap.size w w') := hD (fun w h => by rw [hz1]; exact kcJ g gs cap j1 l V t1 w h ht1 0)
     rw [ez1] at hR
     clear hz1 ez1
     obtain ⟨r0, hr0⟩ := xE (Oz.replaceR l i j0)
     have HP0 : Hid (∀ w : World, EdX w base g gs cap l vs V → Calls Tryz.prog 110 #[.pointer (some ⟨g, 0, none⟩), .int .i64 i, .int .i64 j0] w (RepEnd base g gs cap l vs V r0 w)) := hD (fun w h => by rw [hr0]; exact ka5 base g gs cap i j0 l vs V w h hi0 HI.out HBB.out)
     rw [Int.toNat_natCast, ← hr0] at hR
     clear hr0
     obtain ⟨v2, hv2, ⟨z0, z1, z2, z3, z4⟩, ho2⟩ := h.at_ ht2
     obtain ⟨A2, c2, rfl⟩ := kak ho2
     obtain ⟨k2, hk2⟩ := xE t2.args.length
     rw [← hk2] at z1
     obtain ⟨X, hX⟩ := xE t2.text
     rw [← hX] at z3
     obtain ⟨num2, hnum2⟩ := xE t2.num
     rw [← hnum2] at z2
     obtain ⟨ty2, hty2⟩ := xE t2.ty
     rw [← hty2] at z4
     have hjl := (gH ht2).1
     rw [← hn] at hjl
     have q2 : (j2 : Int) < (n : Int) := by omega
     have q3 : (0 : Int) ≤ (j2 : Int) := by omega
     have q4 : j2 < n := by omega
     first
     | guard_hyp t23q0
       obtain ⟨r, c3, hvr, _, hbr, hrl, hcr⟩ := ka8 ho2 (by have := (gH hm).1; omega)
       injection hvr with hA hkk hcc
       clear hkk
       subst hA hcc
       have b9 : w.cell? ⟨r, 0, none⟩ = some (.int .i64 m) := hcr 0 _ (by rw [List.getElem?_map, hm]; rfl)
       have em : Oz.arg t2 0 = (m : Int) := by unfold Oz.arg; rw [List.getD_eq_getElem?_getD, hm]; rfl
       have hk3 : 0 < k2 := by have := (gH hm).1; omega
       have p9 : (0 : Int) < (k2 : Int) := by omega
       rw [hop2] at z0
       unfold Oz.oLen at z0
       clear hcr
       subst hmm
       have hW : (decide (t2.op = Oz.oLen) && decide (Oz.arg t2 0 = (m : Int))) = true := by rw [decide_eq_true hop2, em, decide_eq_true rfl]; rfl
       have e9 : ((m : Int) == (m : Int)) = true := by simp
     | guard_hyp t23q1
       obtain ⟨r, c3, hvr, _, hbr, hrl, hcr⟩ := ka8 ho2 (by have := (gH hm).1; omega)
       injection hvr with hA hkk hcc
       clear hkk
       subst hA hcc
       have b9 : w.cell? ⟨r, 0, none⟩ = some (.int .i64 m) := hcr 0 _ (by rw [List.getElem?_map, hm]; rfl)
       have em : Oz.arg t2 0 = (m : Int) := by unfold Oz.arg; rw [List.getD_eq_getElem?_getD, hm]; rfl
       have hk3 : 0 < k2 := by have := (gH hm).1; omega
       have p9 : (0 : Int) < (k2 : Int) := by omega
       rw [hop2] at z0
       unfold Oz.oLen at z0
       clear hcr
       have hW : (decide (t2.op = Oz.oLen) && decide (Oz.arg t2 0 = (j0 : Int))) = false := by rw [em, decide_eq_false (p := (m : Int) = (j0 : Int)) (fun e => hmm (by omega))]; simp
       have e9 : ((m : Int) == (j0 : Int)) = false := beq_eq_false_iff_ne.2 (by omega)
     | have hW : (decide (t2.op = Oz.oLen) && decide (Oz.arg t2 0 = (j0 : Int))) = false := by rw [decide_eq_false hop2]; rfl
       have e9 : (t2.op == [108, 101, 110]) = false := beq_eq_false_iff_ne.2 hop2
     rw [hW] at hR
     have HX0 := hD x0
     have HA0 := hD a0
     have HA1 := hD a1
     have HA2 := hD a2
     have HR := hD hR
     rw [hop] at y0
     unfold Oz.oCut at y0
     first
     | guard_hyp t23q0
       have HB9 := hD b9
       clear h hs hb hv ho hn hop hl hk hnum htext hty hc hR hj0 ht0 hi0 ea0 a0 hj1 ht1 hi1 ea1 a1 hj2 ht2 hi2 ea2 a2 hv2 ho2 hk2 hX hnum2 hty2 hjl hW hop2 hm em hk3
     | guard_hyp t23q1
       have HB9 := hD b9
       clear h hs hb hv ho hn hop hl hk hnum htext hty hc hR hj0 ht0 hi0 ea0 a0 hj1 ht1 hi1 ea1 a1 hj2 ht2 hi2 ea2 a2 hv2 ho2 hk2 hX hnum2 hty2 hjl hW hop2 hm em hk3 hmm
     | clear h hs hb hv ho hn hop hl hk hnum htext hty hc hR hj0 ht0 hi0 ea0 a0 hj1 ht1 hi1 ea1 a1 hj2 ht2 hi2 ea2 a2 hv2 ho2 hk2 hX hnum2 hty2 hjl hW hop2
     go_enter Tryz.func69, Tryz.ntmps69
     go_upto_region 21 with (fail)
     obtain ⟨w1, hw1⟩ := xE (w.alloc (.cells #[.string ⟨#[99, 117, 116]⟩, .slice (some ⟨q, 0, none⟩) k c, .int .i64 num, .string ⟨text.toArray⟩, .int .i64 ty] 77))
     rw [← hw1]
     have HB1 : Hid (Below w.heap.size w w1) := hD (by rw [hw1]; exact kaa _ _)
     have HS1 : Hid (Blk w1 w.heap.size 77 #[.string ⟨#[99, 117, 116]⟩, .slice (some ⟨q, 0, none⟩) k c, .int .i64 num, .string ⟨text.toArray⟩, .int .i64 ty]) := hD (by rw [hw1]; exact Blk.new _ _ _)
     clear hw1 x0 y0 y1 y2 y3 y4
     have g0 := (HB1.out.cell (p := ⟨g, 0, none⟩) hgl).trans HX0.out
     have g1 := (HB1.out.cell (p := ⟨gs, _, none⟩) hgsl).trans z0
     have g2 := (HB1.out.cell (p := ⟨gs, _, none⟩) hgsl).trans z1
     have g3 := (HB1.out.cell (p := ⟨gs, _, none⟩) hgsl).trans z2
     have g4 := (HB1.out.cell (p := ⟨gs, _, none⟩) hgsl).trans z3
     have g5 := (HB1.out.cell (p := ⟨gs, _, none⟩) hgsl).trans z4
     have s1 := HS1.out.cell 1
     simp only [gA, gB, gC] at s1
     have b1_0 := (HB1.out.cell (p := ⟨q, 0, none⟩) hql).trans HA0.out
     have b1_1 := (HB1.out.cell (p := ⟨q, 1, none⟩) hql).trans HA1.out
     have b1_2 := (HB1.out.cell (p := ⟨q, 2, none⟩) hql).trans HA2.out
     have l1 := HS1.out.lt
     have l2 : g < w1.heap.size := Nat.lt_of_lt_of_le hgl HB1.out.size
     have l3 : gs < w1.heap.size := Nat.lt_of_lt_of_le hgsl HB1.out.size
     have l4 : q < w1.heap.size := Nat.lt_of_lt_of_le hql HB1.out.size
     go_region
     clear l1 l2 l3 l4
     first
     | guard_hyp t23q2
       obtain ⟨w2, hw2⟩ := xE ((w1.alloc (.cells #[.string ⟨t2.op.toArray⟩, .slice A2 k2 c2, .int .i64 num2, .string ⟨X.toArray⟩, .int .i64 ty2] 77)).drew)
     | obtain ⟨w2, hw2⟩ := xE ((w1.alloc (.cells #[.string ⟨#[108, 101, 110]⟩, .slice (some ⟨r, 0, none⟩) k2 c2, .int .i64 num2, .string ⟨X.toArray⟩, .int .i64 ty2] 77)).drew)
     rw [← hw2]
     have hb2 : Below w1.heap.size w1 w2 := by rw [hw2]; exact (kaa _ _).drew
     have HB2 := hD (HB1.out.trans (hb2.mono HB1.out.size))
     have HS2 := hD (HS1.out.below hb2 HS1.out.lt)
     first
     | guard_hyp t23q2
       have HT2 : Hid (Blk w2 w1.heap.size 77 #[.string ⟨t2.op.toArray⟩, .slice A2 k2 c2, .int .i64 num2, .string ⟨X.toArray⟩, .int .i64 ty2]) := hD (by rw [hw2]; exact (Blk.new _ _ _).drew)
     | have HT2 : Hid (Blk w2 w1.heap.size 77 #[.string ⟨#[108, 101, 110]⟩, .slice (some ⟨r, 0, none⟩) k2 c2, .int .i64 num2, .string ⟨X.toArray⟩, .int .i64 ty2]) := hD (by rw [hw2]; exact (Blk.new _ _ _).drew)
     clear hw2 hb2 g0 g1 g2 g3 g4 g5 z0 z1 z2 z3 z4
     clear s1 b1_0 b1_1 b1_2
     have u0 := HT2.out.cell 0
     have u1 := HT2.out.cell 1
     simp only [gA, gB, gC] at u0 u1
     first
     | guard_hyp t23q2
     | have b9' := (HB2.out.cell (p := ⟨r, 0, none⟩) hrl).trans HB9.out
     have s2 := HS2.out.cell 1
     simp only [gA, gB, gC] at s2
     have b2_0 := (HB2.out.cell (p := ⟨q, 0, none⟩) hql).trans HA0.out
     have b2_1 := (HB2.out.cell (p := ⟨q, 1, none⟩) hql).trans HA1.out
     have b2_2 := (HB2.out.cell (p := ⟨q, 2, none⟩) hql).trans HA2.out
     go_wp2_with fail
     go_quiet (fail)
     go_upto_region 23 with (fail)
     obtain ⟨w3, hw3⟩ := xE (w2.drewN nq)
     rw [← hw3]
     have HB3 : Hid (Below w.heap.size w w3) := hD (by rw [hw3]; exact kaf HB2.out _)
     have HS3 : Hid (Blk w3 w.heap.size 77 #[.string ⟨#[99, 117, 116]⟩, .slice (some ⟨q, 0, none⟩) k c, .int .i64 num, .string ⟨text.toArray⟩, .int .i64 ty]) := hD (by rw [hw3]; exact HS2.out.drewN _)
     clear hw3 u0 u1
     clear s2 b2_0 b2_1 b2_2
     first
     | guard_hyp t23q2
     | clear b9'
     have s3 := HS3.out.cell 1
     simp only [gA, gB, gC] at s3
     have b3_0 := (HB3.out.cell (p := ⟨q, 0, none⟩) hql).trans HA0.out
     have b3_1 := (HB3.out.cell (p := ⟨q, 1, none⟩) hql).trans HA1.out
     have b3_2 := (HB3.out.cell (p := ⟨q, 2, none⟩) hql).trans HA2.out
     go_wp2_with fail
     refine (HC1.out w3 (HH.out.below HB3.out).edAt).mono ?_
     rintro e w4 ⟨rfl, hb4⟩
     have HB4 := hD (HB3.out.trans (hb4.mono HB3.out.size))
     first
     | guard_hyp t23q0
       have HS4 := hD (HS3.out.below hb4 HS3.out.lt)
     | clear hb4
     clear s3 b3_0 b3_1 b3_2
     first
     | guard_hyp t23q0
       clear hb4
     | have HRN : Hid (R = none) := hD (by rw [HR.out]; cases z1 <;> rfl)
     cases z1 with
     | false =>
      first
      | guard_hyp t23q0
        have HRN : Hid (R = none) := hD (by rw [HR.out]; rfl)
      | skip
      go_wp2_with fail
      go_ret
      unfold RepEnd
      rw [HRN.out]
      exact ⟨rfl, HB4.out⟩
     | true =>
      first
      | guard_hyp t23q0
        have s4 := HS4.out.cell 1
        simp only [gA, gB, gC] at s4
        have b4_0 := (HB4.out.cell (p := ⟨q, 0, none⟩) hql).trans HA0.out
        have b4_1 := (HB4.out.cell (p := ⟨q, 1, none⟩) hql).trans HA1.out
        have b4_2 := (HB4.out.cell (p := ⟨q, 2, none⟩) hql).trans HA2.out
      | skip
      go_wp2_with fail
      first
      | guard_hyp t23q0
        refine (HP0.out w4 (HH.out.below HB4.out)).mono ?_
        intro e w5 h3
        clear s4 b4_0 b4_1 b4_2
        cases r0 with
        | none =>
         exact z18
        | some l9 =>
         exact z32
      | go_ret
        unfold RepEnd
        rw [HRN.out]
        exact ⟨rfl, HB4.out⟩
   | rw [ea0] at hR
     have ea1 := True.intro
     rw [hop, if_neg (by decide), if_neg (by decide), if_neg (by decide), if_neg (by decide), if_neg (by decide), if_neg (by decide), if_neg (by decide), if_pos (by decide)] at hR
     rw [kad ht0] at hR
     obtain ⟨v2, hv2, ⟨z0, z1, z2, z3, z4⟩, ho2⟩ := h.at_ ht0
     obtain ⟨A2, c2, rfl⟩ := kak ho2
     obtain ⟨k2, hk2⟩ := xE t0.args.length
     rw [← hk2] at z1
     obtain ⟨X, hX⟩ := xE t0.text
     rw [← hX] at z3
     obtain ⟨num2, hnum2⟩ := xE t0.num
     rw [← hnum2] at z2
     obtain ⟨ty2, hty2⟩ := xE t0.ty
     rw [← hty2] at z4
     have hjl := (gH ht0).1
     rw [← hn] at hjl
     have q2 : (j0 : Int) < (n : Int) := by omega
     have q3 : (0 : Int) ≤ (j0 : Int) := by omega
     have q4 : j0 < n := by omega
     first
     | guard_hyp t39q0
       obtain ⟨r, c3, hvr, _, hbr, hrl, hcr⟩ := ka8 ho2 (by have := (gH hm).1; omega)
       injection hvr with hA hkk hcc
       clear hkk
       subst hA hcc
       have b9 : w.cell? ⟨r, 0, none⟩ = some (.int .i64 m) := hcr 0 _ (by rw [List.getElem?_map, hm]; rfl)
       have em : Oz.arg t0 0 = (m : Int) := by unfold Oz.arg; rw [List.getD_eq_getElem?_getD, hm]; rfl
       have hk3 : 0 < k2 := by have := (gH hm).1; omega
       have p9 : (0 : Int) < (k2 : Int) := by omega
       rw [hop2] at z0
       unfold Oz.oNot at z0
       clear hcr
       rw [if_pos hop2, em] at hR
       obtain ⟨r0, hr0⟩ := xE (Oz.replaceR l i m)
       have HP0 : Hid (∀ w : World, EdX w base g gs cap l vs V → Calls Tryz.prog 110 #[.pointer (some ⟨g, 0, none⟩), .int .i64 i, .int .i64 m] w (RepEnd base g gs cap l vs V r0 w)) := hD (fun w h => by rw [hr0]; exact ka5 base g gs cap i m l vs V w h hmi HI.out HBB.out)
       rw [Int.toNat_natCast, ← hr0] at hR
       clear hr0
     | rw [if_neg hop2] at hR
       have e9 : (t0.op == [110, 111, 116]) = false := beq_eq_false_iff_ne.2 hop2
     have HX0 := hD x0
     have HA0 := hD a0
     have HR := hD hR
     rw [hop] at y0
     unfold Oz.oNot at y0
     first
     | guard_hyp t39q0
       have HB9 := hD b9
       clear h hs hb hv ho hn hop hl hk hnum htext hty hc hR hj0 ht0 hi0 ea0 ea1 a0 hv2 ho2 hk2 hX hnum2 hty2 hjl hop2 hm em hk3
     | clear h hs hb hv ho hn hop hl hk hnum htext hty hc hR hj0 ht0 hi0 ea0 ea1 a0 hv2 ho2 hk2 hX hnum2 hty2 hjl hop2
     go_enter Tryz.func69, Tryz.ntmps69
     go_upto_region 25 with (fail)
     obtain ⟨w1, hw1⟩ := xE (w.alloc (.cells #[.string ⟨#[110, 111, 116]⟩, .slice (some ⟨q, 0, none⟩) k c, .int .i64 num, .string ⟨text.toArray⟩, .int .i64 ty] 77))
     rw [← hw1]
     have HB1 : Hid (Below w.heap.size w w1) := hD (by rw [hw1]; exact kaa _ _)
     have HS1 : Hid (Blk w1 w.heap.size 77 #[.string ⟨#[110, 111, 116]⟩, .slice (some ⟨q, 0, none⟩) k c, .int .i64 num, .string ⟨text.toArray⟩, .int .i64 ty]) := hD (by rw [hw1]; exact Blk.new _ _ _)
     clear hw1 x0 y0 y1 y2 y3 y4
     have g0 := (HB1.out.cell (p := ⟨g, 0, none⟩) hgl).trans HX0.out
     have g1 := (HB1.out.cell (p := ⟨gs, _, none⟩) hgsl).trans z0
     have g2 := (HB1.out.cell (p := ⟨gs, _, none⟩) hgsl).trans z1
     have g3 := (HB1.out.cell (p := ⟨gs, _, none⟩) hgsl).trans z2
     have g4 := (HB1.out.cell (p := ⟨gs, _, none⟩) hgsl).trans z3
     have g5 := (HB1.out.cell (p := ⟨gs, _, none⟩) hgsl).trans z4
     have s1 := HS1.out.cell 1
     simp only [gA, gB, gC] at s1
     have b1_0 := (HB1.out.cell (p := ⟨q, 0, none⟩) hql).trans HA0.out
     have l1 := HS1.out.lt
     have l2 : g < w1.heap.size := Nat.lt_of_lt_of_le hgl HB1.out.size
     have l3 : gs < w1.heap.size := Nat.lt_of_lt_of_le hgsl HB1.out.size
     have l4 : q < w1.heap.size := Nat.lt_of_lt_of_le hql HB1.out.size
     go_region
     clear l1 l2 l3 l4
     first
     | guard_hyp t39q0
       obtain ⟨w2, hw2⟩ := xE ((w1.alloc (.cells #[.string ⟨#[110, 111, 116]⟩, .slice (some ⟨r, 0, none⟩) k2 c2, .int .i64 num2, .string ⟨X.toArray⟩, .int .i64 ty2] 77)).drew)
     | obtain ⟨w2, hw2⟩ := xE ((w1.alloc (.cells #[.string ⟨t0.op.toArray⟩, .slice A2 k2 c2, .int .i64 num2, .string ⟨X.toArray⟩, .int .i64 ty2] 77)).drew)
     rw [← hw2]
     have hb2 : Below w1.heap.size w1 w2 := by rw [hw2]; exact (kaa _ _).drew
     have HB2 := hD (HB1.out.trans (hb2.mono HB1.out.size))
     have HS2 := hD (HS1.out.below hb2 HS1.out.lt)
     first
     | guard_hyp t39q0
       have HT2 : Hid (Blk w2 w1.heap.size 77 #[.string ⟨#[110, 111, 116]⟩, .slice (some ⟨r, 0, none⟩) k2 c2, .int .i64 num2, .string ⟨X.toArray⟩, .int .i64 ty2]) := hD (by rw [hw2]; exact (Blk.new _ _ _).drew)
     | have HT2 : Hid (Blk w2 w1.heap.size 77 #[.string ⟨t0.op.toArray⟩, .slice A2 k2 c2, .int .i64 num2, .string ⟨X.toArray⟩, .int .i64 ty2]) := hD (by rw [hw2]; exact (Blk.new _ _ _).drew)
     clear hw2 hb2 g0 g1 g2 g3 g4 g5 z0 z1 z2 z3 z4
     clear s1 b1_0
     have u0 := HT2.out.cell 0
     first
     | guard_hyp t39q0
       have u1 := HT2.out.cell 1
       simp only [gA, gB, gC] at u0 u1
       have b9' := (HB2.out.cell (p := ⟨r, 0, none⟩) hrl).trans HB9.out
     | simp only [gA, gB, gC] at u0
       have HRN : Hid (R = none) := HR
     go_wp2_with fail
     first
     | guard_hyp t39q0
       refine (HP0.out w2 (HH.out.below HB2.out)).mono ?_
       intro e w3 h3
       clear u0 u1 b9'
       cases r0 with
       | none =>
        exact z21
       | some l9 =>
        exact z14
     | go_ret
       unfold RepEnd
       rw [HRN.out]
       exact ⟨rfl, HB2.out⟩) : P := h
theorem y26 {P : Prop} (h : P := by
 have hil := (gH hs).1
 have x0 := h.ed.cell 0
 simp only [gA, gB] at x0
 obtain ⟨v, hv, ⟨y0, y1, y2, y3, y4⟩, ho⟩ := h.at_ hs
 first
 | guard_hyp t121q0
   obtain ⟨A, c, rfl⟩ := kak ho
   obtain ⟨R, hR⟩ := xE (Oz.neutralR l i)
 | guard_hyp t121q1
   obtain ⟨R, hR⟩ := xE (Oz.negateR l i)
 | guard_hyp t121q2
   obtain ⟨R, hR⟩ := xE (Oz.lenCutR l i)
 | guard_hyp t121q3
   obtain ⟨R, hR⟩ := xE (Oz.matchesR l i)
 | guard_hyp t121q4
   obtain ⟨R, hR⟩ := xE (Oz.firstFindR l i)
 | guard_hyp t121q5
   obtain ⟨R, hR⟩ := xE (Oz.lenRepR l i)
 | obtain ⟨R, hR⟩ := xE (Oz.lenSumR l i)
 rw [← hR]
 first
 | guard_hyp t121q0
   unfold Oz.neutralR at hR
 | guard_hyp t121q1
   unfold Oz.negateR at hR
 | guard_hyp t121q2
   unfold Oz.lenCutR at hR
 | guard_hyp t121q3
   unfold Oz.matchesR at hR
 | guard_hyp t121q4
   unfold Oz.firstFindR at hR
 | guard_hyp t121q5
   unfold Oz.lenRepR at hR
 | unfold Oz.lenSumR at hR
 rw [kad hs] at hR
 first
 | guard_hyp t121q0
   dsimp only at hR
   have HRN : Hid (R = none) := hD (by rw [hR, if_neg h0, if_neg h1, if_neg h2, if_neg (by simp only [not_or]; exact ⟨h3, h4, h5, h6, h7, h8⟩), if_neg h9, if_neg h10, if_neg h11, if_neg h12])
 | guard_hyp t121q1
   dsimp only at hR
   have HRN : Hid (R = none) := hD (by rw [hR, if_pos (.inl hop)])
 | guard_hyp t121q5
   have HRN : Hid (R = none) := hD (by rw [hR, if_pos (hop)])
 | guard_hyp t121q6
   have HRN : Hid (R = none) := hD (by rw [hR, if_pos (.inl hop)])
 | have HRN : Hid (R = none) := hD (by rw [hR, if_pos hop])
 obtain ⟨n, hn⟩ := xE l.length
 rw [← hn] at hil x0
 have q0 : (i : Int) < (n : Int) := by omega
 have q1 : (0 : Int) ≤ (i : Int) := by omega
 first
 | guard_hyp t121q0
   have e0 : (s.op == [43]) = false := beq_eq_false_iff_ne.2 h0
   have e1 : (s.op == [45]) = false := beq_eq_false_iff_ne.2 h1
   have e2 : (s.op == [42]) = false := beq_eq_false_iff_ne.2 h2
   have e3 : (s.op == [109, 105, 110]) = false := beq_eq_false_iff_ne.2 h3
   have e4 : (s.op == [109, 97, 120]) = false := beq_eq_false_iff_ne.2 h4
   have e5 : (s.op == [97, 110, 100]) = false := beq_eq_false_iff_ne.2 h5
   have e6 : (s.op == [111, 114]) = false := beq_eq_false_iff_ne.2 h6
   have e7 : (s.op == [117, 110, 105, 111, 110]) = false := beq_eq_false_iff_ne.2 h7
   have e8 : (s.op == [119, 105, 116, 104, 105, 110]) = false := beq_eq_false_iff_ne.2 h8
   have e9 : (s.op == [43, 43]) = false := beq_eq_false_iff_ne.2 h9
   have e10 : (s.op == [114, 101, 112]) = false := beq_eq_false_iff_ne.2 h10
   have e11 : (s.op == [99, 117, 116]) = false := beq_eq_false_iff_ne.2 h11
   have e12 : (s.op == [110, 111, 116]) = false := beq_eq_false_iff_ne.2 h12
   clear h hs hv ho hn hR h0 h1 h2 h3 h4 h5 h6 h7 h8 h9 h10 h11 h12
   go_enter Tryz.func69, Tryz.ntmps69
 | guard_hyp t121q1
   have e1 : (s.op == [110, 111, 116]) = false := beq_eq_false_iff_ne.2 hop
   clear h hs hv ho hn hR hop
   go_enter Tryz.func70, Tryz.ntmps70
 | guard_hyp t121q2
   have e1 : (s.op == [108, 101, 110]) = false := beq_eq_false_iff_ne.2 hop
   clear h hs hv ho hn hR hop
   go_enter Tryz.func74, Tryz.ntmps74
 | guard_hyp t121q3
   have e1 : (s.op == [115, 105, 122, 101]) = false := beq_eq_false_iff_ne.2 hop
   clear h hs hv ho hn hR hop
   go_enter Tryz.func72, Tryz.ntmps72
 | guard_hyp t121q4
   have e1 : (s.op == [102, 105, 114, 115, 116]) = false := beq_eq_false_iff_ne.2 hop
   clear h hs hv ho hn hR hop
   go_enter Tryz.func73, Tryz.ntmps73
 | guard_hyp t121q5
   have e1 : (s.op == [108, 101, 110]) = false := beq_eq_false_iff_ne.2 hop
   clear h hs hv ho hn hR hop
   go_enter Tryz.func76, Tryz.ntmps76
 | have e1 : (s.op == [108, 101, 110]) = false := beq_eq_false_iff_ne.2 hop
   clear h hs hv ho hn hR hop
   go_enter Tryz.func75, Tryz.ntmps75
 go_wp2_with fail
 go_ret
 first
 | (first | guard_hyp t121q5 | guard_hyp t121q6)
   unfold kax
 | unfold RepEnd
 rw [HRN.out]
 first
 | guard_hyp t121q0
   exact ⟨rfl, kaa _ _⟩
 | exact ⟨rfl, Below.refl _ _⟩) : P := h
section
variable {l : List St} (h : kac l = 0)
include h
theorem ka2 {i : Nat} {s : St} (hs : l[i]? = some s) : ∃ o, Fine l i s o := kdd ((kbK h).2.2 i s hs)
theorem kcc : ∀ s ∈ l, s.args.length ≤ 3 ∧ ∀ a ∈ s.args, 0 ≤ a ∧ a ≤ 100000 := fun s hs => by
 obtain ⟨i, hi⟩ := List.getElem?_of_mem hs
 obtain ⟨o, f⟩ := ka2 h hi
 have hil := (gH hi).1
 have hn := (kbK h).2.1
 refine ⟨by rw [f.len]; exact kcZ f.op, fun a ha => ?_⟩
 have := f.back a ha
 omega
theorem kbC : ∀ s ∈ l, s.args.length ≤ 3 ∧ ∀ a ∈ s.args, 0 ≤ a ∧ a < (l.length : Int) := fun s hs => by
 obtain ⟨i, hi⟩ := List.getElem?_of_mem hs
 obtain ⟨o, f⟩ := ka2 h hi
 have hil := (gH hi).1
 refine ⟨by rw [f.len]; exact kcZ f.op, fun a ha => ?_⟩
 have := f.back a ha
 omega
theorem kae {i : Nat} {s : St} (hs : l[i]? = some s) (k : Nat) (ho : (opR s.op).map (fun o => o.args.length) = some k) : s.args.length = k := by
 obtain ⟨o, f⟩ := ka2 h hs
 rw [f.op] at ho
 injection ho with ho
 rw [f.len, ← ho]
theorem kah {i : Nat} {s : St} (hs : l[i]? = some s) {k : Nat} (hk : k < s.args.length) : ∃ (j : Nat) (t : St), s.args[k]? = some (j : Int) ∧ j < i ∧ l[j]? = some t ∧ Oz.arg s k = (j : Int) ∧ Oz.at_ l (j : Int) = t := by
 obtain ⟨o, f⟩ := ka2 h hs
 have hil := (gH hs).1
 obtain ⟨a, ha⟩ : ∃ a, s.args[k]? = some a := ⟨_, List.getElem?_eq_getElem hk⟩
 have hb := f.back a (List.mem_of_getElem? ha)
 obtain ⟨j, rfl⟩ : ∃ j : Nat, a = (j : Int) := ⟨a.toNat, by omega⟩
 have hji : j < i := by omega
 obtain ⟨t, ht⟩ : ∃ t, l[j]? = some t := ⟨_, List.getElem?_eq_getElem (by omega)⟩
 refine ⟨j, t, ha, hji, ht, ?_, kad ht⟩
 unfold Oz.arg
 rw [List.getD_eq_getElem?_getD, ha]
 rfl
end
end Go.Proofs.YtamhdmkolfmmdaaGreatDoor
