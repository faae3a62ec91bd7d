/- The walk of the law PlanAgain. -/
import Derived.Test.YtniefnjcimempaaqAl56
import Derived.Test.YtniefnjcimempaaqAgS
import Derived.Test.YtniefnjcimempaaqStp
import Derived.Test.YtniefnjcimempaaqSame
import Derived.Lib.QuietBelow
namespace Go.Proofs.Ytniefnjcimempaa
open Go.RowKit
theorem expr_cells {w : World} {g : Nat} {k n : Int} {t : ByteArray} {s : Value} (h : Blk w g 31 #[.int .i64 k, .string t, .int .i64 n, s]) : w.cell? ⟨g, 0, none⟩ = some (.int .i64 k) ∧ w.cell? ⟨g, 1, none⟩ = some (.string t) ∧ w.cell? ⟨g, 2, none⟩ = some (.int .i64 n) ∧ w.cell? ⟨g, 3, none⟩ = some s := by
  refine ⟨?_, ?_, ?_, ?_⟩ <;> rw [h.cell] <;> rfl
set_option maxRecDepth 100000 in
set_option maxHeartbeats 4000000 in
theorem again_any (A : Option Addr) (c : Nat) (l : List St) (w : World) (h : ArgPl w A l) (hn : l.length ≤ 2000000) (ha : ∀ s ∈ l, s.args.length ≤ 2000000 ∧ s.text.length ≤ 9223372036854775807) :
    Calls Try.prog 4 #[.slice A l.length c] w (AwEnd w) := by
  have HA := Lib.hid h
  have HM := Lib.hid ha
  clear h ha
  go_enter Try.func4, Try.ntmps4
  go_wp2_with fail
  refine (alive56_any _).mono ?_
  rintro e w1 ⟨rfl, hb1⟩
  have HB1 := Lib.hid hb1
  clear hb1
  by_cases hbig : 200 < l.length
  · have q0 : (200 : Int) < (l.length : Int) := by omega
    go_wp2_with fail
    go_ret
    exact ⟨rfl, HB1.out⟩
  have q0 : ¬ ((200 : Int) < (l.length : Int)) := by omega
  have hst := steps_any A c l w1 (HA.out.below HB1.out) (by omega) (fun s hs => (HM.out s hs).1)
  have HST := Lib.hid hst
  clear hst
  go_wp2_with fail
  refine HST.out.mono ?_
  rintro e w2 ⟨hb2, A2, c2, rfl, hp2⟩
  have hz1 := HB1.out.size
  have HB2 := Lib.hid (HB1.out.trans (hb2.mono hz1))
  have hz2 := HB2.out.size
  have hp2' : PlAt w2 (fun i => i < w2.heap.size) A2 l := hp2.keep (w' := w2) (fun _ _ _ => rfl) (Nat.le_refl _) (fun i hi _ => hi.2)
  have hmod : Modest l := ⟨by omega, HM.out⟩
  have HP3 := Lib.hid (hp2'.below (below_alloc w2 (.cells #[.slice A2 l.length c2] 28)))
  have HX3 := Lib.hid (Blk.new w2 28 #[.slice A2 l.length c2])
  have htr := Tree_any A2 c2 l _ HP3.out hmod
  have HTR := Lib.hid htr
  have HB3 := Lib.hid (HB2.out.alloc hz2 (.cells #[.slice A2 l.length c2] 28))
  clear hb2 hp2 hp2' htr HST
  generalize hW3 : w2.alloc (.cells #[.slice A2 l.length c2] 28) = w3 at HP3 HX3 HTR HB3
  have HW3 := Lib.hid hW3
  clear hW3
  go_wp2_with fail
  rw [HW3.out]
  refine HTR.out.mono ?_
  rintro e w4 ⟨hb4, he⟩
  have hz3 := HB3.out.size
  have HB4 := Lib.hid (HB3.out.trans (hb4.mono hz3))
  have hz4 := HB4.out.size
  by_cases hck : checkR l ≠ 0
  · rw [if_pos hck] at he
    subst he
    have hv : errV (checkR l) = .iface 37 (.int .i64 (checkR l)) := by unfold errV; rw [if_neg hck]
    rw [hv]
    clear hv hck
    go_wp2_with fail
    go_ret
    exact ⟨rfl, HB4.out.alloc hz4 _⟩
  rw [if_neg hck] at he
  have hck : checkR l = 0 := by omega
  by_cases hlg : 4096 < (sizesR l).getD (l.length - 1) 0
  · rw [if_pos hlg] at he
    subst he
    rw [show errV 9 = .iface 37 (.int .i64 9) from rfl]
    clear hlg hck
    go_wp2_with fail
    go_ret
    exact ⟨rfl, HB4.out.alloc hz4 _⟩
  rw [if_neg hlg] at he
  obtain ⟨cs, rfl, hn4⟩ := he
  obtain ⟨k1, t1, m1, A1, n1, c1, rfl⟩ := hn4.form
  have hl0 := (checkR_zero hck).1
  obtain ⟨s, hs⟩ : ∃ s, l[l.length - 1]? = some s := ⟨l[l.length - 1], List.getElem?_eq_getElem (by omega)⟩
  obtain ⟨x, hx⟩ : ∃ x, x = growR l (l.length - 1) := ⟨_, rfl⟩
  have hxt : typT x = .ok s.ty := by rw [hx]; exact growR_typ hck _ s hs
  have hxn : x.all isNT = true := by rw [hx]; exact growR_isNT hck _ (by omega)
  have hxs : x.all (shortT 9223372036854775807) = true := by rw [hx]; exact growR_short hck (by decide) (fun s hs => (HM.out s hs).2) _ (by omega)
  have hxz : x.size ≤ 4096 := by
    have := sizesR_ok hck (l.length - 1) (by omega)
    rw [← hx] at this
    omega
  rw [← hx] at hn4
  have hn4' : NodeV w4 (fun i => i < w4.heap.size) x [.int .i64 k1, .string t1, .int .i64 m1, .slice A1 n1 c1] := NodeV.keep (w' := w4) (fun _ _ _ => rfl) (fun i hi _ => hi.2) hn4
  obtain ⟨w5, hw5⟩ : ∃ w5, w5 = w4.alloc (.cells #[.int .i64 k1, .string t1, .int .i64 m1, .slice A1 n1 c1] 31) := ⟨_, rfl⟩
  have hb45 : Below w4.heap.size w4 w5 := by rw [hw5]; exact below_alloc _ _
  have HN5 := Lib.hid (hn4'.below hb45)
  have HT5 := Lib.hid (show Blk w5 w4.heap.size 31 #[.int .i64 k1, .string t1, .int .i64 m1, .slice A1 n1 c1] by rw [hw5]; exact Blk.new _ _ _)
  have HX5 := Lib.hid ((HX3.out.below hb4 HX3.out.lt).below hb45 (Nat.lt_of_lt_of_le HX3.out.lt hb4.size))
  have HP5 := Lib.hid (PlAt.below (PlAt.below HP3.out hb4) hb45)
  have HB5 := Lib.hid (HB4.out.trans (hb45.mono hz4))
  have hof := plan_of x _ w5 HN5.out (by omega) hxs
  have HOF := Lib.hid hof
  have HXT := Lib.hid hxt
  have HXN := Lib.hid hxn
  have HXS := Lib.hid hxs
  have HXZ := Lib.hid hxz
  have HS := Lib.hid hs
  have HW5 := Lib.hid hw5
  have HL0 := Lib.hid hl0
  clear hb4 hn4 hn4' hb45 hof hxt hxn hxs hxz hs hw5 hlg hx hck hmod
  go_wp2_with fail
  rw [← HW5.out]
  refine HOF.out.mono ?_
  rintro e w6 ⟨hb6, he⟩
  rw [if_pos HXN.out, HXT.out] at he
  obtain ⟨A3, c3, rfl, hp6⟩ := he
  obtain ⟨hq1, hq2, hq3, hq4⟩ := planT_ok HXT.out HXN.out HXZ.out
  have hz5 := HB5.out.size
  have HB6 := Lib.hid (HB5.out.trans (hb6.mono hz5))
  have hz6 := HB6.out.size
  obtain ⟨N, hN⟩ : ∃ N, N = (planT x).length := ⟨_, rfl⟩
  obtain ⟨w7, hw7⟩ : ∃ w7, w7 = w6.alloc (.cells #[.slice A3 (planT x).length c3] 28) := ⟨_, rfl⟩
  have hb67 : Below w6.heap.size w6 w7 := by rw [hw7]; exact below_alloc _ _
  have hb57 : Below w5.heap.size w5 w7 := hb6.trans (hb67.mono hb6.size)
  have HT7 := Lib.hid (HT5.out.below hb57 HT5.out.lt)
  have HX7 := Lib.hid (HX5.out.below hb57 HX5.out.lt)
  have HP7 := Lib.hid (PlAt.below HP5.out hb57)
  have HN7 := Lib.hid (HN5.out.below hb57)
  have HQ7 := Lib.hid (show Blk w7 w6.heap.size 28 #[.slice A3 (planT x).length c3] by rw [hw7]; exact Blk.new _ _ _)
  have hpq : PlAt w7 (fun i => i < w7.heap.size) A3 (planT x) := PlAt.below (hp6.keep (w' := w6) (fun _ _ _ => rfl) (Nat.le_refl _) (fun i hi _ => hi.2)) hb67
  have HPQ := Lib.hid hpq
  have HB7 := Lib.hid (HB6.out.trans (hb67.mono hz6))
  have hplen := layT_len x 0
  have hmodq : Modest (planT x) := ⟨by have : (planT x).length = (layT 0 x).length := rfl; have := HXZ.out; omega, fun s hs => ⟨by
    obtain ⟨i, hi⟩ := List.getElem?_of_mem hs
    obtain ⟨o, F⟩ := stepE_zero ((checkR_zero hq1).2.2 i s hi)
    have := opR_small F.op
    have := F.len
    omega, layT_short _ x 0 HXS.out s hs⟩⟩
  have htr := Tree_any A3 c3 (planT x) w7 hpq hmodq
  have hss := sizesR_ok hq1 ((planT x).length - 1) (by omega)
  rw [hq3] at hss
  have HTR2 := Lib.hid htr
  have HSS := Lib.hid hss
  have HQ1 := Lib.hid hq1
  have HQ3 := Lib.hid hq3
  have HQ4 := Lib.hid hq4
  have HW7 := Lib.hid hw7
  have hNN : 0 < N := by omega
  have HN := Lib.hid hN
  rw [← hN] at HTR2 HQ7 HW7 ⊢
  have hLL : (0 : Int) < (l.length : Int) := by have := HL0.out; omega
  have e1 : ((N : Int) == 0) = false := beq_eq_false_iff_ne.2 (by omega)
  have e2 : ((l.length : Int) == 0) = false := beq_eq_false_iff_ne.2 (by have := HL0.out; omega)
  have p7 := HX7.out.cell 0
  have pq7 := HQ7.out.cell 0
  simp only [List.getElem?_toArray, List.getElem?_cons_zero] at p7 pq7
  clear hb6 hp6 hb67 hb57 hpq hplen hmodq htr hss hq1 hq2 hq3 hq4 hw7 hN
  rw [HW7.out] at p7 pq7
  go_wp2_with fail
  rw [← HW7.out]
  refine HTR2.out.mono ?_
  rintro e w8 ⟨hb8, he⟩
  rw [HQ1.out, if_neg (by simp), HSS.out, if_neg (by have := HXZ.out; omega)] at he
  obtain ⟨cs3, rfl, hn8⟩ := he
  rw [HQ3.out] at hn8
  obtain ⟨k3, t3, m3, A5, n5, c5, rfl⟩ := hn8.form
  have hz7 := HB7.out.size
  have hn8' : NodeV w8 (fun i => i < w8.heap.size) x [.int .i64 k3, .string t3, .int .i64 m3, .slice A5 n5 c5] := NodeV.keep (w' := w8) (fun _ _ _ => rfl) (fun i hi _ => hi.2) hn8
  obtain ⟨w9, hw9⟩ : ∃ w9, w9 = w8.alloc (.cells #[.int .i64 k3, .string t3, .int .i64 m3, .slice A5 n5 c5] 31) := ⟨_, rfl⟩
  have hb89 : Below w8.heap.size w8 w9 := by rw [hw9]; exact below_alloc _ _
  have hb79 : Below w7.heap.size w7 w9 := hb8.trans (hb89.mono hb8.size)
  have HT9 := HT7.out.below hb79 HT7.out.lt
  have HX9 := HX7.out.below hb79 HX7.out.lt
  have HQ9 := HQ7.out.below hb79 HQ7.out.lt
  have hU9 : Blk w9 w8.heap.size 31 #[.int .i64 k3, .string t3, .int .i64 m3, .slice A5 n5 c5] := by rw [hw9]; exact Blk.new _ _ _
  have HN9 := Lib.hid (HN7.out.below hb79)
  have HM9 := Lib.hid (hn8'.below hb89)
  have HB9 := Lib.hid (HB7.out.trans (hb79.mono hz7))
  obtain ⟨i1, hi1⟩ : ∃ i1 : Nat, i1 + 1 = l.length := ⟨l.length - 1, by have := HL0.out; omega⟩
  obtain ⟨i2, hi2⟩ : ∃ i2 : Nat, i2 + 1 = N := ⟨N - 1, by omega⟩
  have hs := HS.out
  rw [show l.length - 1 = i1 by omega] at hs
  obtain ⟨sq, hsq⟩ : ∃ sq, (planT x)[i2]? = some sq := ⟨_, List.getElem?_eq_getElem (by have := HN.out; omega)⟩
  have hty : sq.ty = s.ty := by
    have h := HQ4.out
    rw [← HN.out, show ((N : Nat) : Int) - 1 = (i2 : Int) by omega] at h
    unfold tyAt at h
    rw [Int.toNat_natCast, hsq] at h
    exact h
  obtain ⟨bp, op, _, _, hAp, _, hbp, _, _, _, _, p4, _⟩ := (PlAt.below HP7.out hb79).step hs
  obtain ⟨bq, oq, _, _, hAq, _, hbq, _, _, _, _, q4, _⟩ := (PlAt.below HPQ.out hb79).step hsq
  rw [hty] at q4
  subst hAp hAq
  obtain ⟨ty, hty'⟩ : ∃ ty, ty = s.ty := ⟨_, rfl⟩
  rw [← hty'] at p4 q4
  obtain ⟨u0, u1, u2, u3⟩ := expr_cells hU9
  obtain ⟨v0, v1, v2, v3⟩ := expr_cells HT9
  have pc := HX9.cell 0
  have qc := HQ9.cell 0
  simp only [List.getElem?_toArray, List.getElem?_cons_zero] at pc qc
  have hxz9 := HXZ.out
  have cO : ∀ d os, Calls Try.prog 15 #[.agg #[.int .i64 k3, .string t3, .int .i64 m3, .slice A5 n5 c5], .agg #[.int .i64 k1, .string t1, .int .i64 m1, .slice A1 n1 c1]] (Go.Sort.grow (redrawn w9 d) os) fun e w'' => e = .returned (.bool true) ∧ ∃ p : Regrown, w'' = Go.Sort.grow (redrawn w9 p.d) p.os :=
    fun d os => Calls.regrown_of (same_any x _ _ _ (HM9.out.below (below_regrown w9 d os)) (HN9.out.below (below_regrown w9 d os)) (by omega))
  have ku0 := cell_regrown u0
  have ku1 := cell_regrown u1
  have ku2 := cell_regrown u2
  have ku3 := cell_regrown u3
  have kv0 := cell_regrown v0
  have kv1 := cell_regrown v1
  have kv2 := cell_regrown v2
  have kv3 := cell_regrown v3
  have kp := cell_regrown pc
  have kq := cell_regrown qc
  have kp4 := cell_regrown p4
  have kq4 := cell_regrown q4
  have g1 : IntKind.i64.wrap ((l.length : Int) - 1) = (i1 : Int) := by rw [show (l.length : Int) - 1 = (i1 : Int) by omega]; exact IntWalk.i64_in _ (by omega)
  have hNs : N ≤ 4096 := by
    have h1 := HN.out
    have h2 : (planT x).length = (layT 0 x).length := rfl
    have h3 := layT_len x 0
    omega
  have g2 : IntKind.i64.wrap ((N : Int) - 1) = (i2 : Int) := by rw [show (N : Int) - 1 = (i2 : Int) by omega]; exact IntWalk.i64_in _ (by omega)
  have g3 : (i1 : Int) < (l.length : Int) := by omega
  have g4 : (i2 : Int) < (N : Int) := by omega
  have g5 : (0 : Int) ≤ (i1 : Int) := by omega
  have g6 : (0 : Int) ≤ (i2 : Int) := by omega
  have HW9 := Lib.hid hw9
  clear hb8 hn8 hn8' hb89 hb79 HT9 HX9 HQ9 hU9 hs hsq hty hty' hw9 p7 pq7 hi1 hi2 HTR2 HTR HOF HX3 HX5 HX7 HT5 HT7 HQ7 HP3 HP5 HP7 HPQ
  go_wp2_with fail
  rw [← HW9.out]
  refine wp_region_quiet_below (by kernel_rfl) (by kernel_rfl) ?_
  repeat (quiet_step (exact cO _ _))
  refine wpQuiet_nil ?_
  intro _ hw'
  obtain ⟨⟨dq, osq⟩, hw''⟩ := hw'
  subst hw''
  have hq := below_regrown w9 dq osq
  have hz9 := HB9.out.size
  have HBZ := Lib.hid (HB9.out.trans (hq.mono hz9))
  simp only
  go_wp2_with fail
  go_ret
  exact ⟨rfl, HBZ.out⟩
end Go.Proofs.Ytniefnjcimempaa
