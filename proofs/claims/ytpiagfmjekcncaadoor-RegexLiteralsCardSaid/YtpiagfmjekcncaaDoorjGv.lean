/- The walk of the document's Equal, at two copies of a tree (printed by gen_gv.py). -/
import Derived.Test.YtpiagfmjekcncaaDoorjGr
import Derived.Lib.QuietBelow
set_option linter.unusedVariables false
set_option linter.unusedSimpArgs false
set_option linter.unusedSectionVars false
namespace Go.Proofs.YtpiagfmjekcncaaDoor
open Go.RowKit
theorem lettersU : Tryd.prog.underlying 24 = some (.array 4 22) := by kernel_rfl
theorem part_l0 (a b c d : Value) (w : World) : (part 22 #[a, b, c, d] 0).run Tryd.prog w = .ok a w := by kernel_rfl
theorem part_l1 (a b c d : Value) (w : World) : (part 22 #[a, b, c, d] 1).run Tryd.prog w = .ok b w := by kernel_rfl
theorem part_l2 (a b c d : Value) (w : World) : (part 22 #[a, b, c, d] 2).run Tryd.prog w = .ok c w := by kernel_rfl
theorem part_l3 (a b c d : Value) (w : World) : (part 22 #[a, b, c, d] 3).run Tryd.prog w = .ok d w := by kernel_rfl
theorem eql_u64 (d : Nat) (a : Int) (w : World) : (Op.equalIn (d + 1) 22 (.int .u64 a) (.int .u64 a)).run Tryd.prog w = .ok true w := by
  rw [Op.equalIn]; simp [run_underlying Tryd.underlying22, Sem.run_bind, Result.andThen]
theorem eql_letters (n : Nat) (a b c d : Int) (w : World) : (Op.equalIn (n + 1 + 1) 24 (.agg #[.int .u64 a, .int .u64 b, .int .u64 c, .int .u64 d]) (.agg #[.int .u64 a, .int .u64 b, .int .u64 c, .int .u64 d])).run Tryd.prog w = .ok true w := by
  rw [Op.equalIn]
  simp [run_underlying lettersU, Sem.run_bind, Result.andThen]
  rw [show List.range' 0 4 = [0, 1, 2, 3] from rfl]
  simp [Result.andThen, Sem.run_bind, part_l0, part_l1, part_l2, part_l3, eql_u64]
@[go_sem] theorem eql_letters_go (a b c d : Int) (w : World) : Sem.run Tryd.prog (Op.equalIn 10000 24 (.agg #[.int .u64 a, .int .u64 b, .int .u64 c, .int .u64 d]) (.agg #[.int .u64 a, .int .u64 b, .int .u64 c, .int .u64 d])) w = .ok true w := eql_letters 9998 a b c d w
set_option maxRecDepth 100000 in
set_option maxHeartbeats 8000000 in
theorem gequal_any : ∀ (n : Nat) (r : Rx), r.size ≤ n → ∀ (cs cs' : List Value) (w : World) (F F' : Nat → Prop), RxV w F r cs → RxV w F' r cs' → r.size ≤ 1000000000 →
    Calls Tryd.prog 9 #[.agg cs.toArray, .agg cs'.toArray] w fun e w' => e = .returned (.bool true) ∧ Below w.heap.size w w'
  | 0, r, hn, _, _, _, _, _, _, _, _ => by have := r.size_pos; omega
  | n + 1, .node kind m0 m1 m2 m3 lo hi ps, hn, cs, cs', w, F, F', hv, hv', hs => by
    have ih := gequal_any n
    unfold RxV at hv hv'
    obtain ⟨A, c, css, rfl, hrd, hvs⟩ := hv
    obtain ⟨B, d, dss, rfl, hrd', hvs'⟩ := hv'
    unfold Rx.size at hs
    have HSZ := Lib.hid (show 1 + sizeL ps ≤ n + 1 from hn)
    have HRD := Lib.hid hrd
    have HVS := Lib.hid hvs
    have HRE := Lib.hid hrd'
    have HVE := Lib.hid hvs'
    have HI := Lib.hid ih
    have HS2 := Lib.hid hs
    have HR1 := Lib.hid (show R8 ((w.alloc (.cells #[.int .i64 kind, .int .u64 m0, .int .u64 m1, .int .u64 m2, .int .u64 m3, .int .i64 lo, .int .i64 hi, .slice A ps.length c] 27)).alloc (.cells #[.int .i64 kind, .int .u64 m0, .int .u64 m1, .int .u64 m2, .int .u64 m3, .int .i64 lo, .int .i64 hi, .slice B ps.length d] 27)) w.heap.size (.int .i64 kind) (.int .u64 m0) (.int .u64 m1) (.int .u64 m2) (.int .u64 m3) (.int .i64 lo) (.int .i64 hi) (.slice A ps.length c) from Blk.alloc (Blk.new w _ _) _)
    have HE1 := Lib.hid (show R8 ((w.alloc (.cells #[.int .i64 kind, .int .u64 m0, .int .u64 m1, .int .u64 m2, .int .u64 m3, .int .i64 lo, .int .i64 hi, .slice A ps.length c] 27)).alloc (.cells #[.int .i64 kind, .int .u64 m0, .int .u64 m1, .int .u64 m2, .int .u64 m3, .int .i64 lo, .int .i64 hi, .slice B ps.length d] 27)) (w.heap.size + 1) (.int .i64 kind) (.int .u64 m0) (.int .u64 m1) (.int .u64 m2) (.int .u64 m3) (.int .i64 lo) (.int .i64 hi) (.slice B ps.length d) from by
      have := Blk.new (w.alloc (.cells #[.int .i64 kind, .int .u64 m0, .int .u64 m1, .int .u64 m2, .int .u64 m3, .int .i64 lo, .int .i64 hi, .slice A ps.length c] 27)) 27 #[.int .i64 kind, .int .u64 m0, .int .u64 m1, .int .u64 m2, .int .u64 m3, .int .i64 lo, .int .i64 hi, .slice B ps.length d]
      rw [show (w.alloc (.cells #[.int .i64 kind, .int .u64 m0, .int .u64 m1, .int .u64 m2, .int .u64 m3, .int .i64 lo, .int .i64 hi, .slice A ps.length c] 27)).heap.size = w.heap.size + 1 by simp] at this
      exact this)
    have HB1 := Lib.hid (((Below.refl w.heap.size w).alloc (Nat.le_refl _) (.cells #[.int .i64 kind, .int .u64 m0, .int .u64 m1, .int .u64 m2, .int .u64 m3, .int .i64 lo, .int .i64 hi, .slice A ps.length c] 27)).alloc (by simp) (.cells #[.int .i64 kind, .int .u64 m0, .int .u64 m1, .int .u64 m2, .int .u64 m3, .int .i64 lo, .int .i64 hi, .slice B ps.length d] 27))
    obtain ⟨w1, hw1⟩ : ∃ w1, w1 = (w.alloc (.cells #[.int .i64 kind, .int .u64 m0, .int .u64 m1, .int .u64 m2, .int .u64 m3, .int .i64 lo, .int .i64 hi, .slice A ps.length c] 27)).alloc (.cells #[.int .i64 kind, .int .u64 m0, .int .u64 m1, .int .u64 m2, .int .u64 m3, .int .i64 lo, .int .i64 hi, .slice B ps.length d] 27) := ⟨_, rfl⟩
    rw [← hw1] at HR1 HE1 HB1
    have HW1 := Lib.hid hw1
    have hps : ps.length ≤ 1000000000 := by have := sizeL_ge ps; omega
    clear hrd hvs hrd' hvs' ih hn hw1 hs
    obtain ⟨nl, hnl'⟩ : ∃ nl, nl = ps.length := ⟨_, rfl⟩
    rw [← hnl'] at HR1 HE1 HW1 HRD HRE hps ⊢
    have HNL := Lib.hid hnl'
    clear hnl'
    obtain ⟨⟨⟨c0, c1⟩, c2, c3⟩, ⟨c4, c5⟩, c6, c7⟩ := HR1.out.cells
    obtain ⟨⟨⟨d0, d1⟩, d2, d3⟩, ⟨d4, d5⟩, d6, d7⟩ := HE1.out.cells
    go_enter Tryd.func9, Tryd.ntmps9
    go_upto_region 1 with (fail)
    rw [← HW1.out]
    clear HW1
    go_wp2_with fail
    go_loopg [5] (nl + 1) (fun f i wr => ∃ k : Nat, k ≤ nl ∧ nl < k + f ∧ i = .int .i64 k ∧ Hid (Below w.heap.size w wr) ∧ Hid (R8 wr w.heap.size (.int .i64 kind) (.int .u64 m0) (.int .u64 m1) (.int .u64 m2) (.int .u64 m3) (.int .i64 lo) (.int .i64 hi) (.slice A nl c)) ∧ Hid (R8 wr (w.heap.size + 1) (.int .i64 kind) (.int .u64 m0) (.int .u64 m1) (.int .u64 m2) (.int .u64 m3) (.int .i64 lo) (.int .i64 hi) (.slice B nl d)))
    case atStart => exact ⟨0, Nat.zero_le _, by omega, rfl, HB1, HR1, HE1⟩
    case round =>
      clear HB1 HR1 HE1
      obtain ⟨k, hk, hkf, rfl, HB, HR, HE⟩ := hrel
      obtain ⟨f, rfl⟩ : ∃ f, gk = f + 1 := ⟨gk - 1, by omega⟩
      have c7 := HR.out.cells.2.2.2
      have d7 := HE.out.cells.2.2.2
      obtain ⟨wo, hwo⟩ : ∃ wo, wo = wr := ⟨_, rfl⟩
      subst hwo
      by_cases hlt : k < nl
      · obtain ⟨x, hx⟩ : ∃ x, ps[k]? = some x := ⟨_, List.getElem?_eq_getElem (by rw [← HNL.out]; exact hlt)⟩
        obtain ⟨cx, hvcx, hccx⟩ := HVS.out.get k x hx
        obtain ⟨b', o', rfl, hFb', hbb', hcb'⟩ := HRD.out.2 (by omega)
        obtain ⟨kd, a0, a1, a2, a3, lo', hi', A', n', c', rfl⟩ := hvcx.eight
        have hAcx : ∀ j u, [Value.int .i64 kd, .int .u64 a0, .int .u64 a1, .int .u64 a2, .int .u64 a3, .int .i64 lo', .int .i64 hi', .slice A' n' c'][j]? = some u → wo.cell? ⟨b', o' + k * 8 + j, none⟩ = some u := fun j u hu => by
          have := hcb' (k * 8 + j) u (hccx j u hu)
          rw [show o' + k * 8 + j = o' + (k * 8 + j) by omega]
          exact (HB.out.cell (p := ⟨b', o' + (k * 8 + j), none⟩) hbb').trans this
        have y0' := hAcx 0 _ rfl
        have y1' := hAcx 1 _ rfl
        have y2' := hAcx 2 _ rfl
        have y3' := hAcx 3 _ rfl
        have y4' := hAcx 4 _ rfl
        have y5' := hAcx 5 _ rfl
        have y6' := hAcx 6 _ rfl
        have y7' := hAcx 7 _ rfl
        rw [Nat.add_zero] at y0'
        have y0 := cell_regrown y0'
        have y1 := cell_regrown y1'
        have y2 := cell_regrown y2'
        have y3 := cell_regrown y3'
        have y4 := cell_regrown y4'
        have y5 := cell_regrown y5'
        have y6 := cell_regrown y6'
        have y7 := cell_regrown y7'
        obtain ⟨cy, hvcy, hccy⟩ := HVE.out.get k x hx
        obtain ⟨bp, op, rfl, hFbp, hbbp, hcbp⟩ := HRE.out.2 (by omega)
        obtain ⟨ke, e0, e1, e2, e3, lp, hp, B', np, cp, rfl⟩ := hvcy.eight
        have hAcy : ∀ j u, [Value.int .i64 ke, .int .u64 e0, .int .u64 e1, .int .u64 e2, .int .u64 e3, .int .i64 lp, .int .i64 hp, .slice B' np cp][j]? = some u → wo.cell? ⟨bp, op + k * 8 + j, none⟩ = some u := fun j u hu => by
          have := hcbp (k * 8 + j) u (hccy j u hu)
          rw [show op + k * 8 + j = op + (k * 8 + j) by omega]
          exact (HB.out.cell (p := ⟨bp, op + (k * 8 + j), none⟩) hbbp).trans this
        have z0' := hAcy 0 _ rfl
        have z1' := hAcy 1 _ rfl
        have z2' := hAcy 2 _ rfl
        have z3' := hAcy 3 _ rfl
        have z4' := hAcy 4 _ rfl
        have z5' := hAcy 5 _ rfl
        have z6' := hAcy 6 _ rfl
        have z7' := hAcy 7 _ rfl
        rw [Nat.add_zero] at z0'
        have z0 := cell_regrown z0'
        have z1 := cell_regrown z1'
        have z2 := cell_regrown z2'
        have z3 := cell_regrown z3'
        have z4 := cell_regrown z4'
        have z5 := cell_regrown z5'
        have z6 := cell_regrown z6'
        have z7 := cell_regrown z7'
        have hszx := sizeL_take ps k x hx
        have hszle := sizeL_le ps (k + 1)
        have hsz := HSZ.out
        have hs2 := HS2.out
        have cI : ∀ dd os, Calls Tryd.prog 9 #[.agg #[.int .i64 kd, .int .u64 a0, .int .u64 a1, .int .u64 a2, .int .u64 a3, .int .i64 lo', .int .i64 hi', .slice A' n' c'], .agg #[.int .i64 ke, .int .u64 e0, .int .u64 e1, .int .u64 e2, .int .u64 e3, .int .i64 lp, .int .i64 hp, .slice B' np cp]] (Go.Sort.grow (redrawn wo dd) os) fun e w'' => e = .returned (.bool true) ∧ ∃ p : Regrown, w'' = Go.Sort.grow (redrawn wo p.d) p.os :=
          fun dd os => Calls.regrown_of (HI.out x (by omega) _ _ _ F F' (hvcx.kept (Kept.of_below (F := fun _ => False) (HB.out.trans ((below_regrown wo dd os).mono HB.out.size))) (fun _ _ _ => id) (fun i hi _ => hi)) (hvcy.kept (Kept.of_below (F := fun _ => False) (HB.out.trans ((below_regrown wo dd os).mono HB.out.size))) (fun _ _ _ => id) (fun i hi _ => hi)) (by omega))
        have q0 : (k : Int) < (nl : Int) := by omega
        have q1 : (0 : Int) ≤ (k : Int) := by omega
        clear hx hvcx hvcy hccx hccy hcb' hcbp hAcx hAcy hszx hszle hsz hs2
        go_upto_region 6 with (fail)
        have g7 := cell_regrown c7
        have h7 := cell_regrown d7
        refine wp_region_quiet_below (by kernel_rfl) (by kernel_rfl) ?_
        repeat (quiet_step (exact cI _ _))
        refine wpQuiet_nil ?_
        intro _ hw'
        obtain ⟨⟨dq, osq⟩, hw''⟩ := hw'
        subst hw''
        have hq := below_regrown wo dq osq
        simp only
        have HB3 := Lib.hid (HB.out.trans (hq.mono HB.out.size))
        have HR3 := Lib.hid (HR.out.below hq HR.out.lt)
        have HE3 := Lib.hid (HE.out.below hq HE.out.lt)
        clear hq cI g7 h7 c7 d7 HB HR HE y0 y0' y1 y1' y2 y2' y3 y3' y4 y4' y5 y5' y6 y6' y7 y7' z0 z0' z1 z1' z2 z2' z3 z3' z4 z4' z5 z5' z6 z6' z7 z7'
        go_wp2_with fail
        go_roundg f
        case measure => omega
        case rel => exact ⟨k + 1, hlt, by omega, rfl, HB3, HR3, HE3⟩
      · obtain rfl : k = nl := by omega
        go_wp2_with fail
        go_ret
        exact ⟨rfl, HB.out⟩
end Go.Proofs.YtpiagfmjekcncaaDoor
