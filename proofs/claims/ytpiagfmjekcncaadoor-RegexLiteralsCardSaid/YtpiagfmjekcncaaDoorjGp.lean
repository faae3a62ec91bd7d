/- The walks of the document's size, depth, Positions and written (printed by gen_gp.py). -/
import Derived.Test.YtpiagfmjekcncaaDoorjGo
import Derived.Test.YtpiagfmjekcncaaDoorjMeas
set_option linter.unusedVariables false
set_option linter.unusedSimpArgs false
set_option linter.unusedSectionVars false
namespace Go.Proofs.YtpiagfmjekcncaaDoor
open Go.RowKit
theorem depthL_take (l : List Rx) (i : Nat) (r : Rx) (h : l[i]? = some r) : depthL (l.take (i + 1)) = max (depthL (l.take i)) r.depth := by
  rw [List.take_add_one, h, depthL_append]
  simp [depthL]
theorem depthL_take_le (l : List Rx) (i : Nat) : depthL (l.take i) ≤ depthL l := by
  conv => rhs; rw [← List.take_append_drop i l, depthL_append]
  omega
theorem depth_le_size : ∀ (n : Nat) (r : Rx), r.size ≤ n → r.depth ≤ r.size
  | 0, r, h => by have := r.size_pos; omega
  | n + 1, .node kind u0 u1 u2 u3 lo hi ps, h => by
    unfold Rx.size at h
    unfold Rx.size Rx.depth
    have : depthL ps ≤ sizeL ps := depthL_le fun i r hr => by
      have h1 := sizeL_take ps i r hr
      have h2 := sizeL_le ps (i + 1)
      have := depth_le_size n r (by omega)
      omega
    omega
def Rx.posK (r : Rx) : Nat := min r.pos 65
def Rx.wriK (r : Rx) : Nat := min r.wri 4097
theorem posK_le (r : Rx) : r.posK ≤ 65 := by unfold Rx.posK; omega
theorem wriK_le (r : Rx) : r.wriK ≤ 4097 := by unfold Rx.wriK; omega
theorem cap_mul (P X c M : Nat) (h : P = min X M) : min (P * c) M = min (X * c) M := min_mul_cap _ _ _ _ (by omega)
set_option maxRecDepth 100000 in
set_option maxHeartbeats 4000000 in
theorem gsize_any : ∀ (n : Nat) (r : Rx), r.size ≤ n → ∀ (cs : List Value) (w : World) (F : Nat → Prop), RxV w F r cs → (∀ i, F i → i < w.heap.size) → r.size ≤ 1000000000 →
    Calls Tryd.prog 38 #[.agg cs.toArray] w fun e w' => e = .returned (.int .i64 (r.size : Nat)) ∧ Below w.heap.size w w'
  | 0, r, hn, _, _, _, _, _, _ => by have := r.size_pos; omega
  | n + 1, .node kind u0 u1 u2 u3 lo hi ps, hn, cs, w, F, hv, hF, ht => by
    have ih := gsize_any n
    unfold RxV at hv
    obtain ⟨A, c, css, rfl, hrd, hvs⟩ := hv
    unfold Rx.size at ht
    have HSZ := Lib.hid (show 1 + sizeL ps ≤ n + 1 from hn)
    have HRD := Lib.hid hrd
    have HVS := Lib.hid hvs
    have HF := Lib.hid hF
    have HI := Lib.hid ih
    have HR1 := Lib.hid (show R8 (w.alloc (.cells #[.int .i64 kind, .int .u64 u0, .int .u64 u1, .int .u64 u2, .int .u64 u3, .int .i64 lo, .int .i64 hi, .slice A ps.length c] 27)) w.heap.size (.int .i64 kind) (.int .u64 u0) (.int .u64 u1) (.int .u64 u2) (.int .u64 u3) (.int .i64 lo) (.int .i64 hi) (.slice A ps.length c) from Blk.new w _ _)
    have HB1 := Lib.hid ((Below.refl w.heap.size w).alloc (Nat.le_refl _) (.cells #[.int .i64 kind, .int .u64 u0, .int .u64 u1, .int .u64 u2, .int .u64 u3, .int .i64 lo, .int .i64 hi, .slice A ps.length c] 27))
    obtain ⟨w1, hw1⟩ : ∃ w1, w1 = w.alloc (.cells #[.int .i64 kind, .int .u64 u0, .int .u64 u1, .int .u64 u2, .int .u64 u3, .int .i64 lo, .int .i64 hi, .slice A ps.length c] 27) := ⟨_, rfl⟩
    rw [← hw1] at HR1 HB1
    have HW1 := Lib.hid hw1
    clear hrd hvs hF ih hn hw1
    go_enter Tryd.func38, Tryd.ntmps38
    go_upto_block 0 with (fail)
    rw [← HW1.out]
    clear HW1
    go_cut [3] (fun t wc => t = .int .i64 (1 + sizeL ps : Nat) ∧ Hid (Below w.heap.size w wc) ∧ Hid (R8 wc w.heap.size (.int .i64 kind) (.int .u64 u0) (.int .u64 u1) (.int .u64 u2) (.int .u64 u3) (.int .i64 lo) (.int .i64 hi) (.slice A ps.length c)))
    case first =>
      go_wp2_with fail
      go_loopg [3, 4] (ps.length + 1) (fun f t i wr => ∃ k : Nat, k ≤ ps.length ∧ ps.length < k + f ∧ i = .int .i64 k ∧ t = .int .i64 (1 + sizeL (ps.take k) : Nat) ∧ Hid (Below w.heap.size w wr) ∧ Hid (R8 wr w.heap.size (.int .i64 kind) (.int .u64 u0) (.int .u64 u1) (.int .u64 u2) (.int .u64 u3) (.int .i64 lo) (.int .i64 hi) (.slice A ps.length c)))
      case atStart => exact ⟨0, Nat.zero_le _, by omega, rfl, by rw [List.take_zero]; rfl, HB1, HR1⟩
      case round =>
        clear HB1 HR1
        obtain ⟨k, hk, hkf, rfl, rfl, HB, HR⟩ := hrel
        obtain ⟨f, rfl⟩ : ∃ f, gk = f + 1 := ⟨gk - 1, by omega⟩
        obtain ⟨⟨⟨c0, c1⟩, c2, c3⟩, ⟨c4, c5⟩, c6, c7⟩ := HR.out.cells
        obtain ⟨wo, hwo⟩ : ∃ wo, wo = wr := ⟨_, rfl⟩
        subst hwo
        have hps : ps.length ≤ 1000000000 := by have := sizeL_ge ps; omega
        by_cases hlt : k < ps.length
        · obtain ⟨x, hx⟩ : ∃ x, ps[k]? = some x := ⟨_, List.getElem?_eq_getElem hlt⟩
          obtain ⟨cx, hvx, hcx⟩ := HVS.out.get k x hx
          obtain ⟨b', o', rfl, hFb, hbb, hcc⟩ := HRD.out.2 (by omega)
          have hszx := sizeL_take ps k x hx
          have hszle := sizeL_le ps (k + 1)
          have hvr := hvx.kept (Kept.of_below (F := fun _ => False) HB.out) (fun _ _ _ => id) (fun i hi _ => hi)
          obtain ⟨kd, a0, a1, a2, a3, lo', hi', A', n', c', rfl⟩ := hvx.eight
          have hAx : ∀ j u, [Value.int .i64 kd, .int .u64 a0, .int .u64 a1, .int .u64 a2, .int .u64 a3, .int .i64 lo', .int .i64 hi', .slice A' n' c'][j]? = some u → wo.cell? ⟨b', o' + k * 8 + j, none⟩ = some u := fun j u hu => by
            have := hcc (k * 8 + j) u (hcx j u hu)
            rw [show o' + k * 8 + j = o' + (k * 8 + j) by omega]
            exact (HB.out.cell (p := ⟨b', o' + (k * 8 + j), none⟩) hbb).trans this
          have y0 := hAx 0 _ rfl
          have y1 := hAx 1 _ rfl
          have y2 := hAx 2 _ rfl
          have y3 := hAx 3 _ rfl
          have y4 := hAx 4 _ rfl
          have y5 := hAx 5 _ rfl
          have y6 := hAx 6 _ rfl
          have y7 := hAx 7 _ rfl
          rw [Nat.add_zero] at y0
          have HC := Lib.hid (HI.out x (by have := HSZ.out; omega) _ wo F hvr (fun i hi => Nat.lt_of_lt_of_le (HF.out i hi) HB.out.size) (by omega))
          have htk := sizeL_take ps k x hx
          obtain ⟨P, hP⟩ : ∃ P, P = 1 + sizeL (ps.take k) := ⟨_, rfl⟩
          obtain ⟨X, hX⟩ : ∃ X, X = x.size := ⟨_, rfl⟩
          have hPX : P + X ≤ 1000000000 := by omega
          rw [← hP]
          rw [← hX] at HC
          have HQ := Lib.hid (show (1 + sizeL (ps.take (k + 1)) : Nat) = P + X by rw [hP, hX, htk]; omega)
          clear htk hP hX hx hvx hcx hcc hvr hAx hszx hszle
          go_wp2_with fail
          refine HC.out.mono ?_
          rintro ee w2 ⟨rfl, hb2⟩
          have HB2 := Lib.hid (HB.out.trans (hb2.mono HB.out.size))
          have HR2 := Lib.hid (HR.out.below hb2 HR.out.lt)
          clear hb2 HC HB HR c0 c1 c2 c3 c4 c5 c6 c7 y0 y1 y2 y3 y4 y5 y6 y7
          go_wp2_with fail
          go_roundg f
          case measure => omega
          case rel => exact ⟨k + 1, hlt, by omega, rfl, by rw [HQ.out]; congr 1 <;> omega, HB2, HR2⟩
        · obtain rfl : k = ps.length := by omega
          have htk : ps.take ps.length = ps := List.take_length
          rw [htk]
          go_wp2_with fail
          go_meet
          case rel => exact ⟨rfl, HB, HR⟩
    case rest =>
      obtain ⟨rfl, HB, HR⟩ := hcut
      clear HB1 HR1 HI HVS HRD
      obtain ⟨⟨⟨c0, c1⟩, c2, c3⟩, ⟨c4, c5⟩, c6, c7⟩ := HR.out.cells
      have hps : sizeL ps ≤ 1000000000 := by omega
      go_wp2_with fail
      go_ret
      refine ⟨?_, HB.out⟩
      unfold Rx.size
      rfl
set_option maxRecDepth 100000 in
set_option maxHeartbeats 4000000 in
theorem gdepth_any : ∀ (n : Nat) (r : Rx), r.size ≤ n → ∀ (cs : List Value) (w : World) (F : Nat → Prop), RxV w F r cs → (∀ i, F i → i < w.heap.size) → r.size ≤ 1000000000 →
    Calls Tryd.prog 39 #[.agg cs.toArray] w fun e w' => e = .returned (.int .i64 (r.depth : Nat)) ∧ Below w.heap.size w w'
  | 0, r, hn, _, _, _, _, _, _ => by have := r.size_pos; omega
  | n + 1, .node kind u0 u1 u2 u3 lo hi ps, hn, cs, w, F, hv, hF, ht => by
    have ih := gdepth_any n
    unfold RxV at hv
    obtain ⟨A, c, css, rfl, hrd, hvs⟩ := hv
    have hdl : depthL ps ≤ 1000000000 := by
      have := depth_le_size _ _ (Nat.le_refl (Rx.node kind u0 u1 u2 u3 lo hi ps).size)
      unfold Rx.depth at this
      omega
    unfold Rx.size at ht
    have HSZ := Lib.hid (show 1 + sizeL ps ≤ n + 1 from hn)
    have HRD := Lib.hid hrd
    have HVS := Lib.hid hvs
    have HF := Lib.hid hF
    have HI := Lib.hid ih
    have HR1 := Lib.hid (show R8 (w.alloc (.cells #[.int .i64 kind, .int .u64 u0, .int .u64 u1, .int .u64 u2, .int .u64 u3, .int .i64 lo, .int .i64 hi, .slice A ps.length c] 27)) w.heap.size (.int .i64 kind) (.int .u64 u0) (.int .u64 u1) (.int .u64 u2) (.int .u64 u3) (.int .i64 lo) (.int .i64 hi) (.slice A ps.length c) from Blk.new w _ _)
    have HB1 := Lib.hid ((Below.refl w.heap.size w).alloc (Nat.le_refl _) (.cells #[.int .i64 kind, .int .u64 u0, .int .u64 u1, .int .u64 u2, .int .u64 u3, .int .i64 lo, .int .i64 hi, .slice A ps.length c] 27))
    obtain ⟨w1, hw1⟩ : ∃ w1, w1 = w.alloc (.cells #[.int .i64 kind, .int .u64 u0, .int .u64 u1, .int .u64 u2, .int .u64 u3, .int .i64 lo, .int .i64 hi, .slice A ps.length c] 27) := ⟨_, rfl⟩
    rw [← hw1] at HR1 HB1
    have HW1 := Lib.hid hw1
    clear hrd hvs hF ih hn hw1
    go_enter Tryd.func39, Tryd.ntmps39
    go_upto_block 0 with (fail)
    rw [← HW1.out]
    clear HW1
    go_cut [3] (fun t wc => t = .int .i64 (depthL ps : Nat) ∧ Hid (Below w.heap.size w wc) ∧ Hid (R8 wc w.heap.size (.int .i64 kind) (.int .u64 u0) (.int .u64 u1) (.int .u64 u2) (.int .u64 u3) (.int .i64 lo) (.int .i64 hi) (.slice A ps.length c)))
    case first =>
      go_wp2_with fail
      go_loopg [3, 4] (ps.length + 1) (fun f t i wr => ∃ k : Nat, k ≤ ps.length ∧ ps.length < k + f ∧ i = .int .i64 k ∧ t = .int .i64 (depthL (ps.take k) : Nat) ∧ Hid (Below w.heap.size w wr) ∧ Hid (R8 wr w.heap.size (.int .i64 kind) (.int .u64 u0) (.int .u64 u1) (.int .u64 u2) (.int .u64 u3) (.int .i64 lo) (.int .i64 hi) (.slice A ps.length c)))
      case atStart => exact ⟨0, Nat.zero_le _, by omega, rfl, by rw [List.take_zero]; rfl, HB1, HR1⟩
      case round =>
        clear HB1 HR1
        obtain ⟨k, hk, hkf, rfl, rfl, HB, HR⟩ := hrel
        obtain ⟨f, rfl⟩ : ∃ f, gk = f + 1 := ⟨gk - 1, by omega⟩
        obtain ⟨⟨⟨c0, c1⟩, c2, c3⟩, ⟨c4, c5⟩, c6, c7⟩ := HR.out.cells
        obtain ⟨wo, hwo⟩ : ∃ wo, wo = wr := ⟨_, rfl⟩
        subst hwo
        have hps : ps.length ≤ 1000000000 := by have := sizeL_ge ps; omega
        by_cases hlt : k < ps.length
        · obtain ⟨x, hx⟩ : ∃ x, ps[k]? = some x := ⟨_, List.getElem?_eq_getElem hlt⟩
          obtain ⟨cx, hvx, hcx⟩ := HVS.out.get k x hx
          obtain ⟨b', o', rfl, hFb, hbb, hcc⟩ := HRD.out.2 (by omega)
          have hszx := sizeL_take ps k x hx
          have hszle := sizeL_le ps (k + 1)
          have hvr := hvx.kept (Kept.of_below (F := fun _ => False) HB.out) (fun _ _ _ => id) (fun i hi _ => hi)
          obtain ⟨kd, a0, a1, a2, a3, lo', hi', A', n', c', rfl⟩ := hvx.eight
          have hAx : ∀ j u, [Value.int .i64 kd, .int .u64 a0, .int .u64 a1, .int .u64 a2, .int .u64 a3, .int .i64 lo', .int .i64 hi', .slice A' n' c'][j]? = some u → wo.cell? ⟨b', o' + k * 8 + j, none⟩ = some u := fun j u hu => by
            have := hcc (k * 8 + j) u (hcx j u hu)
            rw [show o' + k * 8 + j = o' + (k * 8 + j) by omega]
            exact (HB.out.cell (p := ⟨b', o' + (k * 8 + j), none⟩) hbb).trans this
          have y0 := hAx 0 _ rfl
          have y1 := hAx 1 _ rfl
          have y2 := hAx 2 _ rfl
          have y3 := hAx 3 _ rfl
          have y4 := hAx 4 _ rfl
          have y5 := hAx 5 _ rfl
          have y6 := hAx 6 _ rfl
          have y7 := hAx 7 _ rfl
          rw [Nat.add_zero] at y0
          have HC := Lib.hid (HI.out x (by have := HSZ.out; omega) _ wo F hvr (fun i hi => Nat.lt_of_lt_of_le (HF.out i hi) HB.out.size) (by omega))
          have htk := depthL_take ps k x hx
          obtain ⟨P, hP⟩ : ∃ P, P = depthL (ps.take k) := ⟨_, rfl⟩
          obtain ⟨X, hX⟩ : ∃ X, X = x.depth := ⟨_, rfl⟩
          have hxs := depth_le_size _ x (Nat.le_refl _)
          have hPl := depthL_take_le ps k
          have hpl : depthL ps ≤ 1000000000 := hdl
          rw [← hP]
          rw [← hX] at HC
          have HQ := Lib.hid (show (depthL (ps.take (k + 1)) : Nat) = max P X by rw [hP, hX, htk])
          clear htk hP hX hx hvx hcx hcc hvr hAx hszx hszle
          go_wp2_with fail
          refine HC.out.mono ?_
          rintro ee w2 ⟨rfl, hb2⟩
          have HB2 := Lib.hid (HB.out.trans (hb2.mono HB.out.size))
          have HR2 := Lib.hid (HR.out.below hb2 HR.out.lt)
          clear hb2 HC HB HR c0 c1 c2 c3 c4 c5 c6 c7 y0 y1 y2 y3 y4 y5 y6 y7
          go_wp2_with fail
          go_roundg f
          case measure => omega
          case rel => exact ⟨k + 1, hlt, by omega, rfl, by rw [HQ.out]; congr 1 <;> omega, HB2, HR2⟩
        · obtain rfl : k = ps.length := by omega
          have htk : ps.take ps.length = ps := List.take_length
          rw [htk]
          go_wp2_with fail
          go_meet
          case rel => exact ⟨rfl, HB, HR⟩
    case rest =>
      obtain ⟨rfl, HB, HR⟩ := hcut
      clear HB1 HR1 HI HVS HRD
      obtain ⟨⟨⟨c0, c1⟩, c2, c3⟩, ⟨c4, c5⟩, c6, c7⟩ := HR.out.cells
      obtain ⟨P, hP⟩ : ∃ P, P = depthL ps := ⟨_, rfl⟩
      rw [← hP] at hdl ⊢
      go_wp2_with fail
      go_ret
      refine ⟨?_, HB.out⟩
      unfold Rx.depth
      rw [← hP]
      refine congrArg (fun z => Ending.returned (.int .i64 z)) ?_
      omega
set_option maxRecDepth 100000 in
set_option maxHeartbeats 4000000 in
theorem gpos_any : ∀ (n : Nat) (r : Rx), r.size ≤ n → ∀ (cs : List Value) (w : World) (F : Nat → Prop), RxV w F r cs → (∀ i, F i → i < w.heap.size) → (r.tame ∧ r.size ≤ 1000000000) →
    Calls Tryd.prog 40 #[.agg cs.toArray] w fun e w' => e = .returned (.int .i64 (r.posK : Nat)) ∧ Below w.heap.size w w'
  | 0, r, hn, _, _, _, _, _, _ => by have := r.size_pos; omega
  | n + 1, .node kind u0 u1 u2 u3 lo hi ps, hn, cs, w, F, hv, hF, ht => by
    have ih := gpos_any n
    unfold RxV at hv
    obtain ⟨A, c, css, rfl, hrd, hvs⟩ := hv
    have hnode := pos_node kind u0 u1 u2 u3 lo hi ps 65
    have HND := Lib.hid (show min (mulC kind lo hi (baseP kind + sumC Rx.posK ps)) 65 = (Rx.node kind u0 u1 u2 u3 lo hi ps).posK from hnode)
    clear hnode
    unfold Rx.tame at ht
    obtain ⟨⟨hkd, _, _, _, _, hlo0, hlo, hhi0, hhi, htl⟩, hsz⟩ := ht
    have HTL := Lib.hid htl
    unfold Rx.size at hsz
    clear htl
    have HSZ := Lib.hid (show 1 + sizeL ps ≤ n + 1 from hn)
    have HRD := Lib.hid hrd
    have HVS := Lib.hid hvs
    have HF := Lib.hid hF
    have HI := Lib.hid ih
    have HR1 := Lib.hid (show R8 (w.alloc (.cells #[.int .i64 kind, .int .u64 u0, .int .u64 u1, .int .u64 u2, .int .u64 u3, .int .i64 lo, .int .i64 hi, .slice A ps.length c] 27)) w.heap.size (.int .i64 kind) (.int .u64 u0) (.int .u64 u1) (.int .u64 u2) (.int .u64 u3) (.int .i64 lo) (.int .i64 hi) (.slice A ps.length c) from Blk.new w _ _)
    have HB1 := Lib.hid ((Below.refl w.heap.size w).alloc (Nat.le_refl _) (.cells #[.int .i64 kind, .int .u64 u0, .int .u64 u1, .int .u64 u2, .int .u64 u3, .int .i64 lo, .int .i64 hi, .slice A ps.length c] 27))
    obtain ⟨w1, hw1⟩ : ∃ w1, w1 = w.alloc (.cells #[.int .i64 kind, .int .u64 u0, .int .u64 u1, .int .u64 u2, .int .u64 u3, .int .i64 lo, .int .i64 hi, .slice A ps.length c] 27) := ⟨_, rfl⟩
    rw [← hw1] at HR1 HB1
    have HW1 := Lib.hid hw1
    clear hrd hvs hF ih hn hw1
    by_cases hz0 : kind = 2
    · have q2 : ((kind : Int) == 2) = true := by simp; omega
      have q2' : ((kind : Int) != 2) = false := by simp; omega
      have HBP := Lib.hid (show baseP kind = 1 by unfold baseP; rw [if_pos (by omega)])
      have q5 : ((kind : Int) == 5) = false := by simp; omega
      have HZ := Lib.hid (show ¬ kind = 5 by omega)
      clear hz0
      go_enter Tryd.func40, Tryd.ntmps40
      go_upto_block 0 with (fail)
      rw [← HW1.out]
      clear HW1
      go_cut [3] (fun t wc => t = .int .i64 (min (baseP kind + sumC Rx.posK ps) 65 : Nat) ∧ Hid (Below w.heap.size w wc) ∧ Hid (R8 wc w.heap.size (.int .i64 kind) (.int .u64 u0) (.int .u64 u1) (.int .u64 u2) (.int .u64 u3) (.int .i64 lo) (.int .i64 hi) (.slice A ps.length c)))
      case first =>
        go_wp2_with fail
        go_loopg [3, 4] (ps.length + 1) (fun f t i wr => ∃ k : Nat, k ≤ ps.length ∧ ps.length < k + f ∧ i = .int .i64 k ∧ t = .int .i64 (min (baseP kind + sumC Rx.posK (ps.take k)) 65 : Nat) ∧ Hid (Below w.heap.size w wr) ∧ Hid (R8 wr w.heap.size (.int .i64 kind) (.int .u64 u0) (.int .u64 u1) (.int .u64 u2) (.int .u64 u3) (.int .i64 lo) (.int .i64 hi) (.slice A ps.length c)))
        case atStart => exact ⟨0, Nat.zero_le _, by omega, rfl, by rw [List.take_zero]; rw [HBP.out]; rfl, HB1, HR1⟩
        case round =>
          clear HB1 HR1
          obtain ⟨k, hk, hkf, rfl, rfl, HB, HR⟩ := hrel
          obtain ⟨f, rfl⟩ : ∃ f, gk = f + 1 := ⟨gk - 1, by omega⟩
          obtain ⟨⟨⟨c0, c1⟩, c2, c3⟩, ⟨c4, c5⟩, c6, c7⟩ := HR.out.cells
          obtain ⟨wo, hwo⟩ : ∃ wo, wo = wr := ⟨_, rfl⟩
          subst hwo
          have hps : ps.length ≤ 1000000000 := by have := sizeL_ge ps; omega
          by_cases hlt : k < ps.length
          · obtain ⟨x, hx⟩ : ∃ x, ps[k]? = some x := ⟨_, List.getElem?_eq_getElem hlt⟩
            obtain ⟨cx, hvx, hcx⟩ := HVS.out.get k x hx
            obtain ⟨b', o', rfl, hFb, hbb, hcc⟩ := HRD.out.2 (by omega)
            have hszx := sizeL_take ps k x hx
            have hszle := sizeL_le ps (k + 1)
            have hvr := hvx.kept (Kept.of_below (F := fun _ => False) HB.out) (fun _ _ _ => id) (fun i hi _ => hi)
            obtain ⟨kd, a0, a1, a2, a3, lo', hi', A', n', c', rfl⟩ := hvx.eight
            have hAx : ∀ j u, [Value.int .i64 kd, .int .u64 a0, .int .u64 a1, .int .u64 a2, .int .u64 a3, .int .i64 lo', .int .i64 hi', .slice A' n' c'][j]? = some u → wo.cell? ⟨b', o' + k * 8 + j, none⟩ = some u := fun j u hu => by
              have := hcc (k * 8 + j) u (hcx j u hu)
              rw [show o' + k * 8 + j = o' + (k * 8 + j) by omega]
              exact (HB.out.cell (p := ⟨b', o' + (k * 8 + j), none⟩) hbb).trans this
            have y0 := hAx 0 _ rfl
            have y1 := hAx 1 _ rfl
            have y2 := hAx 2 _ rfl
            have y3 := hAx 3 _ rfl
            have y4 := hAx 4 _ rfl
            have y5 := hAx 5 _ rfl
            have y6 := hAx 6 _ rfl
            have y7 := hAx 7 _ rfl
            rw [Nat.add_zero] at y0
            have HC := Lib.hid (HI.out x (by have := HSZ.out; omega) _ wo F hvr (fun i hi => Nat.lt_of_lt_of_le (HF.out i hi) HB.out.size) ⟨tameL_get HTL.out hx, by omega⟩)
            have htk := sumC_take Rx.posK ps k x hx
            obtain ⟨P, hP⟩ : ∃ P, P = min (baseP kind + sumC Rx.posK (ps.take k)) 65 := ⟨_, rfl⟩
            obtain ⟨X, hX⟩ : ∃ X, X = x.posK := ⟨_, rfl⟩
            have hXl := posK_le x
            have hPl : P ≤ 65 := by omega
            rw [← hX] at hXl
            rw [← hP]
            rw [← hX] at HC
            have HQ := Lib.hid (show (min (baseP kind + sumC Rx.posK (ps.take (k + 1))) 65 : Nat) = min (P + X) 65 by rw [hP, hX, htk]; omega)
            clear htk hP hX hx hvx hcx hcc hvr hAx hszx hszle
            go_wp2_with fail
            refine HC.out.mono ?_
            rintro ee w2 ⟨rfl, hb2⟩
            have HB2 := Lib.hid (HB.out.trans (hb2.mono HB.out.size))
            have HR2 := Lib.hid (HR.out.below hb2 HR.out.lt)
            clear hb2 HC HB HR c0 c1 c2 c3 c4 c5 c6 c7 y0 y1 y2 y3 y4 y5 y6 y7
            go_wp2_with fail
            go_roundg f
            case measure => omega
            case rel => exact ⟨k + 1, hlt, by omega, rfl, by rw [HQ.out]; congr 1 <;> omega, HB2, HR2⟩
          · obtain rfl : k = ps.length := by omega
            have htk : ps.take ps.length = ps := List.take_length
            rw [htk]
            go_wp2_with fail
            go_meet
            case rel => exact ⟨rfl, HB, HR⟩
      case rest =>
        obtain ⟨rfl, HB, HR⟩ := hcut
        clear HB1 HR1 HI HVS HRD
        obtain ⟨⟨⟨c0, c1⟩, c2, c3⟩, ⟨c4, c5⟩, c6, c7⟩ := HR.out.cells
        obtain ⟨P, hP⟩ : ∃ P, P = min (baseP kind + sumC Rx.posK ps) 65 := ⟨_, rfl⟩
        obtain ⟨X, hX⟩ : ∃ X, X = baseP kind + sumC Rx.posK ps := ⟨_, rfl⟩
        have hPX : P = min X 65 := by rw [hP, hX]
        have HD2 := HND.out
        rw [← hX] at HD2
        rw [← hP]
        have hPM : P ≤ 65 := by omega
        have hm : mulC kind lo hi X = X := by unfold mulC; rw [if_neg HZ.out]
        rw [hm] at HD2
        have HPX := Lib.hid hPX
        clear hP hX hPX
        go_wp2_with fail
        go_ret
        have hPX := HPX.out
        refine ⟨?_, HB.out⟩
        rw [← HD2]
        refine congrArg (fun z => Ending.returned (.int .i64 z)) ?_
        omega
    by_cases hz1 : kind = 5 ∧ 0 ≤ hi
    · have q2 : ((kind : Int) == 2) = false := by simp; omega
      have q2' : ((kind : Int) != 2) = true := by simp; omega
      have HBP := Lib.hid (show baseP kind = 0 by unfold baseP; rw [if_neg (by omega)])
      have q5 : ((kind : Int) == 5) = true := by simp; omega
      have qh : decide (0 ≤ hi) = true := by simp; omega
      have HZ := Lib.hid (show kind = 5 ∧ 0 ≤ hi by omega)
      clear hz0 hz1
      go_enter Tryd.func40, Tryd.ntmps40
      go_upto_block 0 with (fail)
      rw [← HW1.out]
      clear HW1
      go_cut [3] (fun t wc => t = .int .i64 (min (baseP kind + sumC Rx.posK ps) 65 : Nat) ∧ Hid (Below w.heap.size w wc) ∧ Hid (R8 wc w.heap.size (.int .i64 kind) (.int .u64 u0) (.int .u64 u1) (.int .u64 u2) (.int .u64 u3) (.int .i64 lo) (.int .i64 hi) (.slice A ps.length c)))
      case first =>
        go_wp2_with fail
        go_loopg [3, 4] (ps.length + 1) (fun f t i wr => ∃ k : Nat, k ≤ ps.length ∧ ps.length < k + f ∧ i = .int .i64 k ∧ t = .int .i64 (min (baseP kind + sumC Rx.posK (ps.take k)) 65 : Nat) ∧ Hid (Below w.heap.size w wr) ∧ Hid (R8 wr w.heap.size (.int .i64 kind) (.int .u64 u0) (.int .u64 u1) (.int .u64 u2) (.int .u64 u3) (.int .i64 lo) (.int .i64 hi) (.slice A ps.length c)))
        case atStart => exact ⟨0, Nat.zero_le _, by omega, rfl, by rw [List.take_zero]; rw [HBP.out]; rfl, HB1, HR1⟩
        case round =>
          clear HB1 HR1
          obtain ⟨k, hk, hkf, rfl, rfl, HB, HR⟩ := hrel
          obtain ⟨f, rfl⟩ : ∃ f, gk = f + 1 := ⟨gk - 1, by omega⟩
          obtain ⟨⟨⟨c0, c1⟩, c2, c3⟩, ⟨c4, c5⟩, c6, c7⟩ := HR.out.cells
          obtain ⟨wo, hwo⟩ : ∃ wo, wo = wr := ⟨_, rfl⟩
          subst hwo
          have hps : ps.length ≤ 1000000000 := by have := sizeL_ge ps; omega
          by_cases hlt : k < ps.length
          · obtain ⟨x, hx⟩ : ∃ x, ps[k]? = some x := ⟨_, List.getElem?_eq_getElem hlt⟩
            obtain ⟨cx, hvx, hcx⟩ := HVS.out.get k x hx
            obtain ⟨b', o', rfl, hFb, hbb, hcc⟩ := HRD.out.2 (by omega)
            have hszx := sizeL_take ps k x hx
            have hszle := sizeL_le ps (k + 1)
            have hvr := hvx.kept (Kept.of_below (F := fun _ => False) HB.out) (fun _ _ _ => id) (fun i hi _ => hi)
            obtain ⟨kd, a0, a1, a2, a3, lo', hi', A', n', c', rfl⟩ := hvx.eight
            have hAx : ∀ j u, [Value.int .i64 kd, .int .u64 a0, .int .u64 a1, .int .u64 a2, .int .u64 a3, .int .i64 lo', .int .i64 hi', .slice A' n' c'][j]? = some u → wo.cell? ⟨b', o' + k * 8 + j, none⟩ = some u := fun j u hu => by
              have := hcc (k * 8 + j) u (hcx j u hu)
              rw [show o' + k * 8 + j = o' + (k * 8 + j) by omega]
              exact (HB.out.cell (p := ⟨b', o' + (k * 8 + j), none⟩) hbb).trans this
            have y0 := hAx 0 _ rfl
            have y1 := hAx 1 _ rfl
            have y2 := hAx 2 _ rfl
            have y3 := hAx 3 _ rfl
            have y4 := hAx 4 _ rfl
            have y5 := hAx 5 _ rfl
            have y6 := hAx 6 _ rfl
            have y7 := hAx 7 _ rfl
            rw [Nat.add_zero] at y0
            have HC := Lib.hid (HI.out x (by have := HSZ.out; omega) _ wo F hvr (fun i hi => Nat.lt_of_lt_of_le (HF.out i hi) HB.out.size) ⟨tameL_get HTL.out hx, by omega⟩)
            have htk := sumC_take Rx.posK ps k x hx
            obtain ⟨P, hP⟩ : ∃ P, P = min (baseP kind + sumC Rx.posK (ps.take k)) 65 := ⟨_, rfl⟩
            obtain ⟨X, hX⟩ : ∃ X, X = x.posK := ⟨_, rfl⟩
            have hXl := posK_le x
            have hPl : P ≤ 65 := by omega
            rw [← hX] at hXl
            rw [← hP]
            rw [← hX] at HC
            have HQ := Lib.hid (show (min (baseP kind + sumC Rx.posK (ps.take (k + 1))) 65 : Nat) = min (P + X) 65 by rw [hP, hX, htk]; omega)
            clear htk hP hX hx hvx hcx hcc hvr hAx hszx hszle
            go_wp2_with fail
            refine HC.out.mono ?_
            rintro ee w2 ⟨rfl, hb2⟩
            have HB2 := Lib.hid (HB.out.trans (hb2.mono HB.out.size))
            have HR2 := Lib.hid (HR.out.below hb2 HR.out.lt)
            clear hb2 HC HB HR c0 c1 c2 c3 c4 c5 c6 c7 y0 y1 y2 y3 y4 y5 y6 y7
            go_wp2_with fail
            go_roundg f
            case measure => omega
            case rel => exact ⟨k + 1, hlt, by omega, rfl, by rw [HQ.out]; congr 1 <;> omega, HB2, HR2⟩
          · obtain rfl : k = ps.length := by omega
            have htk : ps.take ps.length = ps := List.take_length
            rw [htk]
            go_wp2_with fail
            go_meet
            case rel => exact ⟨rfl, HB, HR⟩
      case rest =>
        obtain ⟨rfl, HB, HR⟩ := hcut
        clear HB1 HR1 HI HVS HRD
        obtain ⟨⟨⟨c0, c1⟩, c2, c3⟩, ⟨c4, c5⟩, c6, c7⟩ := HR.out.cells
        obtain ⟨P, hP⟩ : ∃ P, P = min (baseP kind + sumC Rx.posK ps) 65 := ⟨_, rfl⟩
        obtain ⟨X, hX⟩ : ∃ X, X = baseP kind + sumC Rx.posK ps := ⟨_, rfl⟩
        have hPX : P = min X 65 := by rw [hP, hX]
        have HD2 := HND.out
        rw [← hX] at HD2
        rw [← hP]
        have hPM : P ≤ 65 := by omega
        obtain ⟨q, hq⟩ : ∃ q : Nat, hi = (q : Int) := ⟨hi.toNat, by have := HZ.out.2; omega⟩
        subst hq
        have hm : mulC kind lo q X = X * q := by unfold mulC copZ; rw [if_pos HZ.out.1, if_neg (by omega)]; rfl
        rw [hm] at HD2
        have hq64 : q ≤ 64 := by omega
        have m1 : P * q ≤ 65 * 64 := Nat.mul_le_mul hPM hq64
        have hcm := cap_mul P X q 65 hPX
        have M1 : ((P : Int)) * (q : Int) = ((P * q : Nat) : Int) := by simp
        generalize P * q = PQ at *
        generalize X * q = XQ at *
        have HPX := Lib.hid hPX
        clear hP hX hPX
        go_wp2_with fail
        go_ret
        have hPX := HPX.out
        refine ⟨?_, HB.out⟩
        rw [← HD2]
        refine congrArg (fun z => Ending.returned (.int .i64 z)) ?_
        omega
    by_cases hz2 : kind = 5
    · have q2 : ((kind : Int) == 2) = false := by simp; omega
      have q2' : ((kind : Int) != 2) = true := by simp; omega
      have HBP := Lib.hid (show baseP kind = 0 by unfold baseP; rw [if_neg (by omega)])
      have q5 : ((kind : Int) == 5) = true := by simp; omega
      have qh : decide (0 ≤ hi) = false := by simp; omega
      have HZ := Lib.hid (show kind = 5 ∧ hi = -1 by omega)
      clear hz0 hz1 hz2
      go_enter Tryd.func40, Tryd.ntmps40
      go_upto_block 0 with (fail)
      rw [← HW1.out]
      clear HW1
      go_cut [3] (fun t wc => t = .int .i64 (min (baseP kind + sumC Rx.posK ps) 65 : Nat) ∧ Hid (Below w.heap.size w wc) ∧ Hid (R8 wc w.heap.size (.int .i64 kind) (.int .u64 u0) (.int .u64 u1) (.int .u64 u2) (.int .u64 u3) (.int .i64 lo) (.int .i64 hi) (.slice A ps.length c)))
      case first =>
        go_wp2_with fail
        go_loopg [3, 4] (ps.length + 1) (fun f t i wr => ∃ k : Nat, k ≤ ps.length ∧ ps.length < k + f ∧ i = .int .i64 k ∧ t = .int .i64 (min (baseP kind + sumC Rx.posK (ps.take k)) 65 : Nat) ∧ Hid (Below w.heap.size w wr) ∧ Hid (R8 wr w.heap.size (.int .i64 kind) (.int .u64 u0) (.int .u64 u1) (.int .u64 u2) (.int .u64 u3) (.int .i64 lo) (.int .i64 hi) (.slice A ps.length c)))
        case atStart => exact ⟨0, Nat.zero_le _, by omega, rfl, by rw [List.take_zero]; rw [HBP.out]; rfl, HB1, HR1⟩
        case round =>
          clear HB1 HR1
          obtain ⟨k, hk, hkf, rfl, rfl, HB, HR⟩ := hrel
          obtain ⟨f, rfl⟩ : ∃ f, gk = f + 1 := ⟨gk - 1, by omega⟩
          obtain ⟨⟨⟨c0, c1⟩, c2, c3⟩, ⟨c4, c5⟩, c6, c7⟩ := HR.out.cells
          obtain ⟨wo, hwo⟩ : ∃ wo, wo = wr := ⟨_, rfl⟩
          subst hwo
          have hps : ps.length ≤ 1000000000 := by have := sizeL_ge ps; omega
          by_cases hlt : k < ps.length
          · obtain ⟨x, hx⟩ : ∃ x, ps[k]? = some x := ⟨_, List.getElem?_eq_getElem hlt⟩
            obtain ⟨cx, hvx, hcx⟩ := HVS.out.get k x hx
            obtain ⟨b', o', rfl, hFb, hbb, hcc⟩ := HRD.out.2 (by omega)
            have hszx := sizeL_take ps k x hx
            have hszle := sizeL_le ps (k + 1)
            have hvr := hvx.kept (Kept.of_below (F := fun _ => False) HB.out) (fun _ _ _ => id) (fun i hi _ => hi)
            obtain ⟨kd, a0, a1, a2, a3, lo', hi', A', n', c', rfl⟩ := hvx.eight
            have hAx : ∀ j u, [Value.int .i64 kd, .int .u64 a0, .int .u64 a1, .int .u64 a2, .int .u64 a3, .int .i64 lo', .int .i64 hi', .slice A' n' c'][j]? = some u → wo.cell? ⟨b', o' + k * 8 + j, none⟩ = some u := fun j u hu => by
              have := hcc (k * 8 + j) u (hcx j u hu)
              rw [show o' + k * 8 + j = o' + (k * 8 + j) by omega]
              exact (HB.out.cell (p := ⟨b', o' + (k * 8 + j), none⟩) hbb).trans this
            have y0 := hAx 0 _ rfl
            have y1 := hAx 1 _ rfl
            have y2 := hAx 2 _ rfl
            have y3 := hAx 3 _ rfl
            have y4 := hAx 4 _ rfl
            have y5 := hAx 5 _ rfl
            have y6 := hAx 6 _ rfl
            have y7 := hAx 7 _ rfl
            rw [Nat.add_zero] at y0
            have HC := Lib.hid (HI.out x (by have := HSZ.out; omega) _ wo F hvr (fun i hi => Nat.lt_of_lt_of_le (HF.out i hi) HB.out.size) ⟨tameL_get HTL.out hx, by omega⟩)
            have htk := sumC_take Rx.posK ps k x hx
            obtain ⟨P, hP⟩ : ∃ P, P = min (baseP kind + sumC Rx.posK (ps.take k)) 65 := ⟨_, rfl⟩
            obtain ⟨X, hX⟩ : ∃ X, X = x.posK := ⟨_, rfl⟩
            have hXl := posK_le x
            have hPl : P ≤ 65 := by omega
            rw [← hX] at hXl
            rw [← hP]
            rw [← hX] at HC
            have HQ := Lib.hid (show (min (baseP kind + sumC Rx.posK (ps.take (k + 1))) 65 : Nat) = min (P + X) 65 by rw [hP, hX, htk]; omega)
            clear htk hP hX hx hvx hcx hcc hvr hAx hszx hszle
            go_wp2_with fail
            refine HC.out.mono ?_
            rintro ee w2 ⟨rfl, hb2⟩
            have HB2 := Lib.hid (HB.out.trans (hb2.mono HB.out.size))
            have HR2 := Lib.hid (HR.out.below hb2 HR.out.lt)
            clear hb2 HC HB HR c0 c1 c2 c3 c4 c5 c6 c7 y0 y1 y2 y3 y4 y5 y6 y7
            go_wp2_with fail
            go_roundg f
            case measure => omega
            case rel => exact ⟨k + 1, hlt, by omega, rfl, by rw [HQ.out]; congr 1 <;> omega, HB2, HR2⟩
          · obtain rfl : k = ps.length := by omega
            have htk : ps.take ps.length = ps := List.take_length
            rw [htk]
            go_wp2_with fail
            go_meet
            case rel => exact ⟨rfl, HB, HR⟩
      case rest =>
        obtain ⟨rfl, HB, HR⟩ := hcut
        clear HB1 HR1 HI HVS HRD
        obtain ⟨⟨⟨c0, c1⟩, c2, c3⟩, ⟨c4, c5⟩, c6, c7⟩ := HR.out.cells
        obtain ⟨P, hP⟩ : ∃ P, P = min (baseP kind + sumC Rx.posK ps) 65 := ⟨_, rfl⟩
        obtain ⟨X, hX⟩ : ∃ X, X = baseP kind + sumC Rx.posK ps := ⟨_, rfl⟩
        have hPX : P = min X 65 := by rw [hP, hX]
        have HD2 := HND.out
        rw [← hX] at HD2
        rw [← hP]
        have hPM : P ≤ 65 := by omega
        obtain ⟨q, hq⟩ : ∃ q : Nat, lo = (q : Int) := ⟨lo.toNat, by omega⟩
        subst hq
        obtain rfl : hi = -1 := HZ.out.2
        have hm : mulC kind q (-1) X = X * max q 1 := by unfold mulC copZ; rw [if_pos HZ.out.1, if_pos rfl]; rfl
        rw [hm] at HD2
        have hq64 : max q 1 ≤ 64 := by omega
        have hmx : max (q : Int) 1 = ((max q 1 : Nat) : Int) := by omega
        generalize max q 1 = q1 at *
        have m1 : P * q1 ≤ 65 * 64 := Nat.mul_le_mul hPM hq64
        have hcm := cap_mul P X q1 65 hPX
        have M1 : ((P : Int)) * (q1 : Int) = ((P * q1 : Nat) : Int) := by simp
        generalize P * q1 = PQ at *
        generalize X * q1 = XQ at *
        have HPX := Lib.hid hPX
        clear hP hX hPX
        go_wp2_with fail
        go_ret
        have hPX := HPX.out
        refine ⟨?_, HB.out⟩
        rw [← HD2]
        refine congrArg (fun z => Ending.returned (.int .i64 z)) ?_
        omega
    have q2 : ((kind : Int) == 2) = false := by simp; omega
    have q2' : ((kind : Int) != 2) = true := by simp; omega
    have HBP := Lib.hid (show baseP kind = 0 by unfold baseP; rw [if_neg (by omega)])
    have q5 : ((kind : Int) == 5) = false := by simp; omega
    have HZ := Lib.hid (show ¬ kind = 5 by omega)
    clear hz0 hz1 hz2
    go_enter Tryd.func40, Tryd.ntmps40
    go_upto_block 0 with (fail)
    rw [← HW1.out]
    clear HW1
    go_cut [3] (fun t wc => t = .int .i64 (min (baseP kind + sumC Rx.posK ps) 65 : Nat) ∧ Hid (Below w.heap.size w wc) ∧ Hid (R8 wc w.heap.size (.int .i64 kind) (.int .u64 u0) (.int .u64 u1) (.int .u64 u2) (.int .u64 u3) (.int .i64 lo) (.int .i64 hi) (.slice A ps.length c)))
    case first =>
      go_wp2_with fail
      go_loopg [3, 4] (ps.length + 1) (fun f t i wr => ∃ k : Nat, k ≤ ps.length ∧ ps.length < k + f ∧ i = .int .i64 k ∧ t = .int .i64 (min (baseP kind + sumC Rx.posK (ps.take k)) 65 : Nat) ∧ Hid (Below w.heap.size w wr) ∧ Hid (R8 wr w.heap.size (.int .i64 kind) (.int .u64 u0) (.int .u64 u1) (.int .u64 u2) (.int .u64 u3) (.int .i64 lo) (.int .i64 hi) (.slice A ps.length c)))
      case atStart => exact ⟨0, Nat.zero_le _, by omega, rfl, by rw [List.take_zero]; rw [HBP.out]; rfl, HB1, HR1⟩
      case round =>
        clear HB1 HR1
        obtain ⟨k, hk, hkf, rfl, rfl, HB, HR⟩ := hrel
        obtain ⟨f, rfl⟩ : ∃ f, gk = f + 1 := ⟨gk - 1, by omega⟩
        obtain ⟨⟨⟨c0, c1⟩, c2, c3⟩, ⟨c4, c5⟩, c6, c7⟩ := HR.out.cells
        obtain ⟨wo, hwo⟩ : ∃ wo, wo = wr := ⟨_, rfl⟩
        subst hwo
        have hps : ps.length ≤ 1000000000 := by have := sizeL_ge ps; omega
        by_cases hlt : k < ps.length
        · obtain ⟨x, hx⟩ : ∃ x, ps[k]? = some x := ⟨_, List.getElem?_eq_getElem hlt⟩
          obtain ⟨cx, hvx, hcx⟩ := HVS.out.get k x hx
          obtain ⟨b', o', rfl, hFb, hbb, hcc⟩ := HRD.out.2 (by omega)
          have hszx := sizeL_take ps k x hx
          have hszle := sizeL_le ps (k + 1)
          have hvr := hvx.kept (Kept.of_below (F := fun _ => False) HB.out) (fun _ _ _ => id) (fun i hi _ => hi)
          obtain ⟨kd, a0, a1, a2, a3, lo', hi', A', n', c', rfl⟩ := hvx.eight
          have hAx : ∀ j u, [Value.int .i64 kd, .int .u64 a0, .int .u64 a1, .int .u64 a2, .int .u64 a3, .int .i64 lo', .int .i64 hi', .slice A' n' c'][j]? = some u → wo.cell? ⟨b', o' + k * 8 + j, none⟩ = some u := fun j u hu => by
            have := hcc (k * 8 + j) u (hcx j u hu)
            rw [show o' + k * 8 + j = o' + (k * 8 + j) by omega]
            exact (HB.out.cell (p := ⟨b', o' + (k * 8 + j), none⟩) hbb).trans this
          have y0 := hAx 0 _ rfl
          have y1 := hAx 1 _ rfl
          have y2 := hAx 2 _ rfl
          have y3 := hAx 3 _ rfl
          have y4 := hAx 4 _ rfl
          have y5 := hAx 5 _ rfl
          have y6 := hAx 6 _ rfl
          have y7 := hAx 7 _ rfl
          rw [Nat.add_zero] at y0
          have HC := Lib.hid (HI.out x (by have := HSZ.out; omega) _ wo F hvr (fun i hi => Nat.lt_of_lt_of_le (HF.out i hi) HB.out.size) ⟨tameL_get HTL.out hx, by omega⟩)
          have htk := sumC_take Rx.posK ps k x hx
          obtain ⟨P, hP⟩ : ∃ P, P = min (baseP kind + sumC Rx.posK (ps.take k)) 65 := ⟨_, rfl⟩
          obtain ⟨X, hX⟩ : ∃ X, X = x.posK := ⟨_, rfl⟩
          have hXl := posK_le x
          have hPl : P ≤ 65 := by omega
          rw [← hX] at hXl
          rw [← hP]
          rw [← hX] at HC
          have HQ := Lib.hid (show (min (baseP kind + sumC Rx.posK (ps.take (k + 1))) 65 : Nat) = min (P + X) 65 by rw [hP, hX, htk]; omega)
          clear htk hP hX hx hvx hcx hcc hvr hAx hszx hszle
          go_wp2_with fail
          refine HC.out.mono ?_
          rintro ee w2 ⟨rfl, hb2⟩
          have HB2 := Lib.hid (HB.out.trans (hb2.mono HB.out.size))
          have HR2 := Lib.hid (HR.out.below hb2 HR.out.lt)
          clear hb2 HC HB HR c0 c1 c2 c3 c4 c5 c6 c7 y0 y1 y2 y3 y4 y5 y6 y7
          go_wp2_with fail
          go_roundg f
          case measure => omega
          case rel => exact ⟨k + 1, hlt, by omega, rfl, by rw [HQ.out]; congr 1 <;> omega, HB2, HR2⟩
        · obtain rfl : k = ps.length := by omega
          have htk : ps.take ps.length = ps := List.take_length
          rw [htk]
          go_wp2_with fail
          go_meet
          case rel => exact ⟨rfl, HB, HR⟩
    case rest =>
      obtain ⟨rfl, HB, HR⟩ := hcut
      clear HB1 HR1 HI HVS HRD
      obtain ⟨⟨⟨c0, c1⟩, c2, c3⟩, ⟨c4, c5⟩, c6, c7⟩ := HR.out.cells
      obtain ⟨P, hP⟩ : ∃ P, P = min (baseP kind + sumC Rx.posK ps) 65 := ⟨_, rfl⟩
      obtain ⟨X, hX⟩ : ∃ X, X = baseP kind + sumC Rx.posK ps := ⟨_, rfl⟩
      have hPX : P = min X 65 := by rw [hP, hX]
      have HD2 := HND.out
      rw [← hX] at HD2
      rw [← hP]
      have hPM : P ≤ 65 := by omega
      have hm : mulC kind lo hi X = X := by unfold mulC; rw [if_neg HZ.out]
      rw [hm] at HD2
      have HPX := Lib.hid hPX
      clear hP hX hPX
      go_wp2_with fail
      go_ret
      have hPX := HPX.out
      refine ⟨?_, HB.out⟩
      rw [← HD2]
      refine congrArg (fun z => Ending.returned (.int .i64 z)) ?_
      omega
set_option maxRecDepth 100000 in
set_option maxHeartbeats 4000000 in
theorem gwri_any : ∀ (n : Nat) (r : Rx), r.size ≤ n → ∀ (cs : List Value) (w : World) (F : Nat → Prop), RxV w F r cs → (∀ i, F i → i < w.heap.size) → (r.tame ∧ r.size ≤ 1000000000) →
    Calls Tryd.prog 41 #[.agg cs.toArray] w fun e w' => e = .returned (.int .i64 (r.wriK : Nat)) ∧ Below w.heap.size w w'
  | 0, r, hn, _, _, _, _, _, _ => by have := r.size_pos; omega
  | n + 1, .node kind u0 u1 u2 u3 lo hi ps, hn, cs, w, F, hv, hF, ht => by
    have ih := gwri_any n
    unfold RxV at hv
    obtain ⟨A, c, css, rfl, hrd, hvs⟩ := hv
    have hnode := wri_node kind u0 u1 u2 u3 lo hi ps 4097
    have HND := Lib.hid (show min (mulC kind lo hi (sumC Rx.wriK ps) + 1) 4097 = (Rx.node kind u0 u1 u2 u3 lo hi ps).wriK from hnode)
    clear hnode
    unfold Rx.tame at ht
    obtain ⟨⟨hkd, _, _, _, _, hlo0, hlo, hhi0, hhi, htl⟩, hsz⟩ := ht
    have HTL := Lib.hid htl
    unfold Rx.size at hsz
    clear htl
    have HSZ := Lib.hid (show 1 + sizeL ps ≤ n + 1 from hn)
    have HRD := Lib.hid hrd
    have HVS := Lib.hid hvs
    have HF := Lib.hid hF
    have HI := Lib.hid ih
    have HR1 := Lib.hid (show R8 (w.alloc (.cells #[.int .i64 kind, .int .u64 u0, .int .u64 u1, .int .u64 u2, .int .u64 u3, .int .i64 lo, .int .i64 hi, .slice A ps.length c] 27)) w.heap.size (.int .i64 kind) (.int .u64 u0) (.int .u64 u1) (.int .u64 u2) (.int .u64 u3) (.int .i64 lo) (.int .i64 hi) (.slice A ps.length c) from Blk.new w _ _)
    have HB1 := Lib.hid ((Below.refl w.heap.size w).alloc (Nat.le_refl _) (.cells #[.int .i64 kind, .int .u64 u0, .int .u64 u1, .int .u64 u2, .int .u64 u3, .int .i64 lo, .int .i64 hi, .slice A ps.length c] 27))
    obtain ⟨w1, hw1⟩ : ∃ w1, w1 = w.alloc (.cells #[.int .i64 kind, .int .u64 u0, .int .u64 u1, .int .u64 u2, .int .u64 u3, .int .i64 lo, .int .i64 hi, .slice A ps.length c] 27) := ⟨_, rfl⟩
    rw [← hw1] at HR1 HB1
    have HW1 := Lib.hid hw1
    clear hrd hvs hF ih hn hw1
    by_cases hz0 : kind = 5 ∧ 0 ≤ hi
    · have q5 : ((kind : Int) == 5) = true := by simp; omega
      have qh : decide (0 ≤ hi) = true := by simp; omega
      have HZ := Lib.hid (show kind = 5 ∧ 0 ≤ hi by omega)
      clear hz0
      go_enter Tryd.func41, Tryd.ntmps41
      go_upto_block 0 with (fail)
      rw [← HW1.out]
      clear HW1
      go_cut [3] (fun t wc => t = .int .i64 (min (sumC Rx.wriK ps) 4097 : Nat) ∧ Hid (Below w.heap.size w wc) ∧ Hid (R8 wc w.heap.size (.int .i64 kind) (.int .u64 u0) (.int .u64 u1) (.int .u64 u2) (.int .u64 u3) (.int .i64 lo) (.int .i64 hi) (.slice A ps.length c)))
      case first =>
        go_wp2_with fail
        go_loopg [3, 4] (ps.length + 1) (fun f t i wr => ∃ k : Nat, k ≤ ps.length ∧ ps.length < k + f ∧ i = .int .i64 k ∧ t = .int .i64 (min (sumC Rx.wriK (ps.take k)) 4097 : Nat) ∧ Hid (Below w.heap.size w wr) ∧ Hid (R8 wr w.heap.size (.int .i64 kind) (.int .u64 u0) (.int .u64 u1) (.int .u64 u2) (.int .u64 u3) (.int .i64 lo) (.int .i64 hi) (.slice A ps.length c)))
        case atStart => exact ⟨0, Nat.zero_le _, by omega, rfl, by rw [List.take_zero]; rfl, HB1, HR1⟩
        case round =>
          clear HB1 HR1
          obtain ⟨k, hk, hkf, rfl, rfl, HB, HR⟩ := hrel
          obtain ⟨f, rfl⟩ : ∃ f, gk = f + 1 := ⟨gk - 1, by omega⟩
          obtain ⟨⟨⟨c0, c1⟩, c2, c3⟩, ⟨c4, c5⟩, c6, c7⟩ := HR.out.cells
          obtain ⟨wo, hwo⟩ : ∃ wo, wo = wr := ⟨_, rfl⟩
          subst hwo
          have hps : ps.length ≤ 1000000000 := by have := sizeL_ge ps; omega
          by_cases hlt : k < ps.length
          · obtain ⟨x, hx⟩ : ∃ x, ps[k]? = some x := ⟨_, List.getElem?_eq_getElem hlt⟩
            obtain ⟨cx, hvx, hcx⟩ := HVS.out.get k x hx
            obtain ⟨b', o', rfl, hFb, hbb, hcc⟩ := HRD.out.2 (by omega)
            have hszx := sizeL_take ps k x hx
            have hszle := sizeL_le ps (k + 1)
            have hvr := hvx.kept (Kept.of_below (F := fun _ => False) HB.out) (fun _ _ _ => id) (fun i hi _ => hi)
            obtain ⟨kd, a0, a1, a2, a3, lo', hi', A', n', c', rfl⟩ := hvx.eight
            have hAx : ∀ j u, [Value.int .i64 kd, .int .u64 a0, .int .u64 a1, .int .u64 a2, .int .u64 a3, .int .i64 lo', .int .i64 hi', .slice A' n' c'][j]? = some u → wo.cell? ⟨b', o' + k * 8 + j, none⟩ = some u := fun j u hu => by
              have := hcc (k * 8 + j) u (hcx j u hu)
              rw [show o' + k * 8 + j = o' + (k * 8 + j) by omega]
              exact (HB.out.cell (p := ⟨b', o' + (k * 8 + j), none⟩) hbb).trans this
            have y0 := hAx 0 _ rfl
            have y1 := hAx 1 _ rfl
            have y2 := hAx 2 _ rfl
            have y3 := hAx 3 _ rfl
            have y4 := hAx 4 _ rfl
            have y5 := hAx 5 _ rfl
            have y6 := hAx 6 _ rfl
            have y7 := hAx 7 _ rfl
            rw [Nat.add_zero] at y0
            have HC := Lib.hid (HI.out x (by have := HSZ.out; omega) _ wo F hvr (fun i hi => Nat.lt_of_lt_of_le (HF.out i hi) HB.out.size) ⟨tameL_get HTL.out hx, by omega⟩)
            have htk := sumC_take Rx.wriK ps k x hx
            obtain ⟨P, hP⟩ : ∃ P, P = min (sumC Rx.wriK (ps.take k)) 4097 := ⟨_, rfl⟩
            obtain ⟨X, hX⟩ : ∃ X, X = x.wriK := ⟨_, rfl⟩
            have hXl := wriK_le x
            have hPl : P ≤ 4097 := by omega
            rw [← hX] at hXl
            rw [← hP]
            rw [← hX] at HC
            have HQ := Lib.hid (show (min (sumC Rx.wriK (ps.take (k + 1))) 4097 : Nat) = min (P + X) 4097 by rw [hP, hX, htk]; omega)
            clear htk hP hX hx hvx hcx hcc hvr hAx hszx hszle
            go_wp2_with fail
            refine HC.out.mono ?_
            rintro ee w2 ⟨rfl, hb2⟩
            have HB2 := Lib.hid (HB.out.trans (hb2.mono HB.out.size))
            have HR2 := Lib.hid (HR.out.below hb2 HR.out.lt)
            clear hb2 HC HB HR c0 c1 c2 c3 c4 c5 c6 c7 y0 y1 y2 y3 y4 y5 y6 y7
            go_wp2_with fail
            go_roundg f
            case measure => omega
            case rel => exact ⟨k + 1, hlt, by omega, rfl, by rw [HQ.out]; congr 1 <;> omega, HB2, HR2⟩
          · obtain rfl : k = ps.length := by omega
            have htk : ps.take ps.length = ps := List.take_length
            rw [htk]
            go_wp2_with fail
            go_meet
            case rel => exact ⟨rfl, HB, HR⟩
      case rest =>
        obtain ⟨rfl, HB, HR⟩ := hcut
        clear HB1 HR1 HI HVS HRD
        obtain ⟨⟨⟨c0, c1⟩, c2, c3⟩, ⟨c4, c5⟩, c6, c7⟩ := HR.out.cells
        obtain ⟨P, hP⟩ : ∃ P, P = min (sumC Rx.wriK ps) 4097 := ⟨_, rfl⟩
        obtain ⟨X, hX⟩ : ∃ X, X = sumC Rx.wriK ps := ⟨_, rfl⟩
        have hPX : P = min X 4097 := by rw [hP, hX]
        have HD2 := HND.out
        rw [← hX] at HD2
        rw [← hP]
        have hPM : P ≤ 4097 := by omega
        obtain ⟨q, hq⟩ : ∃ q : Nat, hi = (q : Int) := ⟨hi.toNat, by have := HZ.out.2; omega⟩
        subst hq
        have hm : mulC kind lo q X = X * q := by unfold mulC copZ; rw [if_pos HZ.out.1, if_neg (by omega)]; rfl
        rw [hm] at HD2
        have hq64 : q ≤ 64 := by omega
        have m1 : P * q ≤ 4097 * 64 := Nat.mul_le_mul hPM hq64
        have hcm := cap_mul P X q 4097 hPX
        have M1 : ((P : Int)) * (q : Int) = ((P * q : Nat) : Int) := by simp
        generalize P * q = PQ at *
        generalize X * q = XQ at *
        have HPX := Lib.hid hPX
        clear hP hX hPX
        go_wp2_with fail
        go_ret
        have hPX := HPX.out
        refine ⟨?_, HB.out⟩
        rw [← HD2]
        refine congrArg (fun z => Ending.returned (.int .i64 z)) ?_
        omega
    by_cases hz1 : kind = 5
    · have q5 : ((kind : Int) == 5) = true := by simp; omega
      have qh : decide (0 ≤ hi) = false := by simp; omega
      have HZ := Lib.hid (show kind = 5 ∧ hi = -1 by omega)
      clear hz0 hz1
      go_enter Tryd.func41, Tryd.ntmps41
      go_upto_block 0 with (fail)
      rw [← HW1.out]
      clear HW1
      go_cut [3] (fun t wc => t = .int .i64 (min (sumC Rx.wriK ps) 4097 : Nat) ∧ Hid (Below w.heap.size w wc) ∧ Hid (R8 wc w.heap.size (.int .i64 kind) (.int .u64 u0) (.int .u64 u1) (.int .u64 u2) (.int .u64 u3) (.int .i64 lo) (.int .i64 hi) (.slice A ps.length c)))
      case first =>
        go_wp2_with fail
        go_loopg [3, 4] (ps.length + 1) (fun f t i wr => ∃ k : Nat, k ≤ ps.length ∧ ps.length < k + f ∧ i = .int .i64 k ∧ t = .int .i64 (min (sumC Rx.wriK (ps.take k)) 4097 : Nat) ∧ Hid (Below w.heap.size w wr) ∧ Hid (R8 wr w.heap.size (.int .i64 kind) (.int .u64 u0) (.int .u64 u1) (.int .u64 u2) (.int .u64 u3) (.int .i64 lo) (.int .i64 hi) (.slice A ps.length c)))
        case atStart => exact ⟨0, Nat.zero_le _, by omega, rfl, by rw [List.take_zero]; rfl, HB1, HR1⟩
        case round =>
          clear HB1 HR1
          obtain ⟨k, hk, hkf, rfl, rfl, HB, HR⟩ := hrel
          obtain ⟨f, rfl⟩ : ∃ f, gk = f + 1 := ⟨gk - 1, by omega⟩
          obtain ⟨⟨⟨c0, c1⟩, c2, c3⟩, ⟨c4, c5⟩, c6, c7⟩ := HR.out.cells
          obtain ⟨wo, hwo⟩ : ∃ wo, wo = wr := ⟨_, rfl⟩
          subst hwo
          have hps : ps.length ≤ 1000000000 := by have := sizeL_ge ps; omega
          by_cases hlt : k < ps.length
          · obtain ⟨x, hx⟩ : ∃ x, ps[k]? = some x := ⟨_, List.getElem?_eq_getElem hlt⟩
            obtain ⟨cx, hvx, hcx⟩ := HVS.out.get k x hx
            obtain ⟨b', o', rfl, hFb, hbb, hcc⟩ := HRD.out.2 (by omega)
            have hszx := sizeL_take ps k x hx
            have hszle := sizeL_le ps (k + 1)
            have hvr := hvx.kept (Kept.of_below (F := fun _ => False) HB.out) (fun _ _ _ => id) (fun i hi _ => hi)
            obtain ⟨kd, a0, a1, a2, a3, lo', hi', A', n', c', rfl⟩ := hvx.eight
            have hAx : ∀ j u, [Value.int .i64 kd, .int .u64 a0, .int .u64 a1, .int .u64 a2, .int .u64 a3, .int .i64 lo', .int .i64 hi', .slice A' n' c'][j]? = some u → wo.cell? ⟨b', o' + k * 8 + j, none⟩ = some u := fun j u hu => by
              have := hcc (k * 8 + j) u (hcx j u hu)
              rw [show o' + k * 8 + j = o' + (k * 8 + j) by omega]
              exact (HB.out.cell (p := ⟨b', o' + (k * 8 + j), none⟩) hbb).trans this
            have y0 := hAx 0 _ rfl
            have y1 := hAx 1 _ rfl
            have y2 := hAx 2 _ rfl
            have y3 := hAx 3 _ rfl
            have y4 := hAx 4 _ rfl
            have y5 := hAx 5 _ rfl
            have y6 := hAx 6 _ rfl
            have y7 := hAx 7 _ rfl
            rw [Nat.add_zero] at y0
            have HC := Lib.hid (HI.out x (by have := HSZ.out; omega) _ wo F hvr (fun i hi => Nat.lt_of_lt_of_le (HF.out i hi) HB.out.size) ⟨tameL_get HTL.out hx, by omega⟩)
            have htk := sumC_take Rx.wriK ps k x hx
            obtain ⟨P, hP⟩ : ∃ P, P = min (sumC Rx.wriK (ps.take k)) 4097 := ⟨_, rfl⟩
            obtain ⟨X, hX⟩ : ∃ X, X = x.wriK := ⟨_, rfl⟩
            have hXl := wriK_le x
            have hPl : P ≤ 4097 := by omega
            rw [← hX] at hXl
            rw [← hP]
            rw [← hX] at HC
            have HQ := Lib.hid (show (min (sumC Rx.wriK (ps.take (k + 1))) 4097 : Nat) = min (P + X) 4097 by rw [hP, hX, htk]; omega)
            clear htk hP hX hx hvx hcx hcc hvr hAx hszx hszle
            go_wp2_with fail
            refine HC.out.mono ?_
            rintro ee w2 ⟨rfl, hb2⟩
            have HB2 := Lib.hid (HB.out.trans (hb2.mono HB.out.size))
            have HR2 := Lib.hid (HR.out.below hb2 HR.out.lt)
            clear hb2 HC HB HR c0 c1 c2 c3 c4 c5 c6 c7 y0 y1 y2 y3 y4 y5 y6 y7
            go_wp2_with fail
            go_roundg f
            case measure => omega
            case rel => exact ⟨k + 1, hlt, by omega, rfl, by rw [HQ.out]; congr 1 <;> omega, HB2, HR2⟩
          · obtain rfl : k = ps.length := by omega
            have htk : ps.take ps.length = ps := List.take_length
            rw [htk]
            go_wp2_with fail
            go_meet
            case rel => exact ⟨rfl, HB, HR⟩
      case rest =>
        obtain ⟨rfl, HB, HR⟩ := hcut
        clear HB1 HR1 HI HVS HRD
        obtain ⟨⟨⟨c0, c1⟩, c2, c3⟩, ⟨c4, c5⟩, c6, c7⟩ := HR.out.cells
        obtain ⟨P, hP⟩ : ∃ P, P = min (sumC Rx.wriK ps) 4097 := ⟨_, rfl⟩
        obtain ⟨X, hX⟩ : ∃ X, X = sumC Rx.wriK ps := ⟨_, rfl⟩
        have hPX : P = min X 4097 := by rw [hP, hX]
        have HD2 := HND.out
        rw [← hX] at HD2
        rw [← hP]
        have hPM : P ≤ 4097 := by omega
        obtain ⟨q, hq⟩ : ∃ q : Nat, lo = (q : Int) := ⟨lo.toNat, by omega⟩
        subst hq
        obtain rfl : hi = -1 := HZ.out.2
        have hm : mulC kind q (-1) X = X * max q 1 := by unfold mulC copZ; rw [if_pos HZ.out.1, if_pos rfl]; rfl
        rw [hm] at HD2
        have hq64 : max q 1 ≤ 64 := by omega
        have hmx : max (q : Int) 1 = ((max q 1 : Nat) : Int) := by omega
        generalize max q 1 = q1 at *
        have m1 : P * q1 ≤ 4097 * 64 := Nat.mul_le_mul hPM hq64
        have hcm := cap_mul P X q1 4097 hPX
        have M1 : ((P : Int)) * (q1 : Int) = ((P * q1 : Nat) : Int) := by simp
        generalize P * q1 = PQ at *
        generalize X * q1 = XQ at *
        have HPX := Lib.hid hPX
        clear hP hX hPX
        go_wp2_with fail
        go_ret
        have hPX := HPX.out
        refine ⟨?_, HB.out⟩
        rw [← HD2]
        refine congrArg (fun z => Ending.returned (.int .i64 z)) ?_
        omega
    have q5 : ((kind : Int) == 5) = false := by simp; omega
    have HZ := Lib.hid (show ¬ kind = 5 by omega)
    clear hz0 hz1
    go_enter Tryd.func41, Tryd.ntmps41
    go_upto_block 0 with (fail)
    rw [← HW1.out]
    clear HW1
    go_cut [3] (fun t wc => t = .int .i64 (min (sumC Rx.wriK ps) 4097 : Nat) ∧ Hid (Below w.heap.size w wc) ∧ Hid (R8 wc w.heap.size (.int .i64 kind) (.int .u64 u0) (.int .u64 u1) (.int .u64 u2) (.int .u64 u3) (.int .i64 lo) (.int .i64 hi) (.slice A ps.length c)))
    case first =>
      go_wp2_with fail
      go_loopg [3, 4] (ps.length + 1) (fun f t i wr => ∃ k : Nat, k ≤ ps.length ∧ ps.length < k + f ∧ i = .int .i64 k ∧ t = .int .i64 (min (sumC Rx.wriK (ps.take k)) 4097 : Nat) ∧ Hid (Below w.heap.size w wr) ∧ Hid (R8 wr w.heap.size (.int .i64 kind) (.int .u64 u0) (.int .u64 u1) (.int .u64 u2) (.int .u64 u3) (.int .i64 lo) (.int .i64 hi) (.slice A ps.length c)))
      case atStart => exact ⟨0, Nat.zero_le _, by omega, rfl, by rw [List.take_zero]; rfl, HB1, HR1⟩
      case round =>
        clear HB1 HR1
        obtain ⟨k, hk, hkf, rfl, rfl, HB, HR⟩ := hrel
        obtain ⟨f, rfl⟩ : ∃ f, gk = f + 1 := ⟨gk - 1, by omega⟩
        obtain ⟨⟨⟨c0, c1⟩, c2, c3⟩, ⟨c4, c5⟩, c6, c7⟩ := HR.out.cells
        obtain ⟨wo, hwo⟩ : ∃ wo, wo = wr := ⟨_, rfl⟩
        subst hwo
        have hps : ps.length ≤ 1000000000 := by have := sizeL_ge ps; omega
        by_cases hlt : k < ps.length
        · obtain ⟨x, hx⟩ : ∃ x, ps[k]? = some x := ⟨_, List.getElem?_eq_getElem hlt⟩
          obtain ⟨cx, hvx, hcx⟩ := HVS.out.get k x hx
          obtain ⟨b', o', rfl, hFb, hbb, hcc⟩ := HRD.out.2 (by omega)
          have hszx := sizeL_take ps k x hx
          have hszle := sizeL_le ps (k + 1)
          have hvr := hvx.kept (Kept.of_below (F := fun _ => False) HB.out) (fun _ _ _ => id) (fun i hi _ => hi)
          obtain ⟨kd, a0, a1, a2, a3, lo', hi', A', n', c', rfl⟩ := hvx.eight
          have hAx : ∀ j u, [Value.int .i64 kd, .int .u64 a0, .int .u64 a1, .int .u64 a2, .int .u64 a3, .int .i64 lo', .int .i64 hi', .slice A' n' c'][j]? = some u → wo.cell? ⟨b', o' + k * 8 + j, none⟩ = some u := fun j u hu => by
            have := hcc (k * 8 + j) u (hcx j u hu)
            rw [show o' + k * 8 + j = o' + (k * 8 + j) by omega]
            exact (HB.out.cell (p := ⟨b', o' + (k * 8 + j), none⟩) hbb).trans this
          have y0 := hAx 0 _ rfl
          have y1 := hAx 1 _ rfl
          have y2 := hAx 2 _ rfl
          have y3 := hAx 3 _ rfl
          have y4 := hAx 4 _ rfl
          have y5 := hAx 5 _ rfl
          have y6 := hAx 6 _ rfl
          have y7 := hAx 7 _ rfl
          rw [Nat.add_zero] at y0
          have HC := Lib.hid (HI.out x (by have := HSZ.out; omega) _ wo F hvr (fun i hi => Nat.lt_of_lt_of_le (HF.out i hi) HB.out.size) ⟨tameL_get HTL.out hx, by omega⟩)
          have htk := sumC_take Rx.wriK ps k x hx
          obtain ⟨P, hP⟩ : ∃ P, P = min (sumC Rx.wriK (ps.take k)) 4097 := ⟨_, rfl⟩
          obtain ⟨X, hX⟩ : ∃ X, X = x.wriK := ⟨_, rfl⟩
          have hXl := wriK_le x
          have hPl : P ≤ 4097 := by omega
          rw [← hX] at hXl
          rw [← hP]
          rw [← hX] at HC
          have HQ := Lib.hid (show (min (sumC Rx.wriK (ps.take (k + 1))) 4097 : Nat) = min (P + X) 4097 by rw [hP, hX, htk]; omega)
          clear htk hP hX hx hvx hcx hcc hvr hAx hszx hszle
          go_wp2_with fail
          refine HC.out.mono ?_
          rintro ee w2 ⟨rfl, hb2⟩
          have HB2 := Lib.hid (HB.out.trans (hb2.mono HB.out.size))
          have HR2 := Lib.hid (HR.out.below hb2 HR.out.lt)
          clear hb2 HC HB HR c0 c1 c2 c3 c4 c5 c6 c7 y0 y1 y2 y3 y4 y5 y6 y7
          go_wp2_with fail
          go_roundg f
          case measure => omega
          case rel => exact ⟨k + 1, hlt, by omega, rfl, by rw [HQ.out]; congr 1 <;> omega, HB2, HR2⟩
        · obtain rfl : k = ps.length := by omega
          have htk : ps.take ps.length = ps := List.take_length
          rw [htk]
          go_wp2_with fail
          go_meet
          case rel => exact ⟨rfl, HB, HR⟩
    case rest =>
      obtain ⟨rfl, HB, HR⟩ := hcut
      clear HB1 HR1 HI HVS HRD
      obtain ⟨⟨⟨c0, c1⟩, c2, c3⟩, ⟨c4, c5⟩, c6, c7⟩ := HR.out.cells
      obtain ⟨P, hP⟩ : ∃ P, P = min (sumC Rx.wriK ps) 4097 := ⟨_, rfl⟩
      obtain ⟨X, hX⟩ : ∃ X, X = sumC Rx.wriK ps := ⟨_, rfl⟩
      have hPX : P = min X 4097 := by rw [hP, hX]
      have HD2 := HND.out
      rw [← hX] at HD2
      rw [← hP]
      have hPM : P ≤ 4097 := by omega
      have hm : mulC kind lo hi X = X := by unfold mulC; rw [if_neg HZ.out]
      rw [hm] at HD2
      have HPX := Lib.hid hPX
      clear hP hX hPX
      go_wp2_with fail
      go_ret
      have hPX := HPX.out
      refine ⟨?_, HB.out⟩
      rw [← HD2]
      refine congrArg (fun z => Ending.returned (.int .i64 z)) ?_
      omega
end Go.Proofs.YtpiagfmjekcncaaDoor
