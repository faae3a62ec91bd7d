/- The walk of the document's expression (printed by gen_gn.py). -/
import Derived.Test.YtpiagfmjekcncaaDoorjGn
set_option linter.unusedVariables false
set_option linter.unusedSimpArgs false
set_option linter.unusedSectionVars false
namespace Go.Proofs.YtpiagfmjekcncaaDoor
open Go.RowKit
set_option maxRecDepth 100000 in
set_option maxHeartbeats 8000000 in
theorem galt_any {T : List UInt8} {g k0 d : Nat} (E : Nat → Rx × Nat × Bool) (w : World) (h : GS T w g k0 false) (hT : T.length ≤ 262144) (hk : k0 ≤ T.length) (hd : d ≤ 300000) (hd2 : 2 ≤ d) (hO : Gr.Ok T d E)
    (hE : ∀ k1 w1, k0 ≤ k1 → k1 ≤ T.length → GS T w1 g k1 false → Calls Tryd.prog 35 #[.pointer (some ⟨g, 0, none⟩)] w1 (GTEnd T w1 g (Gr.sqn T E k1))) : Calls Tryd.prog 20 #[.pointer (some ⟨g, 0, none⟩)] w (GTEnd T w g (Gr.alt T E k0)) := by
  obtain ⟨i0, hinf, hz0, hz1, hz2⟩ := info_parts infoR
  have HI := Lib.hid hinf
  have HI0 := Lib.hid hz0
  have HI1 := Lib.hid hz1
  have HI2 := Lib.hid hz2
  clear hinf hz0 hz1 hz2
  have hg := h.lt
  obtain ⟨Z, hZ⟩ : ∃ Z, Z = Gr.alt T E k0 := ⟨_, rfl⟩
  rw [← hZ]
  unfold Gr.alt at hZ
  have hsle := gr_sqn_le hd2 hO hk
  have HS0 := Lib.hid (hE k0 (w.alloc (.cells #[.int .i64 0, .int .u64 0, .int .u64 0, .int .u64 0, .int .u64 0, .int .i64 0, .int .i64 0, .slice none 0 0] 27)) (Nat.le_refl _) hk (h.alloc _))
  obtain ⟨r1, k1, b1, hr1⟩ : ∃ r1 k1 b1, Gr.sqn T E k0 = (r1, k1, b1) := ⟨_, _, _, rfl⟩
  rw [hr1] at hZ hsle HS0
  dsimp only at hZ hsle
  obtain ⟨hsl1, hsl2, hsl3⟩ := hsle
  obtain ⟨R, hR⟩ : ∃ R, R = Gr.altL T E (T.length + 2) [r1] k1 b1 := ⟨_, rfl⟩
  rw [← hR] at hZ
  have HZ := Lib.hid hZ
  have HR := Lib.hid hR
  have HO := Lib.hid hO
  have HC := Lib.hid hE
  have HR1 := Lib.hid (R8.mk0 w w.heap.size rfl)
  have HK1 := Lib.hid ((Kept.refl (isG g) w).alloc (.cells #[.int .i64 0, .int .u64 0, .int .u64 0, .int .u64 0, .int .u64 0, .int .i64 0, .int .i64 0, .slice none 0 0] 27))
  obtain ⟨w1, hw1⟩ : ∃ w1, w1 = w.alloc (.cells #[.int .i64 0, .int .u64 0, .int .u64 0, .int .u64 0, .int .u64 0, .int .i64 0, .int .i64 0, .slice none 0 0] 27) := ⟨_, rfl⟩
  rw [← hw1] at HS0 HR1 HK1
  have hw1s : w1.heap.size = w.heap.size + 1 := by rw [hw1]; simp
  have HW1 := Lib.hid hw1
  clear h hw1 hZ hR hE hO hr1
  go_enter Tryd.func20, Tryd.ntmps20
  go_upto_region 1 with (fail)
  rw [← HW1.out]
  clear HW1
  go_wp2_with fail
  refine HS0.out.mono ?_
  rintro ee w2 ⟨cs, rfl, hv, hs2, hk2⟩
  dsimp only at hv hs2
  obtain ⟨kd, a0, a1, a2, a3, lo, hi, A, n, c, rfl⟩ := hv.eight
  have hs12 : w1.heap.size ≤ w2.heap.size := hk2.size
  have HLQ := Lib.hid (⟨hs2.alloc _, LSt.one (lo := w.heap.size + 1) hv (fun i hhi _ => by have := hhi.1; omega) (by omega), (HR1.out.kept hk2 (fun e => by have e' : w.heap.size = g := e; omega)).alloc _, (HK1.out.then_ hk2).alloc _⟩ : LqSt T w g [r1] [.int .i64 kd, .int .u64 a0, .int .u64 a1, .int .u64 a2, .int .u64 a3, .int .i64 lo, .int .i64 hi, .slice A n c] (.slice (some ⟨w2.heap.size, 0, none⟩) 1 1) k1 b1 (w2.alloc (.cells #[.int .i64 kd, .int .u64 a0, .int .u64 a1, .int .u64 a2, .int .u64 a3, .int .i64 lo, .int .i64 hi, .slice A n c] 27)))
  obtain ⟨w3, hw3⟩ : ∃ w3, w3 = w2.alloc (.cells #[.int .i64 kd, .int .u64 a0, .int .u64 a1, .int .u64 a2, .int .u64 a3, .int .i64 lo, .int .i64 hi, .slice A n c] 27) := ⟨_, rfl⟩
  rw [← hw3] at HLQ
  have HW3 := Lib.hid hw3
  clear hv hs2 hk2 hw3 HS0 HR1 HK1
  go_upto_block 0 with (fail)
  rw [← HW3.out]
  clear HW3
  go_cut [3] (fun v wc => ∃ (l : List Rx) (css : List Value) (k : Nat) (b : Bool), (1 ≤ l.length ∧ l.length ≤ T.length + 2) ∧ Hid (Z = (Rx.alt l, k, b)) ∧ Hid (LqSt T w g l css v k b wc))
  case first =>
    go_wp2_with fail
    go_loopg [3] (T.length + 2) (fun f v wr => ∃ (l : List Rx) (css : List Value) (k : Nat) (b : Bool), (1 ≤ l.length ∧ l.length ≤ T.length + 2) ∧ (k0 ≤ k ∧ k ≤ T.length + d + 1 ∧ (b = false → k ≤ T.length ∧ l.length ≤ k + 1 ∧ T.length + 2 ≤ k + f)) ∧ Hid (Gr.altL T E f l k b = R) ∧ Hid (LqSt T w g l css v k b wr))
    case atStart => exact ⟨[r1], _, k1, b1, by simp, ⟨hsl1, hsl2, fun e => ⟨hsl3 e, by simp, by omega⟩⟩, Lib.hid HR.out.symm, HLQ⟩
    case round =>
      obtain ⟨l, css, k, b, ⟨hl1, hlen⟩, ⟨hk1, hk2, hkb⟩, hP, hlq⟩ := hrel
      obtain ⟨cc, hcc⟩ : ∃ cc, cc = Gr.nx T k := ⟨_, rfl⟩
      have HN := Lib.hid (gnext_any wr hlq.out.s hT (by omega))
      rw [← hcc] at HN
      obtain ⟨c0, c1, c2, q1, q2⟩ := hlq.out.s.cells
      obtain ⟨uc0, uc1⟩ := u8b cc
      obtain ⟨wo, hwo⟩ : ∃ wo, wo = wr := ⟨_, rfl⟩
      subst hwo
      have HLQ2 := Lib.hid hlq.out
      have hP2 := hP.out
      clear hP hlq HLQ
      rcases gr_bar (b := b) hcc with ⟨hst, hx⟩ | ⟨hst, hkl, h124, rfl⟩
      · rw [gr_altL_stop hst] at hP2
        have HP := Lib.hid (show Z = (Rx.alt l, k, b) by rw [HZ.out, ← hP2])
        clear hP2 hst hcc hkb HZ HR HC
        rcases hx with hge | ⟨hkl, h124⟩ | ⟨hkl, h124, rfl⟩
        · have e0 : decide (k < T.length) = false := decide_eq_false (by omega)
          rw [e0] at HN
          go_wp2_with fail
          refine HN.out.mono ?_
          rintro ee w4 ⟨rfl, n4, rfl⟩
          have HLQ4 := Lib.hid (HLQ2.out.drewN hg n4)
          obtain ⟨w4, hw4⟩ : ∃ w4, w4 = wo.drewN n4 := ⟨_, rfl⟩
          rw [← hw4] at HLQ4 ⊢
          clear hw4 HLQ2 HN c0 c1 c2 q1 q2
          obtain ⟨c0, c1, c2, q1, q2⟩ := HLQ4.out.s.cells
          go_wp2_with fail
          go_meet
          case rel => exact ⟨l, css, k, b, ⟨hl1, by omega⟩, HP, HLQ4⟩
        · have e0 : decide (k < T.length) = true := decide_eq_true (by omega)
          rw [e0] at HN
          have s124 : ((cc.toNat : Int) == 124) = false := glit (c := 124) h124
          have n124 : ((cc.toNat : Int) != 124) = true := by rw [show (124 : Int) = ((124 : UInt8).toNat : Int) from rfl, u8_ne_int]; exact bne_iff_ne.2 h124
          go_wp2_with fail
          refine HN.out.mono ?_
          rintro ee w4 ⟨rfl, n4, rfl⟩
          have HLQ4 := Lib.hid (HLQ2.out.drewN hg n4)
          obtain ⟨w4, hw4⟩ : ∃ w4, w4 = wo.drewN n4 := ⟨_, rfl⟩
          rw [← hw4] at HLQ4 ⊢
          clear hw4 HLQ2 HN c0 c1 c2 q1 q2
          obtain ⟨c0, c1, c2, q1, q2⟩ := HLQ4.out.s.cells
          go_wp2_with fail
          go_meet
          case rel => exact ⟨l, css, k, b, ⟨hl1, by omega⟩, HP, HLQ4⟩
        · have e0 : decide (k < T.length) = true := decide_eq_true (by omega)
          rw [e0] at HN
          have s124 : ((cc.toNat : Int) == 124) = true := by rw [h124]; rfl
          have n124 : ((cc.toNat : Int) != 124) = false := by rw [h124]; rfl
          go_wp2_with fail
          refine HN.out.mono ?_
          rintro ee w4 ⟨rfl, n4, rfl⟩
          have HLQ4 := Lib.hid (HLQ2.out.drewN hg n4)
          obtain ⟨w4, hw4⟩ : ∃ w4, w4 = wo.drewN n4 := ⟨_, rfl⟩
          rw [← hw4] at HLQ4 ⊢
          clear hw4 HLQ2 HN c0 c1 c2 q1 q2
          obtain ⟨c0, c1, c2, q1, q2⟩ := HLQ4.out.s.cells
          go_wp2_with fail
          go_meet
          case rel => exact ⟨l, css, k, true, ⟨hl1, by omega⟩, HP, HLQ4⟩
      · obtain ⟨hk3, hk4, hk5⟩ := hkb rfl
        obtain ⟨f, rfl⟩ : ∃ f, gk = f + 1 := ⟨gk - 1, by omega⟩
        rw [Gr.altL, if_pos hst] at hP2
        have hcle := gr_sqn_le hd2 HO.out (k := k + 1) (by omega)
        obtain ⟨r5, k5, b5, hr5⟩ : ∃ r5 k5 b5, Gr.sqn T E (k + 1) = (r5, k5, b5) := ⟨_, _, _, rfl⟩
        have HCC := Lib.hid (fun w1 hs => HC.out (k + 1) w1 (by omega) (by omega) hs)
        rw [hr5] at hP2 hcle HCC
        dsimp only at hP2 hcle
        obtain ⟨hq1, hq2, hq3⟩ := hcle
        have HPn := Lib.hid hP2
        clear hP2 hr5 hst hcc hkb HZ HR HC
        have e0 : decide (k < T.length) = true := decide_eq_true (by omega)
        rw [e0] at HN
        have s124 : ((cc.toNat : Int) == 124) = true := by rw [h124]; rfl
        have n124 : ((cc.toNat : Int) != 124) = false := by rw [h124]; rfl
        go_wp2_with fail
        refine HN.out.mono ?_
        rintro ee w4 ⟨rfl, n4, rfl⟩
        have HLQ4 := Lib.hid (HLQ2.out.drewN hg n4)
        obtain ⟨w4, hw4⟩ : ∃ w4, w4 = wo.drewN n4 := ⟨_, rfl⟩
        rw [← hw4] at HLQ4 ⊢
        clear hw4 HLQ2 HN c0 c1 c2 q1 q2
        obtain ⟨c0, c1, c2, q1, q2⟩ := HLQ4.out.s.cells
        have HLQ6 := Lib.hid (HLQ4.out.at hg (k + 1))
        obtain ⟨w7, hw7⟩ : ∃ w7, w7 = w4.setCell ⟨g, 1, none⟩ (.int .i64 ((k + 1 : Nat) : Int)) := ⟨_, rfl⟩
        rw [← hw7] at HLQ6
        rw [show ((k + 1 : Nat) : Int) = (k : Int) + 1 by omega] at hw7
        have HW7 := Lib.hid hw7
        clear hw7 HLQ4
        go_upto_region 5 with (fail)
        rw [← HW7.out]
        clear c0 c1 c2 q1 q2 HW7
        obtain ⟨w4, hw4⟩ : ∃ w4, w4 = w7 := ⟨_, rfl⟩
        rw [← hw4] at HLQ6 ⊢
        clear hw4
        have HLQ4 := Lib.hid HLQ6.out
        clear HLQ6
        obtain ⟨c0, c1, c2, q1, q2⟩ := HLQ4.out.s.cells
        go_wp2_with fail
        refine (HCC.out _ HLQ4.out.s).mono ?_
        rintro ee w5 ⟨cs, rfl, hv, hs5, hk5⟩
        dsimp only at hv hs5
        obtain ⟨kd, a0, a1, a2, a3, lo, hi, A, n, c, rfl⟩ := hv.eight
        have HVR := Lib.hid hv
        have HOW := Lib.hid (fun (i : Nat) e => own_ge (i := i) HLQ4.out.l.1 e)
        have HWZ := Lib.hid HLQ4.out.z.lt
        have HLQ5 := Lib.hid (HLQ4.out.kept hg hk5 hs5)
        have ho4 := HLQ5.out.l.1.alloc (.cells #[.int .i64 kd, .int .u64 a0, .int .u64 a1, .int .u64 a2, .int .u64 a3, .int .i64 lo, .int .i64 hi, .slice A n c] 27)
        have hrr := reads8 w5 (.int .i64 kd) (.int .u64 a0) (.int .u64 a1) (.int .u64 a2) (.int .u64 a3) (.int .i64 lo) (.int .i64 hi) (.slice A n c)
        have hone : ∀ u ∈ ([.int .i64 kd, .int .u64 a0, .int .u64 a1, .int .u64 a2, .int .u64 a3, .int .i64 lo, .int .i64 hi, .slice A n c] : List Value), u.oneCell' = true := by simp [Value.oneCell']
        have hs45 : w4.heap.size ≤ w5.heap.size := hk5.size
        have hwz := HWZ.out
        have hinf := HI.out
        have hz0 := HI0.out
        have hz1 := HI1.out
        have hz2 := HI2.out
        clear hv hs5 hk5 c0 c1 c2 q1 q2
        go_wp2_with (at_builtin; refine wpList_append_any _ rfl (.tmp 33) (.tmp 36) 25 rfl (w.heap.size + 1) 27 i0 (.agg #[.int .i64 0, .int .u64 0, .int .u64 0, .int .u64 0, .int .u64 0, .int .i64 0, .int .i64 0, .slice none 0 0]) 8 80 Tryd.underlying25 hinf hz0 hz1 hz2 rfl (by decide) _ l.length css rfl ho4 _ _ _ _ [.int .i64 kd, .int .u64 a0, .int .u64 a1, .int .u64 a2, .int .u64 a3, .int .i64 lo, .int .i64 hi, .slice A n c] rfl hrr hone (by unfold maxLen; omega) (by omega) (by simp; omega) ?_)
        intro v5 w6 hown5 hg5 hv5
        clear hinf hz0 hz1 hz2 ho4 hrr hone
        have HLN := Lib.hid (HLQ5.out.push hg HVR.out hwz (fun i e => (HOW.out i e).2) hown5 hg5 hv5)
        clear hown5 hg5 hv5 HLQ5 HVR HOW HWZ HLQ4
        go_wp2_with fail
        go_roundg f
        case measure => omega
        case rel => exact ⟨_, _, k5, b5, by simp; omega, ⟨by omega, by omega, fun e => by have := hq3 e; simp; omega⟩, HPn, HLN⟩
  case rest =>
  obtain ⟨l, css, k, b, ⟨hl1, hlen⟩, HP, HLQ⟩ := hcut
  clear HZ HR HC HO
  have HRx := Lib.hid HLQ.out.z
  have HSx := Lib.hid HLQ.out.s
  have HKx := Lib.hid HLQ.out.k
  have hLL := HLQ.out.l
  obtain ⟨A, c, rfl, hrd⟩ := own_form8 hLL.1
  have hvs := hLL.2
  clear HLQ hLL
  by_cases h2n : 2 ≤ l.length
  · obtain ⟨nl, hnl⟩ : ∃ nl, nl = l.length := ⟨_, rfl⟩
    have t0 : ((nl : Int) == 0) = false := by simp; omega
    have t1 : ((nl : Int) == 1) = false := by simp; omega
    rw [← hnl] at hrd hlen ⊢
    have HRD := Lib.hid hrd
    have HVS := Lib.hid hvs
    have HNL := Lib.hid hnl
    have hl2 : 2 ≤ nl := by omega
    rw [Rx.alt_many (by omega)] at HP
    clear hrd hvs hnl
    obtain ⟨⟨⟨r0, r1⟩, r2, r3⟩, ⟨r4, r5⟩, r6, r7⟩ := HRx.out.cells
    obtain ⟨⟨⟨z0, z1⟩, z2, z3⟩, ⟨z4, z5⟩, z6, z7⟩ := HRx.out.free
    have HF9 := Lib.hid (HRx.out.all (.int .i64 4) (.int .u64 0) (.int .u64 0) (.int .u64 0) (.int .u64 0) (.int .i64 0) (.int .i64 0) (.slice A nl c))
    have HG9 := Lib.hid (show GS T (set8 wc w.heap.size (.int .i64 4) (.int .u64 0) (.int .u64 0) (.int .u64 0) (.int .u64 0) (.int .i64 0) (.int .i64 0) (.slice A nl c)) g _ _ from Blk.set8 HSx.out (by omega) (.int .i64 4) (.int .u64 0) (.int .u64 0) (.int .u64 0) (.int .u64 0) (.int .i64 0) (.int .i64 0) (.slice A nl c))
    have HK9 := Lib.hid (kept_set8 HKx.out (.inr (Nat.le_refl w.heap.size)) (.int .i64 4) (.int .u64 0) (.int .u64 0) (.int .u64 0) (.int .u64 0) (.int .i64 0) (.int .i64 0) (.slice A nl c))
    go_wp2_with fail
    obtain ⟨⟨⟨d0, d1⟩, d2, d3⟩, ⟨d4, d5⟩, d6, d7⟩ := HF9.out.cells
    unfold set8 at d0 d1 d2 d3 d4 d5 d6 d7
    refine bodyPost_ret (v := .agg #[.int .i64 4, .int .u64 0, .int .u64 0, .int .u64 0, .int .u64 0, .int .i64 0, .int .i64 0, .slice A nl c]) (by simp [results, Tryd.results20, go_sem, d0, d1, d2, d3, d4, d5, d6, d7]) rfl ?_
    rw [HP.out]
    refine ⟨_, rfl, ?_, HG9.out, HK9.out⟩
    have hks := (kept_set8 (Kept.refl (fun i => i = w.heap.size) wc) (.inl rfl) (.int .i64 4) (.int .u64 0) (.int .u64 0) (.int .u64 0) (.int .u64 0) (.int .i64 0) (.int .i64 0) (.slice A nl c))
    exact gplain_rxv 4 HNL.out (HRD.out.keep (fun i hhi hl => hks.block i hl (fun e => by have e' : i = w.heap.size := e; have hh' : w.heap.size + 1 ≤ i := hhi; omega)) hks.size (fun i hhi hl => ⟨by have hh' : w.heap.size + 1 ≤ i := hhi; omega, Nat.lt_of_lt_of_le hl hks.size⟩)) (HVS.out.kept hks (fun i hhi _ e => by have e' : i = w.heap.size := e; have hh' := hhi.1; omega) (fun i hhi hl => ⟨by have hh' := hhi.1; omega, Nat.lt_of_lt_of_le hl (kept_set8 (Kept.refl (fun i => i = w.heap.size) wc) (.inl rfl) (.int .i64 4) (.int .u64 0) (.int .u64 0) (.int .u64 0) (.int .u64 0) (.int .i64 0) (.int .i64 0) (.slice A nl c)).size⟩))
  have h0n : ¬ l.length = 0 := by omega
  obtain ⟨r1, rfl⟩ : ∃ r1, l = [r1] := by
    match l, h2n, h0n with
    | [r1], _, _ => exact ⟨r1, rfl⟩
    | [], _, h => exact absurd rfl h
    | _ :: _ :: _, h, _ => exact absurd (by simp) h
  obtain ⟨bq, oo, rfl, hFb, hbb, hcc⟩ := hrd.2 (by simp)
  have hvs1 := hvs
  unfold RxVs RxVs at hvs1
  obtain ⟨cs, css', rfl, hv1, rfl⟩ := hvs1
  rw [List.append_nil] at hcc
  obtain ⟨kd, a0, a1, a2, a3, lo, hi, A', n, c', rfl⟩ := hv1.eight
  have y0 := hcc 0 _ rfl
  have y1 := hcc 1 _ rfl
  have y2 := hcc 2 _ rfl
  have y3 := hcc 3 _ rfl
  have y4 := hcc 4 _ rfl
  have y5 := hcc 5 _ rfl
  have y6 := hcc 6 _ rfl
  have y7 := hcc 7 _ rfl
  rw [Nat.add_zero] at y0
  have HVV := Lib.hid hv1
  clear hcc hrd hvs hv1
  simp only [List.length_singleton]
  obtain ⟨⟨⟨r0, r1⟩, r2, r3⟩, ⟨r4, r5⟩, r6, r7⟩ := HRx.out.cells
  obtain ⟨⟨⟨z0, z1⟩, z2, z3⟩, ⟨z4, z5⟩, z6, z7⟩ := HRx.out.free
  have HF9 := Lib.hid (HRx.out.all (.int .i64 kd) (.int .u64 a0) (.int .u64 a1) (.int .u64 a2) (.int .u64 a3) (.int .i64 lo) (.int .i64 hi) (.slice A' n c'))
  have HG9 := Lib.hid (show GS T (set8 wc w.heap.size (.int .i64 kd) (.int .u64 a0) (.int .u64 a1) (.int .u64 a2) (.int .u64 a3) (.int .i64 lo) (.int .i64 hi) (.slice A' n c')) g _ _ from Blk.set8 HSx.out (by omega) (.int .i64 kd) (.int .u64 a0) (.int .u64 a1) (.int .u64 a2) (.int .u64 a3) (.int .i64 lo) (.int .i64 hi) (.slice A' n c'))
  have HK9 := Lib.hid (kept_set8 HKx.out (.inr (Nat.le_refl w.heap.size)) (.int .i64 kd) (.int .u64 a0) (.int .u64 a1) (.int .u64 a2) (.int .u64 a3) (.int .i64 lo) (.int .i64 hi) (.slice A' n c'))
  go_wp2_with fail
  obtain ⟨⟨⟨d0, d1⟩, d2, d3⟩, ⟨d4, d5⟩, d6, d7⟩ := HF9.out.cells
  unfold set8 at d0 d1 d2 d3 d4 d5 d6 d7
  refine bodyPost_ret (v := .agg #[.int .i64 kd, .int .u64 a0, .int .u64 a1, .int .u64 a2, .int .u64 a3, .int .i64 lo, .int .i64 hi, .slice A' n c']) (by simp [results, Tryd.results20, go_sem, d0, d1, d2, d3, d4, d5, d6, d7]) rfl ?_
  rw [HP.out]
  refine ⟨_, rfl, HVV.out.kept (kept_set8 (Kept.refl (fun i => i = w.heap.size) wc) (.inl rfl) (.int .i64 kd) (.int .u64 a0) (.int .u64 a1) (.int .u64 a2) (.int .u64 a3) (.int .i64 lo) (.int .i64 hi) (.slice A' n c')) (fun i hhi _ e => by have e' : i = w.heap.size := e; have hh' := hhi.1; omega) (fun i hhi hl => ⟨by have hh' := hhi.1; omega, Nat.lt_of_lt_of_le hl (kept_set8 (Kept.refl (fun i => i = w.heap.size) wc) (.inl rfl) (.int .i64 kd) (.int .u64 a0) (.int .u64 a1) (.int .u64 a2) (.int .u64 a3) (.int .i64 lo) (.int .i64 hi) (.slice A' n c')).size⟩), HG9.out, HK9.out⟩
/-- The document's expression at every text. -/
theorem gexpr_any {T : List UInt8} {g : Nat} (hT : T.length ≤ 262144) : ∀ (n k : Nat) (w : World), GS T w g k false → k ≤ T.length → T.length - k < n → n ≤ 262145 → Calls Tryd.prog 20 #[.pointer (some ⟨g, 0, none⟩)] w (GTEnd T w g (Gr.exN T n k))
  | 0, _, _, _, _, h, _ => by omega
  | n + 1, k, w, h, hk, hn, hn2 => by
    have ih := gexpr_any (T := T) (g := g) hT n
    refine galt_any (d := n + 2) (Gr.exN T n) w h hT hk (by omega) (by omega) (gr_exN_le n) (fun k1 w1 hk1 hk2 h1 => ?_)
    exact gsequence_any (d := n + 2) (Gr.exN T n) w1 h1 hT hk2 (by omega) (by omega) (gr_exN_le n) fun k2 w2 hk3 hk4 h2 => ih k2 w2 h2 hk4 (by omega) (by omega)
end Go.Proofs.YtpiagfmjekcncaaDoor
