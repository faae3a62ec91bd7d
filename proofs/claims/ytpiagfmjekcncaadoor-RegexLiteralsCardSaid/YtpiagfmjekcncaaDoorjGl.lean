/- The walk of the document's term (printed by gen_gl.py). -/
import Derived.Test.YtpiagfmjekcncaaDoorjGk
import Derived.Test.YtpiagfmjekcncaaDoorjSeq
set_option linter.unusedVariables false
set_option linter.unusedSimpArgs false
set_option linter.unusedSectionVars false
namespace Go.Proofs.YtpiagfmjekcncaaDoor
open Go.RowKit
set_option maxRecDepth 100000 in
set_option maxHeartbeats 8000000 in
theorem gterm_any {T : List UInt8} {g k d : Nat} (E : Nat → Rx × Nat × Bool) (w : World) (h : GS T w g k false) (hT : T.length ≤ 262144) (hk : k < T.length) (hd : d ≤ 300000) (hO : Gr.Ok T d E)
    (hE : ∀ k1 w1, k < k1 → k1 ≤ T.length → GS T w1 g k1 false → Calls Tryd.prog 20 #[.pointer (some ⟨g, 0, none⟩)] w1 (GTEnd T w1 g (E k1))) : Calls Tryd.prog 65 #[.pointer (some ⟨g, 0, none⟩)] w (GTEnd T w g (Gr.trm T E k)) := by
  have hsz : (ByteArray.mk T.toArray).size = T.length := by simp [ByteArray.size]
  have hg := h.lt
  obtain ⟨Z, hZ⟩ : ∃ Z, Z = Gr.trm T E k := ⟨_, rfl⟩
  rw [← hZ]
  unfold Gr.trm at hZ
  have HE := Lib.hid hE
  have HO := Lib.hid hO
  have HS1 := Lib.hid (h.alloc (.cells #[.int .i64 0, .int .u64 0, .int .u64 0, .int .u64 0, .int .u64 0, .int .i64 0, .int .i64 0, .slice none 0 0] 27))
  have HR1 := Lib.hid (R8.mk0 w w.heap.size rfl)
  have HK1 := Lib.hid ((Kept.refl (isG g) w).alloc (.cells #[.int .i64 0, .int .u64 0, .int .u64 0, .int .u64 0, .int .u64 0, .int .i64 0, .int .i64 0, .slice none 0 0] 27))
  obtain ⟨w1, hw1⟩ : ∃ w1, w1 = w.alloc (.cells #[.int .i64 0, .int .u64 0, .int .u64 0, .int .u64 0, .int .u64 0, .int .i64 0, .int .i64 0, .slice none 0 0] 27) := ⟨_, rfl⟩
  rw [← hw1] at HS1 HR1 HK1
  have hw1s : w.heap.size < w1.heap.size := by rw [hw1]; simp
  have HW1 := Lib.hid hw1
  have HN := Lib.hid (gnext_any w1 HS1.out hT (by omega))
  obtain ⟨b, hb⟩ : ∃ b, T[k]? = some b := ⟨T[k], List.getElem?_eq_getElem hk⟩
  rw [gr_nx_at hb, decide_eq_true hk] at HN
  rw [hb] at hZ
  dsimp only at hZ
  obtain ⟨ub0, ub1⟩ := u8b b
  have HBB := Lib.hid hb
  clear h hw1 hb hE hO
  by_cases h46 : b = 46
  · have t46 : ((b.toNat : Int) == 46) = true := by rw [h46]; rfl
    rw [if_pos h46] at hZ
    have HZ := Lib.hid hZ
    clear hZ h46
    go_enter Tryd.func65, Tryd.ntmps65
    go_upto_region 1 with (fail)
    rw [← HW1.out]
    go_wp2_with fail
    refine HN.out.mono ?_
    rintro ee w2 ⟨rfl, n2, rfl⟩
    have HS2 := Lib.hid (HS1.out.drewN n2)
    have HR2 := Lib.hid (show R8 (w1.drewN n2) w.heap.size (.int .i64 0) (.int .u64 0) (.int .u64 0) (.int .u64 0) (.int .u64 0) (.int .i64 0) (.int .i64 0) (.slice none 0 0) from Blk.drewN HR1.out n2)
    have HK2 := Lib.hid (HK1.out.drewN n2)
    obtain ⟨w2, hw2⟩ : ∃ w2, w2 = w1.drewN n2 := ⟨_, rfl⟩
    have hw2s : w.heap.size < w2.heap.size := by rw [hw2]; exact hw1s
    rw [← hw2] at HS2 HR2 HK2 ⊢
    clear hw2 HS1 HR1 HK1 HN HW1
    obtain ⟨c0, c1, c2, q1, q2⟩ := HS2.out.cells
    have HS3 := Lib.hid (HS2.out.go (k + 1))
    have HR3 := Lib.hid (show R8 (w2.setCell ⟨g, 1, none⟩ (.int .i64 ((k + 1 : Nat) : Int))) w.heap.size (.int .i64 0) (.int .u64 0) (.int .u64 0) (.int .u64 0) (.int .u64 0) (.int .i64 0) (.int .i64 0) (.slice none 0 0) from Blk.far HR2.out (p := ⟨g, 1, none⟩) (by show w.heap.size ≠ g; omega) _)
    have HK3 := Lib.hid (HK2.out.setCell (p := ⟨g, 1, none⟩) (.inl rfl) (.int .i64 ((k + 1 : Nat) : Int)))
    obtain ⟨w3, hw3⟩ : ∃ w3, w3 = w2.setCell ⟨g, 1, none⟩ (.int .i64 ((k + 1 : Nat) : Int)) := ⟨_, rfl⟩
    rw [← hw3] at HS3 HR3 HK3
    rw [show ((k + 1 : Nat) : Int) = (k : Int) + 1 by omega] at hw3
    have HW3 := Lib.hid hw3
    have hsz3 := Lib.hid (show w3.heap.size = w2.heap.size by rw [hw3]; simp)
    clear hw3
    go_upto_region 5 with (fail)
    rw [← HW3.out]
    clear c0 c1 c2 q1 q2 HW3
    have HONE := Lib.hid (gone_any 10 w3)
    rw [show ((10 : UInt8).toNat : Int) = 10 from rfl, show (10 : UInt8).toNat = 10 from rfl] at HONE
    go_wp2_with fail
    refine HONE.out.mono ?_
    rintro ee w4 ⟨rfl, hb4⟩
    have HS4 := Lib.hid (HS3.out.below hb4)
    have HR4 := Lib.hid (HR3.out.below hb4 HR3.out.lt)
    have HK4 := Lib.hid (HK3.out.then_ (Kept.of_below hb4))
    have HOF := Lib.hid (gof_any (oneS 10) w4)
    unfold lwA at HOF
    have hfl : ∀ W, (Instr.field 27 (.agg #[.int .i64 2, .int .u64 (wd (oneS 10) 0), .int .u64 (wd (oneS 10) 1), .int .u64 (wd (oneS 10) 2), .int .u64 (wd (oneS 10) 3), .int .i64 0, .int .i64 0, .slice none 0 0]) 1).run Tryd.prog W = .ok (.agg #[.int .u64 (wd (oneS 10) 0), .int .u64 (wd (oneS 10) 1), .int .u64 (wd (oneS 10) 2), .int .u64 (wd (oneS 10) 3)]) W := fun W => by kernel_rfl
    clear hb4 HS3 HR3 HK3 HONE
    go_wp2_with fail
    refine HOF.out.mono ?_
    rintro ee w5 ⟨rfl, hb5⟩
    have HS5 := Lib.hid (HS4.out.below hb5)
    have HR5 := Lib.hid (HR4.out.below hb5 HR4.out.lt)
    have HK5 := Lib.hid (HK4.out.then_ (Kept.of_below hb5))
    have HNEG := Lib.hid (gnegated_any (oneS 10) w5)
    clear hb5 HS4 HR4 HK4 HOF
    go_wp2_with fail
    refine HNEG.out.mono ?_
    rintro ee w6 ⟨rfl, hb6⟩
    have HS6 := Lib.hid (HS5.out.below hb6)
    have HR6 := Lib.hid (HR5.out.below hb6 HR5.out.lt)
    have HK6 := Lib.hid (HK5.out.then_ (Kept.of_below hb6))
    have HLET := Lib.hid (gletters_any (notS (oneS 10)) w6)
    have hrx := fun (w' : World) (F : Nat → Prop) => gset_rxv w' F dotS
    unfold dotS at hrx
    obtain ⟨u0, hu0⟩ : ∃ u, u = wd (notS (oneS 10)) 0 := ⟨_, rfl⟩
    obtain ⟨u1, hu1⟩ : ∃ u, u = wd (notS (oneS 10)) 1 := ⟨_, rfl⟩
    obtain ⟨u2, hu2⟩ : ∃ u, u = wd (notS (oneS 10)) 2 := ⟨_, rfl⟩
    obtain ⟨u3, hu3⟩ : ∃ u, u = wd (notS (oneS 10)) 3 := ⟨_, rfl⟩
    rw [← hu0, ← hu1, ← hu2, ← hu3] at HLET
    simp only [← hu0, ← hu1, ← hu2, ← hu3] at hrx
    have HRX := Lib.hid hrx
    clear hrx hu0 hu1 hu2 hu3 hb6 HS5 HR5 HK5 HNEG
    go_wp2_with fail
    refine HLET.out.mono ?_
    rintro ee w8 ⟨rfl, hb8⟩
    have HS8 := Lib.hid (HS6.out.below hb8)
    have HR8 := Lib.hid (HR6.out.below hb8 HR6.out.lt)
    have HK8 := Lib.hid (HK6.out.then_ (Kept.of_below hb8))
    clear hb8 HLET HS6 HR6 HK6
    obtain ⟨⟨⟨r0, r1⟩, r2, r3⟩, ⟨r4, r5⟩, r6, r7⟩ := HR8.out.cells
    obtain ⟨⟨⟨z0, z1⟩, z2, z3⟩, ⟨z4, z5⟩, z6, z7⟩ := HR8.out.free
    have HF9 := Lib.hid (HR8.out.all (.int .i64 2) (.int .u64 u0) (.int .u64 u1) (.int .u64 u2) (.int .u64 u3) (.int .i64 0) (.int .i64 0) (.slice none 0 0))
    have HG9 := Lib.hid (show GS T (set8 w8 w.heap.size (.int .i64 2) (.int .u64 u0) (.int .u64 u1) (.int .u64 u2) (.int .u64 u3) (.int .i64 0) (.int .i64 0) (.slice none 0 0)) g _ _ from Blk.set8 HS8.out (by omega) (.int .i64 2) (.int .u64 u0) (.int .u64 u1) (.int .u64 u2) (.int .u64 u3) (.int .i64 0) (.int .i64 0) (.slice none 0 0))
    have HK9 := Lib.hid (kept_set8 HK8.out (.inr (Nat.le_refl w.heap.size)) (.int .i64 2) (.int .u64 u0) (.int .u64 u1) (.int .u64 u2) (.int .u64 u3) (.int .i64 0) (.int .i64 0) (.slice none 0 0))
    go_wp2_with fail
    obtain ⟨⟨⟨d0, d1⟩, d2, d3⟩, ⟨d4, d5⟩, d6, d7⟩ := HF9.out.cells
    unfold set8 at d0 d1 d2 d3 d4 d5 d6 d7
    refine bodyPost_ret (v := .agg #[.int .i64 2, .int .u64 u0, .int .u64 u1, .int .u64 u2, .int .u64 u3, .int .i64 0, .int .i64 0, .slice none 0 0]) (by simp [results, Tryd.results65, go_sem, d0, d1, d2, d3, d4, d5, d6, d7]) rfl ?_
    rw [HZ.out]
    exact ⟨_, rfl, HRX.out _ _, HG9.out, HK9.out⟩
  have t46 : ((b.toNat : Int) == 46) = false := glit (c := 46) h46
  rw [if_neg h46] at hZ
  clear h46
  by_cases h40 : b = 40
  · have t40 : ((b.toNat : Int) == 40) = true := by rw [h40]; rfl
    rw [if_pos h40] at hZ
    have hO1 := HO.out (k + 1) (by omega)
    obtain ⟨r, k4, b4, hr4⟩ : ∃ r k4 b4, E (k + 1) = (r, k4, b4) := ⟨_, _, _, rfl⟩
    have HEX := Lib.hid (fun w1 h1 => HE.out (k + 1) w1 (by omega) (by omega) h1)
    rw [hr4] at hZ hO1 HEX
    dsimp only at hZ hO1 HEX
    obtain ⟨hO1, hO2, _⟩ := hO1
    obtain ⟨c4, hc4⟩ : ∃ c, c = Gr.nx T k4 := ⟨_, rfl⟩
    rw [← hc4] at hZ
    have HZ := Lib.hid hZ
    have HC4 := Lib.hid hc4
    clear hZ h40 hr4 hc4 HO HE
    go_enter Tryd.func65, Tryd.ntmps65
    go_upto_region 1 with (fail)
    rw [← HW1.out]
    go_wp2_with fail
    refine HN.out.mono ?_
    rintro ee w2 ⟨rfl, n2, rfl⟩
    have HS2 := Lib.hid (HS1.out.drewN n2)
    have HR2 := Lib.hid (show R8 (w1.drewN n2) w.heap.size (.int .i64 0) (.int .u64 0) (.int .u64 0) (.int .u64 0) (.int .u64 0) (.int .i64 0) (.int .i64 0) (.slice none 0 0) from Blk.drewN HR1.out n2)
    have HK2 := Lib.hid (HK1.out.drewN n2)
    obtain ⟨w2, hw2⟩ : ∃ w2, w2 = w1.drewN n2 := ⟨_, rfl⟩
    have hw2s : w.heap.size < w2.heap.size := by rw [hw2]; exact hw1s
    rw [← hw2] at HS2 HR2 HK2 ⊢
    clear hw2 HS1 HR1 HK1 HN HW1
    obtain ⟨c0, c1, c2, q1, q2⟩ := HS2.out.cells
    have HS3 := Lib.hid (HS2.out.go (k + 1))
    have HR3 := Lib.hid (show R8 (w2.setCell ⟨g, 1, none⟩ (.int .i64 ((k + 1 : Nat) : Int))) w.heap.size (.int .i64 0) (.int .u64 0) (.int .u64 0) (.int .u64 0) (.int .u64 0) (.int .i64 0) (.int .i64 0) (.slice none 0 0) from Blk.far HR2.out (p := ⟨g, 1, none⟩) (by show w.heap.size ≠ g; omega) _)
    have HK3 := Lib.hid (HK2.out.setCell (p := ⟨g, 1, none⟩) (.inl rfl) (.int .i64 ((k + 1 : Nat) : Int)))
    obtain ⟨w3, hw3⟩ : ∃ w3, w3 = w2.setCell ⟨g, 1, none⟩ (.int .i64 ((k + 1 : Nat) : Int)) := ⟨_, rfl⟩
    rw [← hw3] at HS3 HR3 HK3
    rw [show ((k + 1 : Nat) : Int) = (k : Int) + 1 by omega] at hw3
    have HW3 := Lib.hid hw3
    have hsz3 := Lib.hid (show w3.heap.size = w2.heap.size by rw [hw3]; simp)
    clear hw3
    go_wp2_with fail
    rw [← HW3.out]
    clear c0 c1 c2 q1 q2 HW3
    refine (HEX.out w3 HS3.out).mono ?_
    rintro ee w4 ⟨cs, rfl, hv4, hs4, hk4⟩
    obtain ⟨kd, a0, a1, a2, a3, lo, hi, A, n, c, rfl⟩ := hv4.eight
    have HS4 := Lib.hid hs4
    have HR4 := Lib.hid (HR3.out.kept hk4 (fun e => by have e' : w.heap.size = g := e; omega))
    have HK4 := Lib.hid (HK3.out.then_ hk4)
    have hw4s : w3.heap.size ≤ w4.heap.size := hk4.size
    have hw3s : w.heap.size < w3.heap.size := Nat.lt_of_lt_of_le hw2s (by rw [hsz3.out]; exact Nat.le_refl _)
    have HV4 := Lib.hid hv4
    clear hv4 hs4 hk4 HEX HS3 HR3 HK3
    obtain ⟨B, hB⟩ : ∃ B, B = w4.heap.size := ⟨_, rfl⟩
    have hB5 : R8 (w4.alloc (.cells #[.int .i64 kd, .int .u64 a0, .int .u64 a1, .int .u64 a2, .int .u64 a3, .int .i64 lo, .int .i64 hi, .slice A n c] 27)) B (.int .i64 kd) (.int .u64 a0) (.int .u64 a1) (.int .u64 a2) (.int .u64 a3) (.int .i64 lo) (.int .i64 hi) (.slice A n c) := by rw [hB]; exact Blk.new w4 _ _
    have HS5 := Lib.hid (HS4.out.alloc (.cells #[.int .i64 kd, .int .u64 a0, .int .u64 a1, .int .u64 a2, .int .u64 a3, .int .i64 lo, .int .i64 hi, .slice A n c] 27))
    have HR5 := Lib.hid (HR4.out.alloc (.cells #[.int .i64 kd, .int .u64 a0, .int .u64 a1, .int .u64 a2, .int .u64 a3, .int .i64 lo, .int .i64 hi, .slice A n c] 27))
    have HK5 := Lib.hid (HK4.out.alloc (.cells #[.int .i64 kd, .int .u64 a0, .int .u64 a1, .int .u64 a2, .int .u64 a3, .int .i64 lo, .int .i64 hi, .slice A n c] 27))
    have HV5 := Lib.hid (grxv_kept (G := grg (w.heap.size + 1) (w4.alloc (.cells #[.int .i64 kd, .int .u64 a0, .int .u64 a1, .int .u64 a2, .int .u64 a3, .int .i64 lo, .int .i64 hi, .slice A n c] 27)).heap.size) HV4.out ((Kept.refl (fun _ => False) w4).alloc (.cells #[.int .i64 kd, .int .u64 a0, .int .u64 a1, .int .u64 a2, .int .u64 a3, .int .i64 lo, .int .i64 hi, .slice A n c] 27)) (fun _ _ _ => id) (fun i hhi hl => ⟨by have := hhi.1; omega, by simp; omega⟩))
    obtain ⟨w5, hw5⟩ : ∃ w5, w5 = w4.alloc (.cells #[.int .i64 kd, .int .u64 a0, .int .u64 a1, .int .u64 a2, .int .u64 a3, .int .i64 lo, .int .i64 hi, .slice A n c] 27) := ⟨_, rfl⟩
    rw [← hw5] at hB5 HS5 HR5 HK5 HV5
    have HW5 := Lib.hid hw5
    have HB5 := Lib.hid hB5
    have HBQ := Lib.hid hB
    have hgB : g ≠ B := by rw [hB]; have := HS4.out.lt; omega
    have hwB : w.heap.size ≠ B := by omega
    clear hB5 hw5 hB HS4 HR4 HK4 HV4
    go_upto_region 9 with (fail)
    rw [← HW5.out, ← HBQ.out]
    clear HW5 HBQ
    have HX := Lib.hid (gnext_any w5 HS5.out hT (by omega))
    rw [← HC4.out] at HX
    go_wp2_with fail
    refine HX.out.mono ?_
    rintro ee w6 ⟨rfl, n6, rfl⟩
    have HS6 := Lib.hid (HS5.out.drewN n6)
    have HR6 := Lib.hid (show R8 (w5.drewN n6) w.heap.size (.int .i64 0) (.int .u64 0) (.int .u64 0) (.int .u64 0) (.int .u64 0) (.int .i64 0) (.int .i64 0) (.slice none 0 0) from Blk.drewN HR5.out n6)
    have HK6 := Lib.hid (HK5.out.drewN n6)
    have HB6 := Lib.hid (show R8 (w5.drewN n6) B (.int .i64 kd) (.int .u64 a0) (.int .u64 a1) (.int .u64 a2) (.int .u64 a3) (.int .i64 lo) (.int .i64 hi) (.slice A n c) from Blk.drewN HB5.out n6)
    have HV6 := Lib.hid (grxv_kept HV5.out ((Kept.refl (fun _ => False) w5).drewN n6) (fun _ _ _ => id) (G := grg (w.heap.size + 1) (w5.drewN n6).heap.size) (fun i hhi hl => hhi))
    obtain ⟨w6, hw6⟩ : ∃ w6, w6 = w5.drewN n6 := ⟨_, rfl⟩
    rw [← hw6] at HS6 HR6 HK6 HB6 HV6 ⊢
    clear hw6 HS5 HR5 HK5 HB5 HV5 HX
    obtain ⟨c0, c1, c2, q1, q2⟩ := HS6.out.cells
    cases b4
    · have he8 := HS6.out.end HK6.out ((c4.toNat : Int) != 41) (k4 + 1)
      have hr8 : R8 ((w6.setCell ⟨g, 2, none⟩ (.bool ((c4.toNat : Int) != 41))).setCell ⟨g, 1, none⟩ (.int .i64 ((k4 + 1 : Nat) : Int))) w.heap.size (.int .i64 0) (.int .u64 0) (.int .u64 0) (.int .u64 0) (.int .u64 0) (.int .i64 0) (.int .i64 0) (.slice none 0 0) := Blk.far (Blk.far HR6.out (p := ⟨g, 2, none⟩) (by show w.heap.size ≠ g; omega) _) (p := ⟨g, 1, none⟩) (by show w.heap.size ≠ g; omega) _
      have hb8 : R8 ((w6.setCell ⟨g, 2, none⟩ (.bool ((c4.toNat : Int) != 41))).setCell ⟨g, 1, none⟩ (.int .i64 ((k4 + 1 : Nat) : Int))) B (.int .i64 kd) (.int .u64 a0) (.int .u64 a1) (.int .u64 a2) (.int .u64 a3) (.int .i64 lo) (.int .i64 hi) (.slice A n c) := Blk.far (Blk.far HB6.out (p := ⟨g, 2, none⟩) (fun e => hgB e.symm) _) (p := ⟨g, 1, none⟩) (fun e => hgB e.symm) _
      have hkv := ((Kept.refl (isG g) w6).setCell (p := ⟨g, 2, none⟩) (.inl rfl) (.bool ((c4.toNat : Int) != 41))).setCell (p := ⟨g, 1, none⟩) (.inl rfl) (.int .i64 ((k4 + 1 : Nat) : Int))
      obtain ⟨w8, hw8⟩ : ∃ w8, w8 = (w6.setCell ⟨g, 2, none⟩ (.bool ((c4.toNat : Int) != 41))).setCell ⟨g, 1, none⟩ (.int .i64 ((k4 + 1 : Nat) : Int)) := ⟨_, rfl⟩
      rw [← hw8] at he8 hr8 hb8 hkv
      rw [show ((k4 + 1 : Nat) : Int) = (k4 : Int) + 1 by omega] at hw8
      have HS8 := Lib.hid he8.1
      have HK8 := Lib.hid he8.2
      have HR8 := Lib.hid hr8
      have HB8 := Lib.hid hb8
      have HV8 := Lib.hid (grxv_kept HV6.out hkv (fun i hhi _ e => by have e' : i = g := e; have := hhi.1; omega) (G := grg (w.heap.size + 1) w8.heap.size) (fun i hhi hl => ⟨hhi.1, by have := hkv.size; omega⟩))
      have HW8 := Lib.hid hw8
      clear he8 hr8 hb8 hkv hw8 HS6 HR6 HK6 HB6 HV6
      go_upto_region 12 with (fail)
      rw [← HW8.out]
      clear c0 c1 c2 q1 q2 HW8
      obtain ⟨⟨⟨l0, l1⟩, l2, l3⟩, ⟨l4, l5⟩, l6, l7⟩ := HB8.out.cells
      obtain ⟨⟨⟨r0, r1⟩, r2, r3⟩, ⟨r4, r5⟩, r6, r7⟩ := HR8.out.cells
      obtain ⟨⟨⟨z0, z1⟩, z2, z3⟩, ⟨z4, z5⟩, z6, z7⟩ := HR8.out.free
      have HF9 := Lib.hid (HR8.out.all (.int .i64 kd) (.int .u64 a0) (.int .u64 a1) (.int .u64 a2) (.int .u64 a3) (.int .i64 lo) (.int .i64 hi) (.slice A n c))
      have HG9 := Lib.hid (show GS T (set8 w8 w.heap.size (.int .i64 kd) (.int .u64 a0) (.int .u64 a1) (.int .u64 a2) (.int .u64 a3) (.int .i64 lo) (.int .i64 hi) (.slice A n c)) g _ _ from Blk.set8 HS8.out (by omega) (.int .i64 kd) (.int .u64 a0) (.int .u64 a1) (.int .u64 a2) (.int .u64 a3) (.int .i64 lo) (.int .i64 hi) (.slice A n c))
      have HK9 := Lib.hid (kept_set8 HK8.out (.inr (Nat.le_refl w.heap.size)) (.int .i64 kd) (.int .u64 a0) (.int .u64 a1) (.int .u64 a2) (.int .u64 a3) (.int .i64 lo) (.int .i64 hi) (.slice A n c))
      have HV9 := Lib.hid (grxv_kept HV8.out (kept_set8 (Kept.refl (fun i => i = w.heap.size) w8) (.inl rfl) (.int .i64 kd) (.int .u64 a0) (.int .u64 a1) (.int .u64 a2) (.int .u64 a3) (.int .i64 lo) (.int .i64 hi) (.slice A n c)) (fun i hhi _ e => by have e' : i = w.heap.size := e; have := hhi.1; omega) (G := grg w.heap.size (set8 w8 w.heap.size (.int .i64 kd) (.int .u64 a0) (.int .u64 a1) (.int .u64 a2) (.int .u64 a3) (.int .i64 lo) (.int .i64 hi) (.slice A n c)).heap.size) (fun i hhi hl => ⟨by have := hhi.1; omega, by have := hhi.2; have := (kept_set8 (Kept.refl (fun i => i = w.heap.size) w8) (.inl rfl) (.int .i64 kd) (.int .u64 a0) (.int .u64 a1) (.int .u64 a2) (.int .u64 a3) (.int .i64 lo) (.int .i64 hi) (.slice A n c)).size; omega⟩))
      go_wp2_with fail
      obtain ⟨⟨⟨d0, d1⟩, d2, d3⟩, ⟨d4, d5⟩, d6, d7⟩ := HF9.out.cells
      unfold set8 at d0 d1 d2 d3 d4 d5 d6 d7
      refine bodyPost_ret (v := .agg #[.int .i64 kd, .int .u64 a0, .int .u64 a1, .int .u64 a2, .int .u64 a3, .int .i64 lo, .int .i64 hi, .slice A n c]) (by simp [results, Tryd.results65, go_sem, d0, d1, d2, d3, d4, d5, d6, d7]) rfl ?_
      rw [HZ.out]
      exact ⟨_, rfl, HV9.out, by have h9 := HG9.out; rw [show (41 : Int) = ((41 : UInt8).toNat : Int) from rfl, u8_ne_int] at h9; exact h9, HK9.out⟩
    · have he8 := HS6.out.end HK6.out true (k4 + 1)
      have hr8 : R8 ((w6.setCell ⟨g, 2, none⟩ (.bool true)).setCell ⟨g, 1, none⟩ (.int .i64 ((k4 + 1 : Nat) : Int))) w.heap.size (.int .i64 0) (.int .u64 0) (.int .u64 0) (.int .u64 0) (.int .u64 0) (.int .i64 0) (.int .i64 0) (.slice none 0 0) := Blk.far (Blk.far HR6.out (p := ⟨g, 2, none⟩) (by show w.heap.size ≠ g; omega) _) (p := ⟨g, 1, none⟩) (by show w.heap.size ≠ g; omega) _
      have hb8 : R8 ((w6.setCell ⟨g, 2, none⟩ (.bool true)).setCell ⟨g, 1, none⟩ (.int .i64 ((k4 + 1 : Nat) : Int))) B (.int .i64 kd) (.int .u64 a0) (.int .u64 a1) (.int .u64 a2) (.int .u64 a3) (.int .i64 lo) (.int .i64 hi) (.slice A n c) := Blk.far (Blk.far HB6.out (p := ⟨g, 2, none⟩) (fun e => hgB e.symm) _) (p := ⟨g, 1, none⟩) (fun e => hgB e.symm) _
      have hkv := ((Kept.refl (isG g) w6).setCell (p := ⟨g, 2, none⟩) (.inl rfl) (.bool true)).setCell (p := ⟨g, 1, none⟩) (.inl rfl) (.int .i64 ((k4 + 1 : Nat) : Int))
      obtain ⟨w8, hw8⟩ : ∃ w8, w8 = (w6.setCell ⟨g, 2, none⟩ (.bool true)).setCell ⟨g, 1, none⟩ (.int .i64 ((k4 + 1 : Nat) : Int)) := ⟨_, rfl⟩
      rw [← hw8] at he8 hr8 hb8 hkv
      rw [show ((k4 + 1 : Nat) : Int) = (k4 : Int) + 1 by omega] at hw8
      have HS8 := Lib.hid he8.1
      have HK8 := Lib.hid he8.2
      have HR8 := Lib.hid hr8
      have HB8 := Lib.hid hb8
      have HV8 := Lib.hid (grxv_kept HV6.out hkv (fun i hhi _ e => by have e' : i = g := e; have := hhi.1; omega) (G := grg (w.heap.size + 1) w8.heap.size) (fun i hhi hl => ⟨hhi.1, by have := hkv.size; omega⟩))
      have HW8 := Lib.hid hw8
      clear he8 hr8 hb8 hkv hw8 HS6 HR6 HK6 HB6 HV6
      go_upto_region 12 with (fail)
      rw [← HW8.out]
      clear c0 c1 c2 q1 q2 HW8
      obtain ⟨⟨⟨l0, l1⟩, l2, l3⟩, ⟨l4, l5⟩, l6, l7⟩ := HB8.out.cells
      obtain ⟨⟨⟨r0, r1⟩, r2, r3⟩, ⟨r4, r5⟩, r6, r7⟩ := HR8.out.cells
      obtain ⟨⟨⟨z0, z1⟩, z2, z3⟩, ⟨z4, z5⟩, z6, z7⟩ := HR8.out.free
      have HF9 := Lib.hid (HR8.out.all (.int .i64 kd) (.int .u64 a0) (.int .u64 a1) (.int .u64 a2) (.int .u64 a3) (.int .i64 lo) (.int .i64 hi) (.slice A n c))
      have HG9 := Lib.hid (show GS T (set8 w8 w.heap.size (.int .i64 kd) (.int .u64 a0) (.int .u64 a1) (.int .u64 a2) (.int .u64 a3) (.int .i64 lo) (.int .i64 hi) (.slice A n c)) g _ _ from Blk.set8 HS8.out (by omega) (.int .i64 kd) (.int .u64 a0) (.int .u64 a1) (.int .u64 a2) (.int .u64 a3) (.int .i64 lo) (.int .i64 hi) (.slice A n c))
      have HK9 := Lib.hid (kept_set8 HK8.out (.inr (Nat.le_refl w.heap.size)) (.int .i64 kd) (.int .u64 a0) (.int .u64 a1) (.int .u64 a2) (.int .u64 a3) (.int .i64 lo) (.int .i64 hi) (.slice A n c))
      have HV9 := Lib.hid (grxv_kept HV8.out (kept_set8 (Kept.refl (fun i => i = w.heap.size) w8) (.inl rfl) (.int .i64 kd) (.int .u64 a0) (.int .u64 a1) (.int .u64 a2) (.int .u64 a3) (.int .i64 lo) (.int .i64 hi) (.slice A n c)) (fun i hhi _ e => by have e' : i = w.heap.size := e; have := hhi.1; omega) (G := grg w.heap.size (set8 w8 w.heap.size (.int .i64 kd) (.int .u64 a0) (.int .u64 a1) (.int .u64 a2) (.int .u64 a3) (.int .i64 lo) (.int .i64 hi) (.slice A n c)).heap.size) (fun i hhi hl => ⟨by have := hhi.1; omega, by have := hhi.2; have := (kept_set8 (Kept.refl (fun i => i = w.heap.size) w8) (.inl rfl) (.int .i64 kd) (.int .u64 a0) (.int .u64 a1) (.int .u64 a2) (.int .u64 a3) (.int .i64 lo) (.int .i64 hi) (.slice A n c)).size; omega⟩))
      go_wp2_with fail
      obtain ⟨⟨⟨d0, d1⟩, d2, d3⟩, ⟨d4, d5⟩, d6, d7⟩ := HF9.out.cells
      unfold set8 at d0 d1 d2 d3 d4 d5 d6 d7
      refine bodyPost_ret (v := .agg #[.int .i64 kd, .int .u64 a0, .int .u64 a1, .int .u64 a2, .int .u64 a3, .int .i64 lo, .int .i64 hi, .slice A n c]) (by simp [results, Tryd.results65, go_sem, d0, d1, d2, d3, d4, d5, d6, d7]) rfl ?_
      rw [HZ.out]
      exact ⟨_, rfl, HV9.out, HG9.out, HK9.out⟩
  have t40 : ((b.toNat : Int) == 40) = false := glit (c := 40) h40
  rw [if_neg h40] at hZ
  clear h40
  by_cases h91 : b = 91
  · have t91 : ((b.toNat : Int) == 91) = true := by rw [h91]; rfl
    rw [if_pos h91] at hZ
    have HZ := Lib.hid hZ
    clear hZ h91
    go_enter Tryd.func65, Tryd.ntmps65
    go_upto_region 1 with (fail)
    rw [← HW1.out]
    go_wp2_with fail
    refine HN.out.mono ?_
    rintro ee w2 ⟨rfl, n2, rfl⟩
    have HS2 := Lib.hid (HS1.out.drewN n2)
    have HR2 := Lib.hid (show R8 (w1.drewN n2) w.heap.size (.int .i64 0) (.int .u64 0) (.int .u64 0) (.int .u64 0) (.int .u64 0) (.int .i64 0) (.int .i64 0) (.slice none 0 0) from Blk.drewN HR1.out n2)
    have HK2 := Lib.hid (HK1.out.drewN n2)
    obtain ⟨w2, hw2⟩ : ∃ w2, w2 = w1.drewN n2 := ⟨_, rfl⟩
    have hw2s : w.heap.size < w2.heap.size := by rw [hw2]; exact hw1s
    rw [← hw2] at HS2 HR2 HK2 ⊢
    clear hw2 HS1 HR1 HK1 HN HW1
    obtain ⟨c0, c1, c2, q1, q2⟩ := HS2.out.cells
    clear c0 c1 c2 q1 q2
    have HCL := Lib.hid (gclass_any w2 HS2.out hT hk)
    rw [← HZ.out] at HCL
    go_wp2_with fail
    refine HCL.out.mono ?_
    rintro ee w4 ⟨cs, rfl, hv4, hs4, hk4⟩
    obtain ⟨kd, a0, a1, a2, a3, lo, hi, A, n, c, rfl⟩ := hv4.eight
    have HS4 := Lib.hid hs4
    have HR4 := Lib.hid (HR2.out.kept hk4 (fun e => by have e' : w.heap.size = g := e; omega))
    have HK4 := Lib.hid (HK2.out.then_ hk4)
    have HV4 := Lib.hid hv4
    have hw4s := hk4.size
    clear hv4 hs4 hk4 HCL HS2 HR2 HK2
    obtain ⟨⟨⟨r0, r1⟩, r2, r3⟩, ⟨r4, r5⟩, r6, r7⟩ := HR4.out.cells
    obtain ⟨⟨⟨z0, z1⟩, z2, z3⟩, ⟨z4, z5⟩, z6, z7⟩ := HR4.out.free
    have HF9 := Lib.hid (HR4.out.all (.int .i64 kd) (.int .u64 a0) (.int .u64 a1) (.int .u64 a2) (.int .u64 a3) (.int .i64 lo) (.int .i64 hi) (.slice A n c))
    have HG9 := Lib.hid (show GS T (set8 w4 w.heap.size (.int .i64 kd) (.int .u64 a0) (.int .u64 a1) (.int .u64 a2) (.int .u64 a3) (.int .i64 lo) (.int .i64 hi) (.slice A n c)) g _ _ from Blk.set8 HS4.out (by omega) (.int .i64 kd) (.int .u64 a0) (.int .u64 a1) (.int .u64 a2) (.int .u64 a3) (.int .i64 lo) (.int .i64 hi) (.slice A n c))
    have HK9 := Lib.hid (kept_set8 HK4.out (.inr (Nat.le_refl w.heap.size)) (.int .i64 kd) (.int .u64 a0) (.int .u64 a1) (.int .u64 a2) (.int .u64 a3) (.int .i64 lo) (.int .i64 hi) (.slice A n c))
    have HV9 := Lib.hid (grxv_kept HV4.out (kept_set8 (Kept.refl (fun i => i = w.heap.size) w4) (.inl rfl) (.int .i64 kd) (.int .u64 a0) (.int .u64 a1) (.int .u64 a2) (.int .u64 a3) (.int .i64 lo) (.int .i64 hi) (.slice A n c)) (fun i hhi _ e => by have e' : i = w.heap.size := e; have := hhi.1; omega) (G := grg w.heap.size (set8 w4 w.heap.size (.int .i64 kd) (.int .u64 a0) (.int .u64 a1) (.int .u64 a2) (.int .u64 a3) (.int .i64 lo) (.int .i64 hi) (.slice A n c)).heap.size) (fun i hhi hl => ⟨by have := hhi.1; omega, by have := hhi.2; have := (kept_set8 (Kept.refl (fun i => i = w.heap.size) w4) (.inl rfl) (.int .i64 kd) (.int .u64 a0) (.int .u64 a1) (.int .u64 a2) (.int .u64 a3) (.int .i64 lo) (.int .i64 hi) (.slice A n c)).size; omega⟩))
    go_wp2_with fail
    obtain ⟨⟨⟨d0, d1⟩, d2, d3⟩, ⟨d4, d5⟩, d6, d7⟩ := HF9.out.cells
    unfold set8 at d0 d1 d2 d3 d4 d5 d6 d7
    refine bodyPost_ret (v := .agg #[.int .i64 kd, .int .u64 a0, .int .u64 a1, .int .u64 a2, .int .u64 a3, .int .i64 lo, .int .i64 hi, .slice A n c]) (by simp [results, Tryd.results65, go_sem, d0, d1, d2, d3, d4, d5, d6, d7]) rfl ?_
    exact ⟨_, rfl, HV9.out, HG9.out, HK9.out⟩
  have t91 : ((b.toNat : Int) == 91) = false := glit (c := 91) h91
  rw [if_neg h91] at hZ
  clear h91
  by_cases h92 : b = 92
  · have t92 : ((b.toNat : Int) == 92) = true := by rw [h92]; rfl
    rw [if_pos h92] at hZ
    clear h92
    have HEL := Lib.hid (fun W : World => gel_any (t := T) (k := k) W (by omega) hT)
    unfold GEl at HEL
    rcases hel : elemP (T.drop k) with _ | ⟨x, u⟩
    · rw [hel] at hZ
      have HZ := Lib.hid hZ
      rw [show elR T k = (-1, k) by unfold elR; rw [hel]] at HEL
      clear hZ hel
      go_enter Tryd.func65, Tryd.ntmps65
      go_upto_region 1 with (fail)
      rw [← HW1.out]
      go_wp2_with fail
      refine HN.out.mono ?_
      rintro ee w2 ⟨rfl, n2, rfl⟩
      have HS2 := Lib.hid (HS1.out.drewN n2)
      have HR2 := Lib.hid (show R8 (w1.drewN n2) w.heap.size (.int .i64 0) (.int .u64 0) (.int .u64 0) (.int .u64 0) (.int .u64 0) (.int .i64 0) (.int .i64 0) (.slice none 0 0) from Blk.drewN HR1.out n2)
      have HK2 := Lib.hid (HK1.out.drewN n2)
      obtain ⟨w2, hw2⟩ : ∃ w2, w2 = w1.drewN n2 := ⟨_, rfl⟩
      have hw2s : w.heap.size < w2.heap.size := by rw [hw2]; exact hw1s
      rw [← hw2] at HS2 HR2 HK2 ⊢
      clear hw2 HS1 HR1 HK1 HN HW1
      obtain ⟨c0, c1, c2, q1, q2⟩ := HS2.out.cells
      go_wp2_with fail
      go_quiet (exact Calls.quiet_of (HEL.out _))
      have HS3 := Lib.hid (HS2.out.drewN nq)
      have HR3 := Lib.hid (show R8 (w2.drewN nq) w.heap.size (.int .i64 0) (.int .u64 0) (.int .u64 0) (.int .u64 0) (.int .u64 0) (.int .i64 0) (.int .i64 0) (.slice none 0 0) from Blk.drewN HR2.out nq)
      have HK3 := Lib.hid (HK2.out.drewN nq)
      obtain ⟨w3, hw3⟩ : ∃ w3, w3 = w2.drewN nq := ⟨_, rfl⟩
      rw [← hw3] at HS3 HR3 HK3 ⊢
      clear hw3 c0 c1 c2 q1 q2 HEL HS2 HR2 HK2
      obtain ⟨c0, c1, c2, q1, q2⟩ := HS3.out.cells
      have HS4 := Lib.hid (HS3.out.mark true)
      have HR4 := Lib.hid (show R8 (w3.setCell ⟨g, 2, none⟩ (.bool true)) w.heap.size (.int .i64 0) (.int .u64 0) (.int .u64 0) (.int .u64 0) (.int .u64 0) (.int .i64 0) (.int .i64 0) (.slice none 0 0) from Blk.far HR3.out (p := ⟨g, 2, none⟩) (by show w.heap.size ≠ g; omega) _)
      have HK4 := Lib.hid (HK3.out.setCell (p := ⟨g, 2, none⟩) (.inl rfl) (.bool true))
      obtain ⟨w4, hw4⟩ : ∃ w4, w4 = w3.setCell ⟨g, 2, none⟩ (.bool true) := ⟨_, rfl⟩
      rw [← hw4] at HS4 HR4 HK4
      have HWm := Lib.hid hw4
      clear hw4
      go_upto_region 19 with (fail)
      rw [← HWm.out]
      clear c0 c1 c2 q1 q2 HWm
      obtain ⟨⟨⟨r0, r1⟩, r2, r3⟩, ⟨r4, r5⟩, r6, r7⟩ := HR4.out.cells
      obtain ⟨⟨⟨z0, z1⟩, z2, z3⟩, ⟨z4, z5⟩, z6, z7⟩ := HR4.out.free
      have HF9 := Lib.hid (HR4.out.all (.int .i64 0) (.int .u64 0) (.int .u64 0) (.int .u64 0) (.int .u64 0) (.int .i64 0) (.int .i64 0) (.slice none 0 0))
      have HG9 := Lib.hid (show GS T (set8 w4 w.heap.size (.int .i64 0) (.int .u64 0) (.int .u64 0) (.int .u64 0) (.int .u64 0) (.int .i64 0) (.int .i64 0) (.slice none 0 0)) g _ _ from Blk.set8 HS4.out (by omega) (.int .i64 0) (.int .u64 0) (.int .u64 0) (.int .u64 0) (.int .u64 0) (.int .i64 0) (.int .i64 0) (.slice none 0 0))
      have HK9 := Lib.hid (kept_set8 HK4.out (.inr (Nat.le_refl w.heap.size)) (.int .i64 0) (.int .u64 0) (.int .u64 0) (.int .u64 0) (.int .u64 0) (.int .i64 0) (.int .i64 0) (.slice none 0 0))
      go_wp2_with fail
      obtain ⟨⟨⟨d0, d1⟩, d2, d3⟩, ⟨d4, d5⟩, d6, d7⟩ := HF9.out.cells
      unfold set8 at d0 d1 d2 d3 d4 d5 d6 d7
      refine bodyPost_ret (v := .agg #[.int .i64 0, .int .u64 0, .int .u64 0, .int .u64 0, .int .u64 0, .int .i64 0, .int .i64 0, .slice none 0 0]) (by simp [results, Tryd.results65, go_sem, d0, d1, d2, d3, d4, d5, d6, d7]) rfl ?_
      rw [HZ.out]
      exact ⟨_, rfl, gzero_rxv _ _, HG9.out, HK9.out⟩
    · rw [hel] at hZ
      have hu := gr_elem_pos hel
      rw [List.length_drop] at hu
      obtain ⟨k1, hk1⟩ : ∃ k1, k1 = k + u := ⟨_, rfl⟩
      dsimp only at hZ
      rw [← hk1] at hZ
      have HZ := Lib.hid hZ
      rw [show elR T k = ((x.toNat : Int), k1) by unfold elR; rw [hel, hk1]] at HEL
      obtain ⟨ux0, ux1⟩ := u8b x
      have e8 : decide ((x.toNat : Int) < 0) = false := decide_eq_false (by omega)
      clear hZ hel hk1
      go_enter Tryd.func65, Tryd.ntmps65
      go_upto_region 1 with (fail)
      rw [← HW1.out]
      go_wp2_with fail
      refine HN.out.mono ?_
      rintro ee w2 ⟨rfl, n2, rfl⟩
      have HS2 := Lib.hid (HS1.out.drewN n2)
      have HR2 := Lib.hid (show R8 (w1.drewN n2) w.heap.size (.int .i64 0) (.int .u64 0) (.int .u64 0) (.int .u64 0) (.int .u64 0) (.int .i64 0) (.int .i64 0) (.slice none 0 0) from Blk.drewN HR1.out n2)
      have HK2 := Lib.hid (HK1.out.drewN n2)
      obtain ⟨w2, hw2⟩ : ∃ w2, w2 = w1.drewN n2 := ⟨_, rfl⟩
      have hw2s : w.heap.size < w2.heap.size := by rw [hw2]; exact hw1s
      rw [← hw2] at HS2 HR2 HK2 ⊢
      clear hw2 HS1 HR1 HK1 HN HW1
      obtain ⟨c0, c1, c2, q1, q2⟩ := HS2.out.cells
      go_wp2_with fail
      go_quiet (exact Calls.quiet_of (HEL.out _))
      have HS3 := Lib.hid (HS2.out.drewN nq)
      have HR3 := Lib.hid (show R8 (w2.drewN nq) w.heap.size (.int .i64 0) (.int .u64 0) (.int .u64 0) (.int .u64 0) (.int .u64 0) (.int .i64 0) (.int .i64 0) (.slice none 0 0) from Blk.drewN HR2.out nq)
      have HK3 := Lib.hid (HK2.out.drewN nq)
      obtain ⟨w3, hw3⟩ : ∃ w3, w3 = w2.drewN nq := ⟨_, rfl⟩
      rw [← hw3] at HS3 HR3 HK3 ⊢
      clear hw3 c0 c1 c2 q1 q2 HEL HS2 HR2 HK2
      obtain ⟨c0, c1, c2, q1, q2⟩ := HS3.out.cells
      have HS4 := Lib.hid (HS3.out.go (k1))
      have HR4 := Lib.hid (show R8 (w3.setCell ⟨g, 1, none⟩ (.int .i64 ((k1 : Nat) : Int))) w.heap.size (.int .i64 0) (.int .u64 0) (.int .u64 0) (.int .u64 0) (.int .u64 0) (.int .i64 0) (.int .i64 0) (.slice none 0 0) from Blk.far HR3.out (p := ⟨g, 1, none⟩) (by show w.heap.size ≠ g; omega) _)
      have HK4 := Lib.hid (HK3.out.setCell (p := ⟨g, 1, none⟩) (.inl rfl) (.int .i64 ((k1 : Nat) : Int)))
      obtain ⟨w4, hw4⟩ : ∃ w4, w4 = w3.setCell ⟨g, 1, none⟩ (.int .i64 ((k1 : Nat) : Int)) := ⟨_, rfl⟩
      rw [← hw4] at HS4 HR4 HK4
      have HW4 := Lib.hid hw4
      clear hw4
      go_upto_region 21 with (fail)
      rw [← HW4.out]
      clear c0 c1 c2 q1 q2 HW4 HS3 HR3 HK3
      have HONE := Lib.hid (gone_any x w4)
      have hrx := fun (w' : World) (F : Nat → Prop) => gset_rxv w' F (oneS x.toNat)
      obtain ⟨u0, hu0⟩ : ∃ u, u = wd (oneS x.toNat) 0 := ⟨_, rfl⟩
      obtain ⟨u1, hu1⟩ : ∃ u, u = wd (oneS x.toNat) 1 := ⟨_, rfl⟩
      obtain ⟨u2, hu2⟩ : ∃ u, u = wd (oneS x.toNat) 2 := ⟨_, rfl⟩
      obtain ⟨u3, hu3⟩ : ∃ u, u = wd (oneS x.toNat) 3 := ⟨_, rfl⟩
      rw [← hu0, ← hu1, ← hu2, ← hu3] at HONE
      simp only [← hu0, ← hu1, ← hu2, ← hu3] at hrx
      have HRX := Lib.hid hrx
      clear hrx hu0 hu1 hu2 hu3
      go_wp2_with fail
      refine HONE.out.mono ?_
      rintro ee w8 ⟨rfl, hb8⟩
      have HS8 := Lib.hid (HS4.out.below hb8)
      have HR8 := Lib.hid (HR4.out.below hb8 HR4.out.lt)
      have HK8 := Lib.hid (HK4.out.then_ (Kept.of_below hb8))
      clear hb8 HONE HS4 HR4 HK4
      obtain ⟨⟨⟨r0, r1⟩, r2, r3⟩, ⟨r4, r5⟩, r6, r7⟩ := HR8.out.cells
      obtain ⟨⟨⟨z0, z1⟩, z2, z3⟩, ⟨z4, z5⟩, z6, z7⟩ := HR8.out.free
      have HF9 := Lib.hid (HR8.out.all (.int .i64 2) (.int .u64 u0) (.int .u64 u1) (.int .u64 u2) (.int .u64 u3) (.int .i64 0) (.int .i64 0) (.slice none 0 0))
      have HG9 := Lib.hid (show GS T (set8 w8 w.heap.size (.int .i64 2) (.int .u64 u0) (.int .u64 u1) (.int .u64 u2) (.int .u64 u3) (.int .i64 0) (.int .i64 0) (.slice none 0 0)) g _ _ from Blk.set8 HS8.out (by omega) (.int .i64 2) (.int .u64 u0) (.int .u64 u1) (.int .u64 u2) (.int .u64 u3) (.int .i64 0) (.int .i64 0) (.slice none 0 0))
      have HK9 := Lib.hid (kept_set8 HK8.out (.inr (Nat.le_refl w.heap.size)) (.int .i64 2) (.int .u64 u0) (.int .u64 u1) (.int .u64 u2) (.int .u64 u3) (.int .i64 0) (.int .i64 0) (.slice none 0 0))
      go_wp2_with fail
      obtain ⟨⟨⟨d0, d1⟩, d2, d3⟩, ⟨d4, d5⟩, d6, d7⟩ := HF9.out.cells
      unfold set8 at d0 d1 d2 d3 d4 d5 d6 d7
      refine bodyPost_ret (v := .agg #[.int .i64 2, .int .u64 u0, .int .u64 u1, .int .u64 u2, .int .u64 u3, .int .i64 0, .int .i64 0, .slice none 0 0]) (by simp [results, Tryd.results65, go_sem, d0, d1, d2, d3, d4, d5, d6, d7]) rfl ?_
      rw [HZ.out]
      exact ⟨_, rfl, HRX.out _ _, HG9.out, HK9.out⟩
  have t92 : ((b.toNat : Int) == 92) = false := glit (c := 92) h92
  rw [if_neg h92] at hZ
  clear h92
  have HSP := Lib.hid (gspecial_any b)
  cases hsp : specials.contains b with
  | true =>
    rw [hsp] at hZ HSP
    rw [if_pos rfl] at hZ
    have HZ := Lib.hid hZ
    clear hZ hsp
    go_enter Tryd.func65, Tryd.ntmps65
    go_upto_region 1 with (fail)
    rw [← HW1.out]
    go_wp2_with fail
    refine HN.out.mono ?_
    rintro ee w2 ⟨rfl, n2, rfl⟩
    have HS2 := Lib.hid (HS1.out.drewN n2)
    have HR2 := Lib.hid (show R8 (w1.drewN n2) w.heap.size (.int .i64 0) (.int .u64 0) (.int .u64 0) (.int .u64 0) (.int .u64 0) (.int .i64 0) (.int .i64 0) (.slice none 0 0) from Blk.drewN HR1.out n2)
    have HK2 := Lib.hid (HK1.out.drewN n2)
    obtain ⟨w2, hw2⟩ : ∃ w2, w2 = w1.drewN n2 := ⟨_, rfl⟩
    have hw2s : w.heap.size < w2.heap.size := by rw [hw2]; exact hw1s
    rw [← hw2] at HS2 HR2 HK2 ⊢
    clear hw2 HS1 HR1 HK1 HN HW1
    obtain ⟨c0, c1, c2, q1, q2⟩ := HS2.out.cells
    go_wp2_with fail
    refine (HSP.out _).mono ?_
    rintro ee w3 ⟨rfl, rfl⟩
    have HS4 := Lib.hid (HS2.out.mark true)
    have HR4 := Lib.hid (show R8 (w2.setCell ⟨g, 2, none⟩ (.bool true)) w.heap.size (.int .i64 0) (.int .u64 0) (.int .u64 0) (.int .u64 0) (.int .u64 0) (.int .i64 0) (.int .i64 0) (.slice none 0 0) from Blk.far HR2.out (p := ⟨g, 2, none⟩) (by show w.heap.size ≠ g; omega) _)
    have HK4 := Lib.hid (HK2.out.setCell (p := ⟨g, 2, none⟩) (.inl rfl) (.bool true))
    obtain ⟨w4, hw4⟩ : ∃ w4, w4 = w2.setCell ⟨g, 2, none⟩ (.bool true) := ⟨_, rfl⟩
    rw [← hw4] at HS4 HR4 HK4
    have HWm := Lib.hid hw4
    clear hw4
    go_upto_region 24 with (fail)
    rw [← HWm.out]
    clear c0 c1 c2 q1 q2 HWm
    obtain ⟨⟨⟨r0, r1⟩, r2, r3⟩, ⟨r4, r5⟩, r6, r7⟩ := HR4.out.cells
    obtain ⟨⟨⟨z0, z1⟩, z2, z3⟩, ⟨z4, z5⟩, z6, z7⟩ := HR4.out.free
    have HF9 := Lib.hid (HR4.out.all (.int .i64 0) (.int .u64 0) (.int .u64 0) (.int .u64 0) (.int .u64 0) (.int .i64 0) (.int .i64 0) (.slice none 0 0))
    have HG9 := Lib.hid (show GS T (set8 w4 w.heap.size (.int .i64 0) (.int .u64 0) (.int .u64 0) (.int .u64 0) (.int .u64 0) (.int .i64 0) (.int .i64 0) (.slice none 0 0)) g _ _ from Blk.set8 HS4.out (by omega) (.int .i64 0) (.int .u64 0) (.int .u64 0) (.int .u64 0) (.int .u64 0) (.int .i64 0) (.int .i64 0) (.slice none 0 0))
    have HK9 := Lib.hid (kept_set8 HK4.out (.inr (Nat.le_refl w.heap.size)) (.int .i64 0) (.int .u64 0) (.int .u64 0) (.int .u64 0) (.int .u64 0) (.int .i64 0) (.int .i64 0) (.slice none 0 0))
    go_wp2_with fail
    obtain ⟨⟨⟨d0, d1⟩, d2, d3⟩, ⟨d4, d5⟩, d6, d7⟩ := HF9.out.cells
    unfold set8 at d0 d1 d2 d3 d4 d5 d6 d7
    refine bodyPost_ret (v := .agg #[.int .i64 0, .int .u64 0, .int .u64 0, .int .u64 0, .int .u64 0, .int .i64 0, .int .i64 0, .slice none 0 0]) (by simp [results, Tryd.results65, go_sem, d0, d1, d2, d3, d4, d5, d6, d7]) rfl ?_
    rw [HZ.out]
    exact ⟨_, rfl, gzero_rxv _ _, HG9.out, HK9.out⟩
  | false =>
    rw [hsp] at hZ HSP
    rw [if_neg (by decide)] at hZ
    have HZ := Lib.hid hZ
    clear hZ hsp
    go_enter Tryd.func65, Tryd.ntmps65
    go_upto_region 1 with (fail)
    rw [← HW1.out]
    go_wp2_with fail
    refine HN.out.mono ?_
    rintro ee w2 ⟨rfl, n2, rfl⟩
    have HS2 := Lib.hid (HS1.out.drewN n2)
    have HR2 := Lib.hid (show R8 (w1.drewN n2) w.heap.size (.int .i64 0) (.int .u64 0) (.int .u64 0) (.int .u64 0) (.int .u64 0) (.int .i64 0) (.int .i64 0) (.slice none 0 0) from Blk.drewN HR1.out n2)
    have HK2 := Lib.hid (HK1.out.drewN n2)
    obtain ⟨w2, hw2⟩ : ∃ w2, w2 = w1.drewN n2 := ⟨_, rfl⟩
    have hw2s : w.heap.size < w2.heap.size := by rw [hw2]; exact hw1s
    rw [← hw2] at HS2 HR2 HK2 ⊢
    clear hw2 HS1 HR1 HK1 HN HW1
    obtain ⟨c0, c1, c2, q1, q2⟩ := HS2.out.cells
    go_wp2_with fail
    refine (HSP.out _).mono ?_
    rintro ee w9 ⟨rfl, rfl⟩
    have HS3 := Lib.hid (HS2.out.go (k + 1))
    have HR3 := Lib.hid (show R8 (w2.setCell ⟨g, 1, none⟩ (.int .i64 ((k + 1 : Nat) : Int))) w.heap.size (.int .i64 0) (.int .u64 0) (.int .u64 0) (.int .u64 0) (.int .u64 0) (.int .i64 0) (.int .i64 0) (.slice none 0 0) from Blk.far HR2.out (p := ⟨g, 1, none⟩) (by show w.heap.size ≠ g; omega) _)
    have HK3 := Lib.hid (HK2.out.setCell (p := ⟨g, 1, none⟩) (.inl rfl) (.int .i64 ((k + 1 : Nat) : Int)))
    obtain ⟨w3, hw3⟩ : ∃ w3, w3 = w2.setCell ⟨g, 1, none⟩ (.int .i64 ((k + 1 : Nat) : Int)) := ⟨_, rfl⟩
    rw [← hw3] at HS3 HR3 HK3
    rw [show ((k + 1 : Nat) : Int) = (k : Int) + 1 by omega] at hw3
    have HW3 := Lib.hid hw3
    clear hw3
    go_upto_region 26 with (fail)
    rw [← HW3.out]
    clear c0 c1 c2 q1 q2 HW3 HS2 HR2 HK2
    have HONE := Lib.hid (gone_any b w3)
    have hrx := fun (w' : World) (F : Nat → Prop) => gset_rxv w' F (oneS b.toNat)
    obtain ⟨u0, hu0⟩ : ∃ u, u = wd (oneS b.toNat) 0 := ⟨_, rfl⟩
    obtain ⟨u1, hu1⟩ : ∃ u, u = wd (oneS b.toNat) 1 := ⟨_, rfl⟩
    obtain ⟨u2, hu2⟩ : ∃ u, u = wd (oneS b.toNat) 2 := ⟨_, rfl⟩
    obtain ⟨u3, hu3⟩ : ∃ u, u = wd (oneS b.toNat) 3 := ⟨_, rfl⟩
    rw [← hu0, ← hu1, ← hu2, ← hu3] at HONE
    simp only [← hu0, ← hu1, ← hu2, ← hu3] at hrx
    have HRX := Lib.hid hrx
    clear hrx hu0 hu1 hu2 hu3
    go_wp2_with fail
    refine HONE.out.mono ?_
    rintro ee w8 ⟨rfl, hb8⟩
    have HS8 := Lib.hid (HS3.out.below hb8)
    have HR8 := Lib.hid (HR3.out.below hb8 HR3.out.lt)
    have HK8 := Lib.hid (HK3.out.then_ (Kept.of_below hb8))
    clear hb8 HONE HS3 HR3 HK3
    obtain ⟨⟨⟨r0, r1⟩, r2, r3⟩, ⟨r4, r5⟩, r6, r7⟩ := HR8.out.cells
    obtain ⟨⟨⟨z0, z1⟩, z2, z3⟩, ⟨z4, z5⟩, z6, z7⟩ := HR8.out.free
    have HF9 := Lib.hid (HR8.out.all (.int .i64 2) (.int .u64 u0) (.int .u64 u1) (.int .u64 u2) (.int .u64 u3) (.int .i64 0) (.int .i64 0) (.slice none 0 0))
    have HG9 := Lib.hid (show GS T (set8 w8 w.heap.size (.int .i64 2) (.int .u64 u0) (.int .u64 u1) (.int .u64 u2) (.int .u64 u3) (.int .i64 0) (.int .i64 0) (.slice none 0 0)) g _ _ from Blk.set8 HS8.out (by omega) (.int .i64 2) (.int .u64 u0) (.int .u64 u1) (.int .u64 u2) (.int .u64 u3) (.int .i64 0) (.int .i64 0) (.slice none 0 0))
    have HK9 := Lib.hid (kept_set8 HK8.out (.inr (Nat.le_refl w.heap.size)) (.int .i64 2) (.int .u64 u0) (.int .u64 u1) (.int .u64 u2) (.int .u64 u3) (.int .i64 0) (.int .i64 0) (.slice none 0 0))
    go_wp2_with fail
    obtain ⟨⟨⟨d0, d1⟩, d2, d3⟩, ⟨d4, d5⟩, d6, d7⟩ := HF9.out.cells
    unfold set8 at d0 d1 d2 d3 d4 d5 d6 d7
    refine bodyPost_ret (v := .agg #[.int .i64 2, .int .u64 u0, .int .u64 u1, .int .u64 u2, .int .u64 u3, .int .i64 0, .int .i64 0, .slice none 0 0]) (by simp [results, Tryd.results65, go_sem, d0, d1, d2, d3, d4, d5, d6, d7]) rfl ?_
    rw [HZ.out]
    exact ⟨_, rfl, HRX.out _ _, HG9.out, HK9.out⟩
end Go.Proofs.YtpiagfmjekcncaaDoor
