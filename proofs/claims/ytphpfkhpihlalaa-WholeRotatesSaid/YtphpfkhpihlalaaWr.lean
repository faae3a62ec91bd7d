/- The law WholeRotates. -/
import Derived.Test.YtphpfkhpihlalaaAcc
namespace Go.Proofs.Ytphpfkhpihlalaa
open Go.RowKit
set_option maxRecDepth 100000 in
set_option maxHeartbeats 8000000 in
theorem rotates_any (A : Option Addr) (n c : Nat) (bs : List UInt8) (k j off : Int) (w : World) (hl : bs.length = n) (hc : n ≤ c) (hA : ArgB w A bs) :
    Calls Try.prog 5 #[.slice A n c, .int .i64 k, .agg #[.int .i64 j, .int .i64 off]] w fun e w' => e = .returned (.bool true) ∧ Below w.heap.size w w' := by
  by_cases t1 : n = 0
  · have q1 : ((n : Int) == 0) = true := by simp [t1]
    clear hA hl hc t1
    have HB1 := Lib.hid ((Below.refl w.heap.size w).alloc (Nat.le_refl _) (.cells #[.int .i64 j, .int .i64 off] 52))
    have HK := Lib.hid (Blk.new w 52 #[.int .i64 j, .int .i64 off])
    obtain ⟨w1, hw1⟩ : ∃ w1, w1 = w.alloc (.cells #[.int .i64 j, .int .i64 off] 52) := ⟨_, rfl⟩
    rw [← hw1] at HB1 HK
    have HW1 := Lib.hid hw1
    clear hw1
    have b0 := HK.out.cell 0
    have b1 := HK.out.cell 1
    simp only [List.getElem?_toArray, List.getElem?_cons_zero, List.getElem?_cons_succ] at b0 b1
    go_enter Try.func5, Try.ntmps5
    go_upto_region 1 with (fail)
    rw [← HW1.out]
    clear HW1
    go_quiet (fail)
    have HB2 := Lib.hid (below_drewN HB1.out nq)
    obtain ⟨w2, hw2⟩ : ∃ w2, w2 = w1.drewN nq := ⟨_, rfl⟩
    rw [← hw2] at HB2 ⊢
    clear hw2 HB1 HK b0 b1
    have hst := stands_any w2
    go_wp2_with fail
    refine hst.mono ?_
    rintro _ w3 ⟨rfl, hb3⟩
    have HB3 := Lib.hid (HB2.out.trans (hb3.mono HB2.out.size))
    clear hb3 hst HB2
    go_wp2_with fail
    go_ret
    exact ⟨rfl, HB3.out⟩
  have q1 : ((n : Int) == 0) = false := by simp; omega
  by_cases t2 : 40 < n
  · have q2 : (40 : Int) < (n : Int) := by omega
    clear hA hl hc t1
    have HB1 := Lib.hid ((Below.refl w.heap.size w).alloc (Nat.le_refl _) (.cells #[.int .i64 j, .int .i64 off] 52))
    have HK := Lib.hid (Blk.new w 52 #[.int .i64 j, .int .i64 off])
    obtain ⟨w1, hw1⟩ : ∃ w1, w1 = w.alloc (.cells #[.int .i64 j, .int .i64 off] 52) := ⟨_, rfl⟩
    rw [← hw1] at HB1 HK
    have HW1 := Lib.hid hw1
    clear hw1
    have b0 := HK.out.cell 0
    have b1 := HK.out.cell 1
    simp only [List.getElem?_toArray, List.getElem?_cons_zero, List.getElem?_cons_succ] at b0 b1
    go_enter Try.func5, Try.ntmps5
    go_upto_region 1 with (fail)
    rw [← HW1.out]
    clear HW1
    go_quiet (fail)
    have HB2 := Lib.hid (below_drewN HB1.out nq)
    obtain ⟨w2, hw2⟩ : ∃ w2, w2 = w1.drewN nq := ⟨_, rfl⟩
    rw [← hw2] at HB2 ⊢
    clear hw2 HB1 HK b0 b1
    have hst := stands_any w2
    go_wp2_with fail
    refine hst.mono ?_
    rintro _ w3 ⟨rfl, hb3⟩
    have HB3 := Lib.hid (HB2.out.trans (hb3.mono HB2.out.size))
    clear hb3 hst HB2
    go_wp2_with fail
    go_ret
    exact ⟨rfl, HB3.out⟩
  have q2 : ¬ (40 : Int) < (n : Int) := by omega
  by_cases q3 : k < 1
  · clear hA hl hc t1 t2
    have HB1 := Lib.hid ((Below.refl w.heap.size w).alloc (Nat.le_refl _) (.cells #[.int .i64 j, .int .i64 off] 52))
    have HK := Lib.hid (Blk.new w 52 #[.int .i64 j, .int .i64 off])
    obtain ⟨w1, hw1⟩ : ∃ w1, w1 = w.alloc (.cells #[.int .i64 j, .int .i64 off] 52) := ⟨_, rfl⟩
    rw [← hw1] at HB1 HK
    have HW1 := Lib.hid hw1
    clear hw1
    have b0 := HK.out.cell 0
    have b1 := HK.out.cell 1
    simp only [List.getElem?_toArray, List.getElem?_cons_zero, List.getElem?_cons_succ] at b0 b1
    go_enter Try.func5, Try.ntmps5
    go_upto_region 1 with (fail)
    rw [← HW1.out]
    clear HW1
    go_quiet (fail)
    have HB2 := Lib.hid (below_drewN HB1.out nq)
    obtain ⟨w2, hw2⟩ : ∃ w2, w2 = w1.drewN nq := ⟨_, rfl⟩
    rw [← hw2] at HB2 ⊢
    clear hw2 HB1 HK b0 b1
    have hst := stands_any w2
    go_wp2_with fail
    refine hst.mono ?_
    rintro _ w3 ⟨rfl, hb3⟩
    have HB3 := Lib.hid (HB2.out.trans (hb3.mono HB2.out.size))
    clear hb3 hst HB2
    go_wp2_with fail
    go_ret
    exact ⟨rfl, HB3.out⟩
  by_cases q4 : 1125899906842624 < k
  · clear hA hl hc t1 t2
    have HB1 := Lib.hid ((Below.refl w.heap.size w).alloc (Nat.le_refl _) (.cells #[.int .i64 j, .int .i64 off] 52))
    have HK := Lib.hid (Blk.new w 52 #[.int .i64 j, .int .i64 off])
    obtain ⟨w1, hw1⟩ : ∃ w1, w1 = w.alloc (.cells #[.int .i64 j, .int .i64 off] 52) := ⟨_, rfl⟩
    rw [← hw1] at HB1 HK
    have HW1 := Lib.hid hw1
    clear hw1
    have b0 := HK.out.cell 0
    have b1 := HK.out.cell 1
    simp only [List.getElem?_toArray, List.getElem?_cons_zero, List.getElem?_cons_succ] at b0 b1
    go_enter Try.func5, Try.ntmps5
    go_upto_region 1 with (fail)
    rw [← HW1.out]
    clear HW1
    go_quiet (fail)
    have HB2 := Lib.hid (below_drewN HB1.out nq)
    obtain ⟨w2, hw2⟩ : ∃ w2, w2 = w1.drewN nq := ⟨_, rfl⟩
    rw [← hw2] at HB2 ⊢
    clear hw2 HB1 HK b0 b1
    have hst := stands_any w2
    go_wp2_with fail
    refine hst.mono ?_
    rintro _ w3 ⟨rfl, hb3⟩
    have HB3 := Lib.hid (HB2.out.trans (hb3.mono HB2.out.size))
    clear hb3 hst HB2
    go_wp2_with fail
    go_ret
    exact ⟨rfl, HB3.out⟩
  by_cases q5 : j < 0
  · clear hA hl hc t1 t2
    have HB1 := Lib.hid ((Below.refl w.heap.size w).alloc (Nat.le_refl _) (.cells #[.int .i64 j, .int .i64 off] 52))
    have HK := Lib.hid (Blk.new w 52 #[.int .i64 j, .int .i64 off])
    obtain ⟨w1, hw1⟩ : ∃ w1, w1 = w.alloc (.cells #[.int .i64 j, .int .i64 off] 52) := ⟨_, rfl⟩
    rw [← hw1] at HB1 HK
    have HW1 := Lib.hid hw1
    clear hw1
    have b0 := HK.out.cell 0
    have b1 := HK.out.cell 1
    simp only [List.getElem?_toArray, List.getElem?_cons_zero, List.getElem?_cons_succ] at b0 b1
    go_enter Try.func5, Try.ntmps5
    go_upto_region 1 with (fail)
    rw [← HW1.out]
    clear HW1
    go_quiet (fail)
    have HB2 := Lib.hid (below_drewN HB1.out nq)
    obtain ⟨w2, hw2⟩ : ∃ w2, w2 = w1.drewN nq := ⟨_, rfl⟩
    rw [← hw2] at HB2 ⊢
    clear hw2 HB1 HK b0 b1
    have hst := stands_any w2
    go_wp2_with fail
    refine hst.mono ?_
    rintro _ w3 ⟨rfl, hb3⟩
    have HB3 := Lib.hid (HB2.out.trans (hb3.mono HB2.out.size))
    clear hb3 hst HB2
    go_wp2_with fail
    go_ret
    exact ⟨rfl, HB3.out⟩
  by_cases q6 : k < j
  · clear hA hl hc t1 t2
    have HB1 := Lib.hid ((Below.refl w.heap.size w).alloc (Nat.le_refl _) (.cells #[.int .i64 j, .int .i64 off] 52))
    have HK := Lib.hid (Blk.new w 52 #[.int .i64 j, .int .i64 off])
    obtain ⟨w1, hw1⟩ : ∃ w1, w1 = w.alloc (.cells #[.int .i64 j, .int .i64 off] 52) := ⟨_, rfl⟩
    rw [← hw1] at HB1 HK
    have HW1 := Lib.hid hw1
    clear hw1
    have b0 := HK.out.cell 0
    have b1 := HK.out.cell 1
    simp only [List.getElem?_toArray, List.getElem?_cons_zero, List.getElem?_cons_succ] at b0 b1
    go_enter Try.func5, Try.ntmps5
    go_upto_region 1 with (fail)
    rw [← HW1.out]
    clear HW1
    go_quiet (fail)
    have HB2 := Lib.hid (below_drewN HB1.out nq)
    obtain ⟨w2, hw2⟩ : ∃ w2, w2 = w1.drewN nq := ⟨_, rfl⟩
    rw [← hw2] at HB2 ⊢
    clear hw2 HB1 HK b0 b1
    have hst := stands_any w2
    go_wp2_with fail
    refine hst.mono ?_
    rintro _ w3 ⟨rfl, hb3⟩
    have HB3 := Lib.hid (HB2.out.trans (hb3.mono HB2.out.size))
    clear hb3 hst HB2
    go_wp2_with fail
    go_ret
    exact ⟨rfl, HB3.out⟩
  by_cases q7 : off < 0
  · clear hA hl hc t1 t2
    have HB1 := Lib.hid ((Below.refl w.heap.size w).alloc (Nat.le_refl _) (.cells #[.int .i64 j, .int .i64 off] 52))
    have HK := Lib.hid (Blk.new w 52 #[.int .i64 j, .int .i64 off])
    obtain ⟨w1, hw1⟩ : ∃ w1, w1 = w.alloc (.cells #[.int .i64 j, .int .i64 off] 52) := ⟨_, rfl⟩
    rw [← hw1] at HB1 HK
    have HW1 := Lib.hid hw1
    clear hw1
    have b0 := HK.out.cell 0
    have b1 := HK.out.cell 1
    simp only [List.getElem?_toArray, List.getElem?_cons_zero, List.getElem?_cons_succ] at b0 b1
    go_enter Try.func5, Try.ntmps5
    go_upto_region 1 with (fail)
    rw [← HW1.out]
    clear HW1
    go_quiet (fail)
    have HB2 := Lib.hid (below_drewN HB1.out nq)
    obtain ⟨w2, hw2⟩ : ∃ w2, w2 = w1.drewN nq := ⟨_, rfl⟩
    rw [← hw2] at HB2 ⊢
    clear hw2 HB1 HK b0 b1
    have hst := stands_any w2
    go_wp2_with fail
    refine hst.mono ?_
    rintro _ w3 ⟨rfl, hb3⟩
    have HB3 := Lib.hid (HB2.out.trans (hb3.mono HB2.out.size))
    clear hb3 hst HB2
    go_wp2_with fail
    go_ret
    exact ⟨rfl, HB3.out⟩
  have hkn0 : 0 ≤ k * (n : Int) := Int.mul_nonneg (by omega) (by omega)
  have hkn1 : k * (n : Int) ≤ 1125899906842624 * 40 := Int.mul_le_mul (by omega) (by omega) (by omega) (by omega)
  have qm : IntKind.i64.wrap (k * (n : Int)) = k * (n : Int) := IntWalk.i64_in _ (by omega)
  by_cases q8 : k * (n : Int) ≤ off
  · clear hA hl hc t1 t2 hkn0 hkn1
    have HB1 := Lib.hid ((Below.refl w.heap.size w).alloc (Nat.le_refl _) (.cells #[.int .i64 j, .int .i64 off] 52))
    have HK := Lib.hid (Blk.new w 52 #[.int .i64 j, .int .i64 off])
    obtain ⟨w1, hw1⟩ : ∃ w1, w1 = w.alloc (.cells #[.int .i64 j, .int .i64 off] 52) := ⟨_, rfl⟩
    rw [← hw1] at HB1 HK
    have HW1 := Lib.hid hw1
    clear hw1
    have b0 := HK.out.cell 0
    have b1 := HK.out.cell 1
    simp only [List.getElem?_toArray, List.getElem?_cons_zero, List.getElem?_cons_succ] at b0 b1
    go_enter Try.func5, Try.ntmps5
    go_upto_region 1 with (fail)
    rw [← HW1.out]
    clear HW1
    go_quiet (fail)
    have HB2 := Lib.hid (below_drewN HB1.out nq)
    obtain ⟨w2, hw2⟩ : ∃ w2, w2 = w1.drewN nq := ⟨_, rfl⟩
    rw [← hw2] at HB2 ⊢
    clear hw2 HB1 HK b0 b1
    have hst := stands_any w2
    go_wp2_with fail
    refine hst.mono ?_
    rintro _ w3 ⟨rfl, hb3⟩
    have HB3 := Lib.hid (HB2.out.trans (hb3.mono HB2.out.size))
    clear hb3 hst HB2
    go_wp2_with fail
    go_ret
    exact ⟨rfl, HB3.out⟩
  obtain ⟨K, rfl⟩ : ∃ K : Nat, k = (K : Int) := ⟨k.toNat, by omega⟩
  obtain ⟨J, rfl⟩ : ∃ J : Nat, j = (J : Int) := ⟨j.toNat, by omega⟩
  obtain ⟨O, rfl⟩ : ∃ O : Nat, off = (O : Int) := ⟨off.toNat, by omega⟩
  have hJK : J ≤ K := by omega
  have hJn : J * n ≤ K * n := Nat.mul_le_mul_right _ hJK
  have hOn : O < K * n := by omega
  have hKb : K * n ≤ 1152921504606846976 := by omega
  have qj : IntKind.i64.wrap ((J : Int) * (n : Int)) = (J : Int) * (n : Int) := by rw [← Int.natCast_mul]; exact IntWalk.i64_in _ (by omega)
  obtain ⟨T, hT⟩ : ∃ T, T = rep K bs := ⟨_, rfl⟩
  have hTl : T.length = K * n := by rw [hT, rep_len, hl]
  have hTd : T.drop (J * n) = rep (K - J) bs := by rw [hT, show rep K bs = rep J bs ++ rep (K - J) bs by rw [← rep_add]; congr 1; omega, List.drop_left' (by rw [rep_len, hl])]
  have hTt : T.take (J * n) = rep J bs := by rw [hT, show rep K bs = rep J bs ++ rep (K - J) bs by rw [← rep_add]; congr 1; omega, List.take_left' (by rw [rep_len, hl])]
  have hrot : T.drop (J * n) ++ T.take (J * n) = T := by rw [hTd, hTt, ← rep_add, hT]; congr 1; omega
  have hrn : O % n < n := Nat.mod_lt _ (by omega)
  obtain ⟨b, hbb⟩ : ∃ b, bs[O % n]? = some b := ⟨bs[O % n]'(by omega), List.getElem?_eq_getElem _⟩
  have hTO : T[O]? = some b := by rw [hT, rep_get K bs O (by rw [hl]; exact hOn), hl]; exact hbb
  have hri : (O : Int) % (n : Int) = ((O % n : Nat) : Int) := by first | exact (Int.natCast_emod O n).symm | exact (Int.ofNat_emod O n).symm | simp
  generalize O % n = r at hrn hbb hri
  have hwy : Hid (∀ (E : List En) (W : World) (F : Nat → Prop) (p y d : Nat), Sto w W F p E → TxO E y T d → Calls Try.prog 14 #[.pointer (some ⟨p, 0, none⟩), .int .i64 (y : Int)] W fun e w' => e = .returned (.tuple #[(Wt.of T).val, .nilIface]) ∧ Below W.heap.size W w') := Lib.hid (fun E W F p y d S hx => weight_of S.ok S.st hx W (Below.refl _ _))
  generalize Wt.of T = Y at hwy
  obtain ⟨yn, yl, yh, yt, ⟨yv, ys⟩⟩ := Y
  simp only [Wt.val] at hwy
  generalize (yv : Int) = yv at hwy
  generalize (ys : Int) = ys at hwy
  obtain ⟨g, og, rfl, hg, hcell⟩ := hA.form (by omega)
  have hcr : Hid (∀ W, Below w.heap.size w W → W.cell? ⟨g, og + r, none⟩ = some (.int .u8 (b.toNat : Int))) := Lib.hid (fun W hW => (hW.cell (p := ⟨g, og + r, none⟩) hg).trans (hcell r _ (by rw [List.getElem?_map, hbb]; rfl)))
  have HC := Lib.hid hcell
  have HG := Lib.hid hg
  have HL := Lib.hid hl
  have HCC := Lib.hid hc
  have H1 := Lib.hid t1
  have H2 := Lib.hid t2
  have HTL := Lib.hid hTl
  have HJN := Lib.hid hJn
  have HTT := Lib.hid hT
  have HKB := Lib.hid hKb
  have HROT := Lib.hid hrot
  have HTO := Lib.hid hTO
  have HRN := Lib.hid hrn
  have HRI := Lib.hid hri
  have HK0 : Hid (K < 9223372036854775808) := Lib.hid (by omega)
  clear hcell hg hl hc hA t1 t2 hTl hJn hkn0 hkn1 hT hKb hrot hTO hTd hTt hOn hJK hrn hri hbb
  have HB1 := Lib.hid ((Below.refl w.heap.size w).alloc (Nat.le_refl _) (.cells #[.int .i64 (J : Int), .int .i64 (O : Int)] 52))
  have HK := Lib.hid (Blk.new w 52 #[.int .i64 (J : Int), .int .i64 (O : Int)])
  obtain ⟨w1, hw1⟩ : ∃ w1, w1 = w.alloc (.cells #[.int .i64 (J : Int), .int .i64 (O : Int)] 52) := ⟨_, rfl⟩
  rw [← hw1] at HB1 HK
  have HW1 := Lib.hid hw1
  clear hw1
  have b0 := HK.out.cell 0
  have b1 := HK.out.cell 1
  simp only [List.getElem?_toArray, List.getElem?_cons_zero, List.getElem?_cons_succ] at b0 b1
  go_enter Try.func5, Try.ntmps5
  go_upto_region 1 with (fail)
  rw [← HW1.out]
  clear HW1
  go_quiet (fail)
  have HB2 := Lib.hid (below_drewN HB1.out nq)
  obtain ⟨w2, hw2⟩ : ∃ w2, w2 = w1.drewN nq := ⟨_, rfl⟩
  rw [← hw2] at HB2 ⊢
  clear hw2 HB1 HK b0 b1
  have hst := stands_any w2
  go_wp2_with fail
  refine hst.mono ?_
  rintro _ w3 ⟨rfl, hb3⟩
  have HB3 := Lib.hid (HB2.out.trans (hb3.mono HB2.out.size))
  clear hb3 hst HB2
  have hnew := new_any 1048576 w3
  rw [show (max 0 (min (1048576 : Int) 1048576)).toNat = 1048576 by decide] at hnew
  go_wp2_with fail
  refine hnew.mono ?_
  rintro _ w4 ⟨p, hp, rfl, hb4, hst4⟩
  clear qm q8 q7 q6 q5 q4 q3 q2 q1
  have HS := Lib.hid (show Sto w w4 _ p [] from ⟨EOk.nil, hst4, fun i hi => Nat.le_trans HB3.out.size hi.1, HB3.out.trans (hb4.mono HB3.out.size)⟩)
  generalize (fun i => w3.heap.size ≤ i ∧ i < w4.heap.size) = F4 at *
  clear hnew hp hb4 hst4 HB3
  have hsb := ArgB.slB HC.out HG.out HS.out.bel HS.out.lo
  have htx := Text_any HS.out.ok HS.out.st (A := some ⟨g, og, none⟩) (c := c) (bs := bs) (fun _ => ⟨g, og, rfl, hsb⟩) (n := n) HL.out HCC.out (by have := H2.out; omega)
  unfold ptr at *
  go_wp2_with fail
  refine (htx).mono ?_
  intro e w5 h
  obtain ⟨E1, x, F5, rfl, hS, hext, hlen, hgood, hk, hsub⟩ := HS.out.av h (by have := H2.out; simp; omega)
  clear h
  clear HS
  have HS := Lib.hid hS
  clear hS hk hsub
  have HL1 : Hid (E1.length ≤ 80) := Lib.hid (by have := H2.out; simp at hlen; omega)
  have HX := Lib.hid hgood
  clear hlen hext hgood htx hsb
  have hrp := Repeat_any HS.out.ok HS.out.st HX.out K HK0.out (by rw [HL.out]; exact HKB.out)
  unfold ptr at hrp
  go_wp2_with fail
  refine (hrp).mono ?_
  intro e w6 h
  obtain ⟨E2, y, F6, rfl, hS, hext, hlen, hgood, hk, hsub⟩ := HS.out.av h (by have := HL1.out; omega)
  clear h
  clear HS
  have HS := Lib.hid hS
  clear hS hk hsub
  rw [← HTT.out] at hgood
  obtain ⟨d, hy⟩ := hgood
  have HL2 : Hid (E2.length ≤ 33092) := Lib.hid (by have := HL1.out; omega)
  have HY := Lib.hid hy
  have HD : Hid (d < 87) := Lib.hid (hy.len HS.out.ok).2.1
  clear hlen hext hrp hy HX HL1
  have hsp := Split_any HS.out.ok HS.out.st HY.out (J * n) (by rw [HTL.out]; exact HJN.out)
  rw [Int.natCast_mul] at hsp
  unfold ptr at hsp
  go_wp2_with fail
  refine hsp.mono ?_
  intro e w7 h
  have hsp2 := HS.out.split h (by have := HL2.out; have := HD.out; omega)
  obtain ⟨E3, F7, a, b2, ra, rb, rfl, hS, hext, hlen, ha, hb_, hk, hsub⟩ := hsp2
  clear h hsp
  clear HS
  have HS := Lib.hid hS
  clear hS hk hsub
  have HA := Lib.hid ha
  have HBB := Lib.hid hb_
  have HL3 : Hid (E3.length ≤ 34310) := Lib.hid (by have := HL2.out; have := HD.out; omega)
  have HYY := Lib.hid (HY.out.ext hext)
  clear ha hb_ hlen hext HY qj
  have HDA : Hid (ra < 87) := Lib.hid (HA.out.len HS.out.ok).2.1
  have HDB : Hid (rb < 87) := Lib.hid (HBB.out.len HS.out.ok).2.1
  have hjn := Join_any HS.out.ok HS.out.st HBB.out HA.out (by rw [← List.length_append, HROT.out, HTL.out]; exact HKB.out)
  unfold ptr at hjn
  go_wp2_with fail
  refine (hjn).mono ?_
  intro e w8 h
  obtain ⟨E4, z, F8, rfl, hS, hext, hlen, hgood, hk, hsub⟩ := HS.out.av h (by have := HL3.out; have := HDA.out; have := HDB.out; unfold gap; omega)
  clear h
  clear HS
  have HS := Lib.hid hS
  clear hS hk hsub
  obtain ⟨dz, hz, _, _⟩ := hgood
  rw [HROT.out] at hz
  have HZ := Lib.hid hz
  have HY4 := Lib.hid (HYY.out.ext hext)
  clear hz hlen hext hjn HA HBB HYY
  have hwt := hwy.out _ _ _ p y d HS.out HY4.out
  go_wp2_with fail
  refine (hwt).mono ?_
  rintro _ w9 ⟨rfl, hb⟩
  have HSn := Lib.hid (HS.out.next hb)
  clear HS  hb
  have HS := HSn
  clear HSn
  clear hwt
  go_upto_region 16 with (fail)
  have HKYn := Lib.hid (Blk.new w9 38 #[.int .i64 yn, .int .i64 yl, .int .i64 yh, .int .i64 yt, .int .u64 yv, .int .u64 ys])
  have HNY := Lib.hid HS.out.fresh
  have hb := (Below.refl w9.heap.size w9).alloc (Nat.le_refl _) (.cells #[.int .i64 yn, .int .i64 yl, .int .i64 yh, .int .i64 yt, .int .u64 yv, .int .u64 ys] 38)
  obtain ⟨w10, hw⟩ : ∃ w10, w10 = w9.alloc (.cells #[.int .i64 yn, .int .i64 yl, .int .i64 yh, .int .i64 yt, .int .u64 yv, .int .u64 ys] 38) := ⟨_, rfl⟩
  rw [← hw] at hb HKYn ⊢
  clear hw
  have HSn := Lib.hid (HS.out.next hb)
  clear HS  hb
  have HS := HSn
  clear HSn
  have HKY := HKYn
  clear HKYn
  generalize w9.heap.size = qY at *
  have hwt := hwy.out _ _ _ p z dz HS.out HZ.out
  go_wp2_with fail
  refine (hwt).mono ?_
  rintro _ w11 ⟨rfl, hb⟩
  have HSn := Lib.hid (HS.out.next hb)
  have HKYn := Lib.hid (HKY.out.below hb HKY.out.lt)
  clear HS HKY hb
  have HS := HSn
  clear HSn
  have HKY := HKYn
  clear HKYn
  clear hwt
  go_upto_region 17 with (fail)
  have HKZn := Lib.hid (Blk.new w11 38 #[.int .i64 yn, .int .i64 yl, .int .i64 yh, .int .i64 yt, .int .u64 yv, .int .u64 ys])
  have HNZ := Lib.hid HS.out.fresh
  have hb := (Below.refl w11.heap.size w11).alloc (Nat.le_refl _) (.cells #[.int .i64 yn, .int .i64 yl, .int .i64 yh, .int .i64 yt, .int .u64 yv, .int .u64 ys] 38)
  obtain ⟨w12, hw⟩ : ∃ w12, w12 = w11.alloc (.cells #[.int .i64 yn, .int .i64 yl, .int .i64 yh, .int .i64 yt, .int .u64 yv, .int .u64 ys] 38) := ⟨_, rfl⟩
  rw [← hw] at hb HKZn ⊢
  clear hw
  have HSn := Lib.hid (HS.out.next hb)
  have HKYn := Lib.hid (HKY.out.below hb HKY.out.lt)
  clear HS HKY hb
  have HS := HSn
  clear HSn
  have HKY := HKYn
  clear HKYn
  have HKZ := HKZn
  clear HKZn
  generalize w11.heap.size = qZ at *
  have hat := at21_any HS.out.ok HS.out.st HZ.out O b HTO.out
  unfold ptr at hat
  go_wp2_with fail
  refine (hat).mono ?_
  rintro _ w13 ⟨rfl, hb⟩
  have HSn := Lib.hid (HS.out.next hb)
  have HKYn := Lib.hid (HKY.out.below hb HKY.out.lt)
  have HKZn := Lib.hid (HKZ.out.below hb HKZ.out.lt)
  clear HS HKY HKZ hb
  have HS := HSn
  clear HSn
  have HKY := HKYn
  clear HKYn
  have HKZ := HKZn
  clear HKZn
  clear hat
  have c0 := HKY.out.cell 0
  have c1 := HKY.out.cell 1
  have c2 := HKY.out.cell 2
  have c3 := HKY.out.cell 3
  have c4 := HKY.out.cell 4
  have c5 := HKY.out.cell 5
  simp only [List.getElem?_toArray, List.getElem?_cons_zero, List.getElem?_cons_succ] at c0 c1 c2 c3 c4 c5
  have e0 := HKZ.out.cell 0
  have e1 := HKZ.out.cell 1
  have e2 := HKZ.out.cell 2
  have e3 := HKZ.out.cell 3
  have e4 := HKZ.out.cell 4
  have e5 := HKZ.out.cell 5
  simp only [List.getElem?_toArray, List.getElem?_cons_zero, List.getElem?_cons_succ] at e0 e1 e2 e3 e4 e5
  have xw := hcr.out _ HS.out.bel
  have hri := HRI.out
  have r0 : (0 : Int) ≤ (r : Int) := by omega
  have r1 : (r : Int) < (n : Int) := by have := HRN.out; omega
  have hnz : ((n : Int) == 0) = false := by have := H1.out; simp; omega
  have hcm1 := fun W => wt_eql yn yl yh yt yv ys W
  have HE := Lib.hid HS.out.bel
  go_wp2_with fail
  go_ret
  exact ⟨rfl, HE.out⟩
end Go.Proofs.Ytphpfkhpihlalaa
