/- The law WholeSplits. -/
import Derived.Test.YtphpfkhpihlalaaSto
import Derived.Lib.QuietBelow
namespace Go.Proofs.Ytphpfkhpihlalaa
open Go.RowKit
set_option maxRecDepth 100000 in
set_option maxHeartbeats 8000000 in
theorem splits_any (A : Option Addr) (n c : Nat) (bs : List UInt8) (k cut : Int) (w : World) (hl : bs.length = n) (hc : n ≤ c) (hA : ArgB w A bs) :
    Calls Try.prog 3 #[.slice A n c, .int .i64 k, .int .i64 cut] w fun e w' => e = .returned (.bool true) ∧ Below w.heap.size w w' := by
  have hst := stands_any w
  by_cases t1 : n = 0
  · have q1 : ((n : Int) == 0) = true := by simp [t1]
    clear hA hl hc t1
    go_enter Try.func3, Try.ntmps3
    go_wp2_with fail
    refine hst.mono ?_
    rintro _ w1 ⟨rfl, hb⟩
    go_wp2_with fail
    go_ret
    exact ⟨rfl, hb⟩
  have q1 : ((n : Int) == 0) = false := by simp; omega
  by_cases t2 : 40 < n
  · have q2 : (40 : Int) < (n : Int) := by omega
    clear hA hl hc t1
    go_enter Try.func3, Try.ntmps3
    go_wp2_with fail
    refine hst.mono ?_
    rintro _ w1 ⟨rfl, hb⟩
    go_wp2_with fail
    go_ret
    exact ⟨rfl, hb⟩
  have q2 : ¬ (40 : Int) < (n : Int) := by omega
  by_cases q3 : k < 1
  · skip
    clear hA hl hc t1 t2
    go_enter Try.func3, Try.ntmps3
    go_wp2_with fail
    refine hst.mono ?_
    rintro _ w1 ⟨rfl, hb⟩
    go_wp2_with fail
    go_ret
    exact ⟨rfl, hb⟩
  by_cases q4 : 1125899906842624 < k
  · skip
    clear hA hl hc t1 t2
    go_enter Try.func3, Try.ntmps3
    go_wp2_with fail
    refine hst.mono ?_
    rintro _ w1 ⟨rfl, hb⟩
    go_wp2_with fail
    go_ret
    exact ⟨rfl, hb⟩
  by_cases q5 : cut < 0
  · skip
    clear hA hl hc t1 t2
    go_enter Try.func3, Try.ntmps3
    go_wp2_with fail
    refine hst.mono ?_
    rintro _ w1 ⟨rfl, hb⟩
    go_wp2_with fail
    go_ret
    exact ⟨rfl, hb⟩
  have hkn0 : 0 ≤ k * (n : Int) := Int.mul_nonneg (by omega) (by omega)
  have hkn1 : k * (n : Int) ≤ 1125899906842624 * 40 := Int.mul_le_mul (by omega) (by omega) (by omega) (by omega)
  have qm : IntKind.i64.wrap (k * (n : Int)) = k * (n : Int) := IntWalk.i64_in _ (by omega)
  by_cases q6 : k * (n : Int) < cut
  · skip
    clear hA hl hc t1 t2 hkn0 hkn1
    go_enter Try.func3, Try.ntmps3
    go_wp2_with fail
    refine hst.mono ?_
    rintro _ w1 ⟨rfl, hb⟩
    go_wp2_with fail
    go_ret
    exact ⟨rfl, hb⟩
  obtain ⟨K, rfl⟩ : ∃ K : Nat, k = (K : Int) := ⟨k.toNat, by omega⟩
  obtain ⟨C, rfl⟩ : ∃ C : Nat, cut = (C : Int) := ⟨cut.toNat, by omega⟩
  have hCn : C ≤ K * n := by omega
  have hTl : (rep K bs).length = K * n := by rw [rep_len, hl]
  have hKb : K * n ≤ 1152921504606846976 := by omega
  obtain ⟨T, hT⟩ : ∃ T, T = rep K bs := ⟨_, rfl⟩
  rw [← hT] at hTl
  have okA := Wt.of_ok (T.take C) (by rw [List.length_take]; omega)
  have okB := Wt.of_ok (T.drop C) (by rw [List.length_drop]; omega)
  have hdj := fun W => djoin_any (Wt.of (T.take C)).dig (Wt.of (T.drop C)).dig W okA.small okB.small
  rw [← dig_join, List.take_append_drop] at hdj
  have hal : (Wt.of (T.take C)).len = (C : Int) := by rw [Wt.of_len, List.length_take]; congr 1; omega
  have hwy : Hid (∀ (E : List En) (W : World) (F : Nat → Prop) (p y d : Nat), Sto w W F p E → TxO E y T d → Calls Try.prog 14 #[.pointer (some ⟨p, 0, none⟩), .int .i64 (y : Int)] W fun e w' => e = .returned (.tuple #[(Wt.of T).val, .nilIface]) ∧ Below W.heap.size W w') := Lib.hid (fun E W F p y d S hx => weight_of S.ok S.st hx W (Below.refl _ _))
  have hwa : Hid (∀ (E : List En) (W : World) (F : Nat → Prop) (p y d : Nat), Sto w W F p E → TxO E y (T.take C) d → Calls Try.prog 14 #[.pointer (some ⟨p, 0, none⟩), .int .i64 (y : Int)] W fun e w' => e = .returned (.tuple #[(Wt.of (T.take C)).val, .nilIface]) ∧ Below W.heap.size W w') := Lib.hid (fun E W F p y d S hx => weight_of S.ok S.st hx W (Below.refl _ _))
  have hwb : Hid (∀ (E : List En) (W : World) (F : Nat → Prop) (p y d : Nat), Sto w W F p E → TxO E y (T.drop C) d → Calls Try.prog 14 #[.pointer (some ⟨p, 0, none⟩), .int .i64 (y : Int)] W fun e w' => e = .returned (.tuple #[(Wt.of (T.drop C)).val, .nilIface]) ∧ Below W.heap.size W w') := Lib.hid (fun E W F p y d S hx => weight_of S.ok S.st hx W (Below.refl _ _))
  clear okA okB
  generalize Wt.of T = Y at *
  generalize Wt.of (T.take C) = A1 at *
  generalize Wt.of (T.drop C) = B1 at *
  obtain ⟨yn, yl, yh, yt, ⟨yv, ys⟩⟩ := Y
  obtain ⟨an, al, ah, at_, ⟨av, as_⟩⟩ := A1
  obtain ⟨bn, bl, bh, bt, ⟨bv, bs_⟩⟩ := B1
  simp only at hal
  subst hal
  simp only [Wt.val, Dig.val] at hwy hwa hwb hdj
  generalize (yv : Int) = yv at hwy hwa hwb hdj
  generalize (ys : Int) = ys at hwy hwa hwb hdj
  generalize (av : Int) = av at hwy hwa hwb hdj
  generalize (as_ : Int) = as_ at hwy hwa hwb hdj
  generalize (bv : Int) = bv at hwy hwa hwb hdj
  generalize (bs_ : Int) = bs_ at hwy hwa hwb hdj
  obtain ⟨g, og, rfl, hg, hcell⟩ := hA.form (by omega)
  have HC := Lib.hid hcell
  have HG := Lib.hid hg
  have HL := Lib.hid hl
  have HCC := Lib.hid hc
  have H1 := Lib.hid t1
  have H2 := Lib.hid t2
  have HTL := Lib.hid hTl
  have HCN := Lib.hid hCn
  have HTT := Lib.hid hT
  have HKB := Lib.hid hKb
  have HDJ := Lib.hid hdj
  have HK0 : Hid (K < 9223372036854775808) := Lib.hid (by omega)
  clear hcell hg hl hc hA t1 t2 hTl hCn hkn0 hkn1 hT hKb hdj
  go_enter Try.func3, Try.ntmps3
  go_wp2_with fail
  refine hst.mono ?_
  rintro _ w1 ⟨rfl, hb1⟩
  clear hst
  have hnew := new_any 1048576 w1
  rw [show (max 0 (min (1048576 : Int) 1048576)).toNat = 1048576 by decide] at hnew
  have HB1 := Lib.hid hb1
  clear hb1
  go_wp2_with fail
  refine hnew.mono ?_
  rintro _ w2 ⟨p, hp, rfl, hb2, hst2⟩
  clear qm q6 q5 q4 q3 q2 q1
  have HS := Lib.hid (show Sto w w2 _ p [] from ⟨EOk.nil, hst2, fun i hi => Nat.le_trans HB1.out.size hi.1, HB1.out.trans (hb2.mono HB1.out.size)⟩)
  generalize (fun i => w1.heap.size ≤ i ∧ i < w2.heap.size) = F2 at *
  clear hnew hp hb2 hst2 HB1
  have hsb := ArgB.slB HC.out HG.out HS.out.bel HS.out.lo
  have htx := Text_any HS.out.ok HS.out.st (A := some ⟨g, og, none⟩) (c := c) (bs := bs) (fun _ => ⟨g, og, rfl, hsb⟩) (n := n) HL.out HCC.out (by have := H2.out; omega)
  unfold ptr at *
  go_wp2_with fail
  refine (htx).mono ?_
  intro e w3 h
  obtain ⟨E1, x, F3, rfl, hS, hext, hlen, hgood, hk, hsub⟩ := HS.out.av h (by have := H2.out; simp; omega)
  clear h
  clear HS
  have HS := Lib.hid hS
  clear hS hk hsub
  have HL1 : Hid (E1.length ≤ 80) := Lib.hid (by have := H2.out; simp at hlen; omega)
  have HX := Lib.hid hgood
  clear hlen hext hgood htx hsb
  have hrp := Repeat_any HS.out.ok HS.out.st HX.out K HK0.out (by rw [HL.out]; exact HKB.out)
  unfold ptr at hrp
  go_wp2_with fail
  refine (hrp).mono ?_
  intro e w4 h
  obtain ⟨E2, y, F4, rfl, hS, hext, hlen, hgood, hk, hsub⟩ := HS.out.av h (by have := HL1.out; omega)
  clear h
  clear HS
  have HS := Lib.hid hS
  clear hS hk hsub
  rw [← HTT.out] at hgood
  obtain ⟨d, hy⟩ := hgood
  have HL2 : Hid (E2.length ≤ 33092) := Lib.hid (by have := HL1.out; omega)
  have HY := Lib.hid hy
  clear hlen hext hrp hy HX HL1
  have hdep := depth_of HS.out.st HY.out _ (Below.refl _ _)
  have HD : Hid (d < 87) := Lib.hid (HY.out.len HS.out.ok).2.1
  unfold ptr at hdep
  go_wp2_with fail
  refine (hdep).mono ?_
  rintro _ w5 ⟨rfl, hb⟩
  have HSn := Lib.hid (HS.out.next hb)
  clear HS  hb
  have HS := HSn
  clear HSn
  clear hdep
  have hw1 := hwy.out _ _ _ p y d HS.out HY.out
  go_wp2_with fail
  refine (hw1).mono ?_
  rintro _ w6 ⟨rfl, hb⟩
  have HSn := Lib.hid (HS.out.next hb)
  clear HS  hb
  have HS := HSn
  clear HSn
  clear hw1
  go_upto_region 12 with (fail)
  have HKYn := Lib.hid (Blk.new w6 38 #[.int .i64 yn, .int .i64 yl, .int .i64 yh, .int .i64 yt, .int .u64 yv, .int .u64 ys])
  have HNY := Lib.hid HS.out.fresh
  have hb := (Below.refl w6.heap.size w6).alloc (Nat.le_refl _) (.cells #[.int .i64 yn, .int .i64 yl, .int .i64 yh, .int .i64 yt, .int .u64 yv, .int .u64 ys] 38)
  obtain ⟨w7, hw⟩ : ∃ w7, w7 = w6.alloc (.cells #[.int .i64 yn, .int .i64 yl, .int .i64 yh, .int .i64 yt, .int .u64 yv, .int .u64 ys] 38) := ⟨_, rfl⟩
  rw [← hw] at hb HKYn ⊢
  clear hw
  have HSn := Lib.hid (HS.out.next hb)
  clear HS  hb
  have HS := HSn
  clear HSn
  have HKY := HKYn
  clear HKYn
  generalize w6.heap.size = qY at *
  have hl1 := len_any HS.out.st
  unfold ptr at hl1
  go_wp2_with fail
  refine (hl1).mono ?_
  rintro _ wk ⟨rfl, hwk⟩
  rw [hwk]
  clear hwk wk
  clear hl1
  have hsp := Split_any HS.out.ok HS.out.st HY.out C (by rw [HTL.out]; exact HCN.out)
  unfold ptr at hsp
  go_wp2_with fail
  refine hsp.mono ?_
  intro e w8 h
  have hsp2 := HS.out.split h (by have := HL2.out; have := HD.out; omega)
  obtain ⟨E3, F8, a, b, ra, rb, rfl, hS, hext, hlen, ha, hb_, hk, hsub⟩ := hsp2
  clear h hsp
  have HKYn := Lib.hid (HKY.out.kept hk HNY.out)
  have HNYn := Lib.hid (fun h => HNY.out (hsub qY HKY.out.lt h))
  clear HKY HNY
  have HKY := HKYn
  have HNY := HNYn
  clear HKYn HNYn
  clear HS
  have HS := Lib.hid hS
  clear hS hk hsub
  have HA := Lib.hid ha
  have HBB := Lib.hid hb_
  have HL3 := Lib.hid hlen
  have HL30 : Hid (E2.length ≤ E3.length) := Lib.hid hext.len
  clear ha hb_ hlen hext HY
  have hl2 := len_any HS.out.st
  unfold ptr at hl2
  have s1 : IntKind.i64.wrap ((E3.length : Int) - (E2.length : Int)) = (E3.length : Int) - (E2.length : Int) := IntWalk.i64_in _ (by have := HL3.out; have := HL30.out; have := HL2.out; have := HD.out; omega)
  have s2 : IntKind.i64.wrap ((d : Int) + 1) = (d : Int) + 1 := IntWalk.i64_in _ (by have := HD.out; omega)
  have s3 : IntKind.i64.wrap (16 * ((d : Int) + 1)) = 16 * ((d : Int) + 1) := IntWalk.i64_in _ (by have := HD.out; omega)
  have s4 : ¬ 16 * ((d : Int) + 1) < (E3.length : Int) - (E2.length : Int) := by have := HL3.out; omega
  go_wp2_with fail
  refine (hl2).mono ?_
  rintro _ wk ⟨rfl, hwk⟩
  rw [hwk]
  clear hwk wk
  clear hl2
  have hda := depth_of HS.out.st HA.out _ (Below.refl _ _)
  have HDA : Hid (ra < 87) := Lib.hid (HA.out.len HS.out.ok).2.1
  have HDB : Hid (rb < 87) := Lib.hid (HBB.out.len HS.out.ok).2.1
  unfold ptr at hda
  go_wp2_with fail
  refine (hda).mono ?_
  rintro _ w9 ⟨rfl, hb⟩
  have HSn := Lib.hid (HS.out.next hb)
  have HKYn := Lib.hid (HKY.out.below hb HKY.out.lt)
  clear HS HKY hb
  have HS := HSn
  clear HSn
  have HKY := HKYn
  clear HKYn
  clear hda s1 s2 s3 s4
  have hdb := depth_of HS.out.st HBB.out _ (Below.refl _ _)
  unfold ptr at hdb
  go_wp2_with fail
  refine (hdb).mono ?_
  rintro _ w10 ⟨rfl, hb⟩
  have HSn := Lib.hid (HS.out.next hb)
  have HKYn := Lib.hid (HKY.out.below hb HKY.out.lt)
  clear HS HKY hb
  have HS := HSn
  clear HSn
  have HKY := HKYn
  clear HKYn
  clear hdb
  have hl3 := len_any HS.out.st
  unfold ptr at hl3
  go_wp2_with fail
  refine (hl3).mono ?_
  rintro _ wk ⟨rfl, hwk⟩
  rw [hwk]
  clear hwk wk
  clear hl3
  have hjn := Join_any HS.out.ok HS.out.st HA.out HBB.out (by rw [List.length_take, List.length_drop, HTL.out]; have := HCN.out; have := HKB.out; omega)
  unfold ptr at hjn
  go_wp2_with fail
  refine (hjn).mono ?_
  intro e w11 h
  obtain ⟨E4, z, F11, rfl, hS, hext, hlen, hgood, hk, hsub⟩ := HS.out.av h (by have := HL3.out; have := HL2.out; have := HD.out; have := HDA.out; have := HDB.out; unfold gap; omega)
  clear h
  have HKYn := Lib.hid (HKY.out.kept hk HNY.out)
  have HNYn := Lib.hid (fun h => HNY.out (hsub qY HKY.out.lt h))
  clear HKY HNY
  have HKY := HKYn
  have HNY := HNYn
  clear HKYn HNYn
  clear HS
  have HS := Lib.hid hS
  clear hS hk hsub
  obtain ⟨dz, hz, _, _⟩ := hgood
  rw [List.take_append_drop] at hz
  have HZ := Lib.hid hz
  have HL4 := Lib.hid hlen
  have HL40 : Hid (E3.length ≤ E4.length) := Lib.hid hext.len
  have HA4 := Lib.hid (HA.out.ext hext)
  have HB4 := Lib.hid (HBB.out.ext hext)
  clear hz hlen hext hjn HA HBB
  have hl4 := len_any HS.out.st
  unfold ptr at hl4
  have hgp : (max (ra : Int) (rb : Int) - min (ra : Int) (rb : Int)) = ((gap ra rb : Nat) : Int) := by unfold gap; omega
  have hg86 : gap ra rb ≤ 86 := by have := HDA.out; have := HDB.out; unfold gap; omega
  have u1 : IntKind.i64.wrap ((E4.length : Int) - (E3.length : Int)) = (E4.length : Int) - (E3.length : Int) := IntWalk.i64_in _ (by have := HL4.out; have := HL40.out; omega)
  have u2 : IntKind.i64.wrap (max (ra : Int) (rb : Int) - min (ra : Int) (rb : Int)) = (max (ra : Int) (rb : Int) - min (ra : Int) (rb : Int)) := IntWalk.i64_in _ (by omega)
  have u3 : IntKind.i64.wrap ((max (ra : Int) (rb : Int) - min (ra : Int) (rb : Int)) + 1) = (max (ra : Int) (rb : Int) - min (ra : Int) (rb : Int)) + 1 := IntWalk.i64_in _ (by omega)
  have u4 : IntKind.i64.wrap (4 * ((max (ra : Int) (rb : Int) - min (ra : Int) (rb : Int)) + 1)) = 4 * ((max (ra : Int) (rb : Int) - min (ra : Int) (rb : Int)) + 1) := IntWalk.i64_in _ (by omega)
  have u5 : ¬ 4 * ((max (ra : Int) (rb : Int) - min (ra : Int) (rb : Int)) + 1) < (E4.length : Int) - (E3.length : Int) := by have := HL4.out; omega
  clear hgp hg86
  go_wp2_with fail
  refine (hl4).mono ?_
  rintro _ wk ⟨rfl, hwk⟩
  rw [hwk]
  clear hwk wk
  clear hl4
  have hwt := hwa.out _ _ _ p a ra HS.out HA4.out
  go_wp2_with fail
  refine (hwt).mono ?_
  rintro _ w12 ⟨rfl, hb⟩
  have HSn := Lib.hid (HS.out.next hb)
  have HKYn := Lib.hid (HKY.out.below hb HKY.out.lt)
  clear HS HKY hb
  have HS := HSn
  clear HSn
  have HKY := HKYn
  clear HKYn
  clear hwt u1 u2 u3 u4 u5
  go_upto_region 23 with (fail)
  have HKAn := Lib.hid (Blk.new w12 38 #[.int .i64 (C : Int), .int .i64 al, .int .i64 ah, .int .i64 at_, .int .u64 av, .int .u64 as_])
  have HNA := Lib.hid HS.out.fresh
  have hb := (Below.refl w12.heap.size w12).alloc (Nat.le_refl _) (.cells #[.int .i64 (C : Int), .int .i64 al, .int .i64 ah, .int .i64 at_, .int .u64 av, .int .u64 as_] 38)
  obtain ⟨w13, hw⟩ : ∃ w13, w13 = w12.alloc (.cells #[.int .i64 (C : Int), .int .i64 al, .int .i64 ah, .int .i64 at_, .int .u64 av, .int .u64 as_] 38) := ⟨_, rfl⟩
  rw [← hw] at hb HKAn ⊢
  clear hw
  have HSn := Lib.hid (HS.out.next hb)
  have HKYn := Lib.hid (HKY.out.below hb HKY.out.lt)
  clear HS HKY hb
  have HS := HSn
  clear HSn
  have HKY := HKYn
  clear HKYn
  have HKA := HKAn
  clear HKAn
  generalize w12.heap.size = qA at *
  have hwt := hwb.out _ _ _ p b rb HS.out HB4.out
  go_wp2_with fail
  refine (hwt).mono ?_
  rintro _ w14 ⟨rfl, hb⟩
  have HSn := Lib.hid (HS.out.next hb)
  have HKYn := Lib.hid (HKY.out.below hb HKY.out.lt)
  have HKAn := Lib.hid (HKA.out.below hb HKA.out.lt)
  clear HS HKY HKA hb
  have HS := HSn
  clear HSn
  have HKY := HKYn
  clear HKYn
  have HKA := HKAn
  clear HKAn
  clear hwt
  go_upto_region 24 with (fail)
  have HKBn := Lib.hid (Blk.new w14 38 #[.int .i64 bn, .int .i64 bl, .int .i64 bh, .int .i64 bt, .int .u64 bv, .int .u64 bs_])
  have HNB := Lib.hid HS.out.fresh
  have hb := (Below.refl w14.heap.size w14).alloc (Nat.le_refl _) (.cells #[.int .i64 bn, .int .i64 bl, .int .i64 bh, .int .i64 bt, .int .u64 bv, .int .u64 bs_] 38)
  obtain ⟨w15, hw⟩ : ∃ w15, w15 = w14.alloc (.cells #[.int .i64 bn, .int .i64 bl, .int .i64 bh, .int .i64 bt, .int .u64 bv, .int .u64 bs_] 38) := ⟨_, rfl⟩
  rw [← hw] at hb HKBn ⊢
  clear hw
  have HSn := Lib.hid (HS.out.next hb)
  have HKYn := Lib.hid (HKY.out.below hb HKY.out.lt)
  have HKAn := Lib.hid (HKA.out.below hb HKA.out.lt)
  clear HS HKY HKA hb
  have HS := HSn
  clear HSn
  have HKY := HKYn
  clear HKYn
  have HKA := HKAn
  clear HKAn
  have HKB := HKBn
  clear HKBn
  generalize w14.heap.size = qB at *
  have hwt := hwy.out _ _ _ p z dz HS.out HZ.out
  go_wp2_with fail
  refine (hwt).mono ?_
  rintro _ w16 ⟨rfl, hb⟩
  have HSn := Lib.hid (HS.out.next hb)
  have HKYn := Lib.hid (HKY.out.below hb HKY.out.lt)
  have HKAn := Lib.hid (HKA.out.below hb HKA.out.lt)
  have HKBn := Lib.hid (HKB.out.below hb HKB.out.lt)
  clear HS HKY HKA HKB hb
  have HS := HSn
  clear HSn
  have HKY := HKYn
  clear HKYn
  have HKA := HKAn
  clear HKAn
  have HKB := HKBn
  clear HKBn
  clear hwt
  go_upto_region 25 with (fail)
  have HKZn := Lib.hid (Blk.new w16 38 #[.int .i64 yn, .int .i64 yl, .int .i64 yh, .int .i64 yt, .int .u64 yv, .int .u64 ys])
  have HNZ := Lib.hid HS.out.fresh
  have hb := (Below.refl w16.heap.size w16).alloc (Nat.le_refl _) (.cells #[.int .i64 yn, .int .i64 yl, .int .i64 yh, .int .i64 yt, .int .u64 yv, .int .u64 ys] 38)
  obtain ⟨w17, hw⟩ : ∃ w17, w17 = w16.alloc (.cells #[.int .i64 yn, .int .i64 yl, .int .i64 yh, .int .i64 yt, .int .u64 yv, .int .u64 ys] 38) := ⟨_, rfl⟩
  rw [← hw] at hb HKZn ⊢
  clear hw
  have HSn := Lib.hid (HS.out.next hb)
  have HKYn := Lib.hid (HKY.out.below hb HKY.out.lt)
  have HKAn := Lib.hid (HKA.out.below hb HKA.out.lt)
  have HKBn := Lib.hid (HKB.out.below hb HKB.out.lt)
  clear HS HKY HKA HKB hb
  have HS := HSn
  clear HSn
  have HKY := HKYn
  clear HKYn
  have HKA := HKAn
  clear HKAn
  have HKB := HKBn
  clear HKBn
  have HKZ := HKZn
  clear HKZn
  generalize w16.heap.size = qZ at *
  have hbl := balanced_of HS.out.st HZ.out _ (Below.refl _ _)
  unfold ptr at hbl
  go_wp2_with fail
  refine (hbl).mono ?_
  rintro _ w18 ⟨rfl, hb⟩
  have HSn := Lib.hid (HS.out.next hb)
  have HKYn := Lib.hid (HKY.out.below hb HKY.out.lt)
  have HKAn := Lib.hid (HKA.out.below hb HKA.out.lt)
  have HKBn := Lib.hid (HKB.out.below hb HKB.out.lt)
  have HKZn := Lib.hid (HKZ.out.below hb HKZ.out.lt)
  clear HS HKY HKA HKB HKZ hb
  have HS := HSn
  clear HSn
  have HKY := HKYn
  clear HKYn
  have HKA := HKAn
  clear HKAn
  have HKB := HKBn
  clear HKBn
  have HKZ := HKZn
  clear HKZn
  clear hbl
  have c0 := HKY.out.cell 0
  have c1 := HKY.out.cell 1
  have c2 := HKY.out.cell 2
  have c3 := HKY.out.cell 3
  have c4 := HKY.out.cell 4
  have c5 := HKY.out.cell 5
  simp only [List.getElem?_toArray, List.getElem?_cons_zero, List.getElem?_cons_succ] at c0 c1 c2 c3 c4 c5
  have kc0 := cell_regrown c0
  have kc1 := cell_regrown c1
  have kc2 := cell_regrown c2
  have kc3 := cell_regrown c3
  have kc4 := cell_regrown c4
  have kc5 := cell_regrown c5
  clear c0 c1 c2 c3 c4 c5
  have e0 := HKA.out.cell 0
  have e1 := HKA.out.cell 1
  have e2 := HKA.out.cell 2
  have e3 := HKA.out.cell 3
  have e4 := HKA.out.cell 4
  have e5 := HKA.out.cell 5
  simp only [List.getElem?_toArray, List.getElem?_cons_zero, List.getElem?_cons_succ] at e0 e1 e2 e3 e4 e5
  have ke0 := cell_regrown e0
  have ke1 := cell_regrown e1
  have ke2 := cell_regrown e2
  have ke3 := cell_regrown e3
  have ke4 := cell_regrown e4
  have ke5 := cell_regrown e5
  clear e0 e1 e2 e3 e4 e5
  have f0 := HKB.out.cell 0
  have f1 := HKB.out.cell 1
  have f2 := HKB.out.cell 2
  have f3 := HKB.out.cell 3
  have f4 := HKB.out.cell 4
  have f5 := HKB.out.cell 5
  simp only [List.getElem?_toArray, List.getElem?_cons_zero, List.getElem?_cons_succ] at f0 f1 f2 f3 f4 f5
  have kf0 := cell_regrown f0
  have kf1 := cell_regrown f1
  have kf2 := cell_regrown f2
  have kf3 := cell_regrown f3
  have kf4 := cell_regrown f4
  have kf5 := cell_regrown f5
  clear f0 f1 f2 f3 f4 f5
  have g0 := HKZ.out.cell 0
  have g1 := HKZ.out.cell 1
  have g2 := HKZ.out.cell 2
  have g3 := HKZ.out.cell 3
  have g4 := HKZ.out.cell 4
  have g5 := HKZ.out.cell 5
  simp only [List.getElem?_toArray, List.getElem?_cons_zero, List.getElem?_cons_succ] at g0 g1 g2 g3 g4 g5
  have kg0 := cell_regrown g0
  have kg1 := cell_regrown g1
  have kg2 := cell_regrown g2
  have kg3 := cell_regrown g3
  have kg4 := cell_regrown g4
  have kg5 := cell_regrown g5
  clear g0 g1 g2 g3 g4 g5
  have cJ : ∀ d os, Calls Try.prog 19 #[.agg #[.int .u64 av, .int .u64 as_], .agg #[.int .u64 bv, .int .u64 bs_]] (Go.Sort.grow (redrawn w18 d) os) fun e w'' => e = .returned (.agg #[.int .u64 yv, .int .u64 ys]) ∧ ∃ p : Regrown, w'' = Go.Sort.grow (redrawn w18 p.d) p.os := fun d os => Calls.regrown_of (HDJ.out _)
  have hcmp := fun W => wt_eql (C : Int) yl yh yt yv ys W
  have hcm1 := fun W => wt_eql yn yl yh yt yv ys W
  have hcm2 := fun W => dg_eql yv ys W
  go_wp2_with fail
  refine wp_region_quiet_below (by kernel_rfl) (by kernel_rfl) ?_
  repeat (quiet_step (exact cJ _ _))
  refine wpQuiet_nil ?_
  intro _ hw'
  obtain ⟨⟨dq, osq⟩, hw''⟩ := hw'
  subst hw''
  have hq := below_regrown w18 dq osq
  have HE := Lib.hid (HS.out.next hq).bel
  clear hq
  simp only
  go_wp2_with fail
  go_ret
  exact ⟨rfl, HE.out⟩
end Go.Proofs.Ytphpfkhpihlalaa
