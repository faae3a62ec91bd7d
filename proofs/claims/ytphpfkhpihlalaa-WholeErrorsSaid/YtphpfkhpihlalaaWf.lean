/- The law WholeFull. -/
import Derived.Test.YtphpfkhpihlalaaWq
namespace Go.Proofs.Ytphpfkhpihlalaa
open Go.RowKit
/-- A slice of bytes of the caller's: its cells, in a block that is there. -/
def ArgB (w : World) (A : Option Addr) (bs : List UInt8) : Prop := Reads w w.heap.size 1 A bs.length (bs.map fun b => .int .u8 b.toNat)
theorem ArgB.slB {w w' : World} {F : Nat → Prop} {g o : Nat} {bs : List UInt8} (h : ∀ k u, (bs.map fun b => Value.int .u8 (b.toNat : Int))[k]? = some u → w.cell? ⟨g, o + k, none⟩ = some u) (hg : g < w.heap.size) (hb : Below w.heap.size w w') (hF : ∀ i, F i → w.heap.size ≤ i) : SlB w' F g o bs :=
  ⟨Nat.lt_of_lt_of_le hg hb.size, fun hf => by have := hF g hf; omega, fun i b hi => (hb.cell (p := ⟨g, o + i, none⟩) hg).trans (h i _ (by rw [List.getElem?_map, hi]; rfl))⟩
theorem StAt.len {w : World} {F : Nat → Prop} {p m : Nat} {E : List En} (h : StAt w F p m E) : E.length ≤ m := by
  obtain ⟨g, A, c, h⟩ := h
  exact h.len
set_option maxRecDepth 100000 in
set_option maxHeartbeats 8000000 in
theorem full_any (A : Option Addr) (n c : Nat) (bs : List UInt8) (k : Int) (w : World) (hl : bs.length = n) (hc : n ≤ c) (hA : ArgB w A bs) :
    Calls Try.prog 4 #[.slice A n c, .int .i64 k] w fun e w' => e = .returned (.bool true) ∧ Below w.heap.size w w' := by
  have hst := stands_any w
  by_cases t1 : n < 4
  · have q1 : (n : Int) < 4 := by omega
    clear hA hl hc
    go_enter Try.func4, Try.ntmps4
    go_wp2_with fail
    refine hst.mono ?_
    rintro _ w1 ⟨rfl, hb⟩
    go_wp2_with fail
    go_ret
    exact ⟨rfl, hb⟩
  have q1 : ¬ (n : Int) < 4 := by omega
  by_cases t2 : 60 < n
  · have q2 : (60 : Int) < (n : Int) := by omega
    clear hA hl hc t1
    go_enter Try.func4, Try.ntmps4
    go_wp2_with fail
    refine hst.mono ?_
    rintro _ w1 ⟨rfl, hb⟩
    go_wp2_with fail
    go_ret
    exact ⟨rfl, hb⟩
  have q2 : ¬ (60 : Int) < (n : Int) := by omega
  by_cases q3 : k < 1
  · clear hA hl hc t1 t2
    go_enter Try.func4, Try.ntmps4
    go_wp2_with fail
    refine hst.mono ?_
    rintro _ w1 ⟨rfl, hb⟩
    go_wp2_with fail
    go_ret
    exact ⟨rfl, hb⟩
  by_cases q4 : 200 < k
  · clear hA hl hc t1 t2
    go_enter Try.func4, Try.ntmps4
    go_wp2_with fail
    refine hst.mono ?_
    rintro _ w1 ⟨rfl, hb⟩
    go_wp2_with fail
    go_ret
    exact ⟨rfl, hb⟩
  have hnew := fun W => new_any k W
  have hkm : ((max 0 (min k 1048576)).toNat : Int) = k := by omega
  generalize (max 0 (min k 1048576)).toNat = m at hnew hkm
  obtain ⟨g, o, rfl, hg, hcell⟩ := hA.form (by omega)
  have hsl := fun W => sB_pre g o n c (n / 2) (by omega) (by omega) W
  rw [show ((n / 2 : Nat) : Int) = (n : Int) / 2 by omega] at hsl
  have HC := Lib.hid hcell
  have HG := Lib.hid hg
  have HL := Lib.hid hl
  have HCC := Lib.hid hc
  have HM := Lib.hid hkm
  have H1 := Lib.hid t1
  have H2 := Lib.hid t2
  clear hcell hg hl hc hkm hA t1 t2
  go_enter Try.func4, Try.ntmps4
  go_wp2_with fail
  refine hst.mono ?_
  rintro _ w1 ⟨rfl, hb⟩
  have HB1 := Lib.hid hb
  clear hst hb
  go_wp2_with fail
  refine (hnew _).mono ?_
  rintro _ w2 ⟨p, hp, rfl, hb2, hst2⟩
  have HB2 := Lib.hid (HB1.out.trans (hb2.mono HB1.out.size))
  obtain ⟨F, hF⟩ : ∃ F : Nat → Prop, F = fun i => w1.heap.size ≤ i ∧ i < w2.heap.size := ⟨_, rfl⟩
  rw [← hF] at hst2
  have HFF : Hid (∀ i, F i → w.heap.size ≤ i) := Lib.hid (fun i hi => by rw [hF] at hi; have := HB1.out.size; omega)
  have HS2 := Lib.hid hst2
  clear hnew hp hb2 hF hst2
  have hsb := ArgB.slB (F := F) HC.out HG.out HB2.out HFF.out
  have htx := Text_any EOk.nil HS2.out (A := some ⟨g, o, none⟩) (c := c) (bs := bs.take (n / 2)) (fun _ => ⟨g, o, rfl, hsb.take _⟩) (n := n / 2) (by rw [List.length_take, HL.out]; omega) (by have := HCC.out; omega) (by have := H2.out; omega)
  have hpos : 0 < n / 2 := by have := H1.out; omega
  have HP := Lib.hid hpos
  clear hsb hpos
  unfold ptr at *
  go_wp2_with fail
  refine htx.mono ?_
  rintro _ w3 ⟨⟨E1, o1⟩, ho1, rfl, hk3, hst3⟩
  have HO1 := Lib.hid ho1
  have HK3 := Lib.hid hk3
  have HS3 := Lib.hid hst3
  have HB3 := Lib.hid (hk3.below HB2.out HB2.out.size HFF.out)
  clear ho1 hk3 hst3 htx
  have his := fun W => is_same 3 W (by decide)
  cases o1 with
  | none =>
    unfold idV
    go_wp2_with fail
    refine (his _).mono ?_
    rintro _ wk ⟨rfl, hwk⟩
    rw [hwk]
    clear hwk wk
    go_wp2_with fail
    go_ret
    exact ⟨rfl, HB3.out⟩
  | some x =>
    have hx : TxO E1 x (bs.take (n / 2)) (dpN (n / 2)) := HO1.out.good x rfl
    obtain ⟨z, hz, hzt, -, -⟩ := hx.at_
    have hzl : z.wt.len = (n : Int) / 2 := by rw [(HO1.out.ok.fit x z hz).length, hzt, List.length_take, HL.out]; omega
    have hw1 := weight_any HS3.out x z hz
    obtain ⟨F3, hF3⟩ : ∃ F3 : Nat → Prop, F3 = NewF F w2 w3 := ⟨_, rfl⟩
    have HF3 : Hid (∀ i, F3 i → w.heap.size ≤ i) := Lib.hid (fun i hi => by rw [hF3] at hi; rcases hi.1 with h | h; exact HFF.out i h; have := HB2.out.size; omega)
    have hS3 := HS3.out
    rw [← hF3] at hS3
    have HS3 := Lib.hid hS3
    clear hF3 hS3
    -- behind the first weight: the second text, and the first weight again
    have HZ := Lib.hid hz
    have hnext : Hid (∀ W, Below w3.heap.size w3 W → Calls Try.prog 11 #[.pointer (some ⟨p, 0, none⟩), .slice (some ⟨g, o, none⟩) n c] W (AvEnd 50 W F3 p m E1 (2 * n) (fun E' id => TxO E' id bs (dpN n)))) := Lib.hid (fun W hW => Text_any HO1.out.ok (HS3.out.below hW) (A := some ⟨g, o, none⟩) (c := c) (bs := bs) (fun _ => ⟨g, o, rfl, ArgB.slB HC.out HG.out (HB3.out.trans (hW.mono HB3.out.size)) HF3.out⟩) HL.out HCC.out (by have := H2.out; omega))
    have hw2 : Hid (∀ (E2 : List En) W F2, Ext E1 E2 → StAt W F2 p m E2 → Calls Try.prog 14 #[.pointer (some ⟨p, 0, none⟩), .int .i64 (x : Int)] W fun r w' => r = .returned (.tuple #[z.wt.val, .nilIface]) ∧ Below W.heap.size W w') := Lib.hid (fun E2 W F2 he hs => weight_any hs x z (he.at_ hz))
    obtain ⟨⟨zk, zb, zl, zr, zt⟩, ⟨xn, xl, xh, xt, ⟨xv, xs⟩⟩, zd, ze, ztt⟩ := z
    simp only [Wt.val] at hw1 hw2
    simp only at hzl
    subst hzl
    generalize (xv : Int) = xv at hw1 hw2
    generalize (xs : Int) = xs at hw1 hw2
    clear hz hzt HZ hx
    unfold idV ptr at *
    go_wp2_with fail
    refine hw1.mono ?_
    rintro _ w4 ⟨rfl, hb4⟩
    have HB4 := Lib.hid hb4
    clear hw1 hb4
    go_upto_region 10 with (fail)
    have HX := Lib.hid (Blk.new w4 38 #[.int .i64 ((n : Int) / 2), .int .i64 xl, .int .i64 xh, .int .i64 xt, .int .u64 xv, .int .u64 xs])
    have HB5 := Lib.hid (HB4.out.alloc HB4.out.size (.cells #[.int .i64 ((n : Int) / 2), .int .i64 xl, .int .i64 xh, .int .i64 xt, .int .u64 xv, .int .u64 xs] 38))
    obtain ⟨w5, hw5⟩ : ∃ w5, w5 = w4.alloc (.cells #[.int .i64 ((n : Int) / 2), .int .i64 xl, .int .i64 xh, .int .i64 xt, .int .u64 xv, .int .u64 xs] 38) := ⟨_, rfl⟩
    have hs5 : w3.heap.size ≤ w4.heap.size := HB4.out.size
    have HQX : Hid (¬ F3 w4.heap.size) := Lib.hid (fun h => by have := HS3.out.lt _ h; omega)
    have HB35 := Lib.hid (show w3.heap.size ≤ w4.heap.size from hs5)
    rw [← hw5] at HX HB5 ⊢
    clear hw5 HB4 hs5
    generalize w4.heap.size = qx at *
    have hnx := hnext.out _ HB5.out
    clear hnext
    go_wp2_with fail
    refine hnx.mono ?_
    rintro _ w6 ⟨⟨E2, o2⟩, ho2, rfl, hk6, hst6⟩
    have HO2 := Lib.hid ho2
    have HK6 := Lib.hid hk6
    have HS6 := Lib.hid hst6
    have HX6 := Lib.hid (HX.out.kept hk6 HQX.out)
    have HB6 := Lib.hid (hk6.below (HB3.out.trans (HB5.out.mono HB3.out.size)) (by have := HB3.out.size; have := HB5.out.size; omega) HF3.out)
    obtain ⟨F6, hF6⟩ : ∃ F6 : Nat → Prop, F6 = NewF F3 w5 w6 := ⟨_, rfl⟩
    have hst6 : StAt w6 (NewF F3 w5 w6) p m E2 := hst6
    rw [← hF6] at hst6
    have HS6 := Lib.hid hst6
    have hw3 := hw2.out E2 w6 F6 ho2.ext hst6
    clear hk6 ho2 hst6 hF6 hnx hw2 HX HQX
    have hend : Hid (∀ y, o2 = some y → ∃ (yl yh yt : Int) (yv ys : Nat), ∀ W, Below w6.heap.size w6 W → Calls Try.prog 14 #[.pointer (some ⟨p, 0, none⟩), .int .i64 (y : Int)] W fun r w' => r = .returned (.tuple #[.agg #[.int .i64 (n : Int), .int .i64 yl, .int .i64 yh, .int .i64 yt, .int .u64 yv, .int .u64 ys], .nilIface]) ∧ Below W.heap.size W w') := Lib.hid (fun y hy => by
      have hx : TxO E2 y bs (dpN n) := HO2.out.good y hy
      obtain ⟨z2, hz2, hz2t, -, -⟩ := hx.at_
      have hz2l : z2.wt.len = (n : Int) := by rw [(HO2.out.ok.fit y z2 hz2).length, hz2t, HL.out]
      refine ⟨z2.wt.lines, z2.wt.head, z2.wt.tail, z2.wt.dig.v, z2.wt.dig.s, fun W hW => ?_⟩
      have := weight_any (HS6.out.below hW) y z2 hz2
      unfold Wt.val at this
      rw [hz2l] at this
      exact this)
    have hlen : Hid ((E2.length : Int) ≤ k) := Lib.hid (by have := HS6.out.len; have := HM.out; omega)
    simp only [idV]
    clear HO2 HO1 HS3 HF3 HP HK3 HS2
    have hlt2 : Hid (∀ W, Below w6.heap.size w6 W → Calls Try.prog 15 #[.pointer (some ⟨p, 0, none⟩)] W fun r w' => r = .returned (.int .i64 (E2.length : Int)) ∧ w' = W) := Lib.hid (fun W hW => len_any (HS6.out.below hW))
    clear HS6
    have hwt := hw3
    clear hw3
    obtain ⟨u9, u10, hidv⟩ : ∃ u9 u10, idV 50 o2 = .tuple #[u9, u10] := by cases o2 <;> exact ⟨_, _, rfl⟩
    have HIV := Lib.hid hidv
    unfold idV at hidv
    rw [hidv]
    clear hidv
    go_wp2_with fail
    refine hwt.mono ?_
    rintro _ w7 ⟨rfl, hb7⟩
    have HX7 := Lib.hid (HX6.out.below hb7 HX6.out.lt)
    have HB7 := Lib.hid hb7
    clear hb7 hwt HX6
    go_upto_region 12 with (fail)
    have HY := Lib.hid (Blk.new w7 38 #[.int .i64 ((n : Int) / 2), .int .i64 xl, .int .i64 xh, .int .i64 xt, .int .u64 xv, .int .u64 xs])
    have HX8 := Lib.hid (HX7.out.alloc (.cells #[.int .i64 ((n : Int) / 2), .int .i64 xl, .int .i64 xh, .int .i64 xt, .int .u64 xv, .int .u64 xs] 38))
    have HB8 := Lib.hid (HB7.out.alloc HB7.out.size (.cells #[.int .i64 ((n : Int) / 2), .int .i64 xl, .int .i64 xh, .int .i64 xt, .int .u64 xv, .int .u64 xs] 38))
    obtain ⟨w8, hw8⟩ : ∃ w8, w8 = w7.alloc (.cells #[.int .i64 ((n : Int) / 2), .int .i64 xl, .int .i64 xh, .int .i64 xt, .int .u64 xv, .int .u64 xs] 38) := ⟨_, rfl⟩
    rw [← hw8] at HY HX8 HB8 ⊢
    clear hw8 HB7 HX7
    generalize w7.heap.size = qy at *
    have x0 := HX8.out.cell 0
    have x1 := HX8.out.cell 1
    have x2 := HX8.out.cell 2
    have x3 := HX8.out.cell 3
    have x4 := HX8.out.cell 4
    have x5 := HX8.out.cell 5
    simp only [List.getElem?_toArray, List.getElem?_cons_zero, List.getElem?_cons_succ] at x0 x1 x2 x3 x4 x5
    have y0 := HY.out.cell 0
    have y1 := HY.out.cell 1
    have y2 := HY.out.cell 2
    have y3 := HY.out.cell 3
    have y4 := HY.out.cell 4
    have y5 := HY.out.cell 5
    simp only [List.getElem?_toArray, List.getElem?_cons_zero, List.getElem?_cons_succ] at y0 y1 y2 y3 y4 y5
    have hcmp := fun W => wt_neq ((n : Int) / 2) xl xh xt xv xs W
    have hl8 := hlt2.out _ HB8.out
    have hnk : ¬ k < (E2.length : Int) := by have := hlen.out; omega
    clear hlt2
    go_wp2_with fail
    refine hl8.mono ?_
    rintro _ wk ⟨rfl, hwk⟩
    rw [hwk]
    clear hwk wk hl8
    cases o2 with
    | none =>
      have e1 : Value.tuple #[.int .i64 0, .iface 50 (.int .i64 3)] = .tuple #[u9, u10] := HIV.out
      injection e1 with e1
      injection e1 with e1
      injection e1 with e1 e2
      injection e2 with e2
      subst e1 e2
      go_wp2_with fail
      refine (his _).mono ?_
      rintro _ wk ⟨rfl, hwk⟩
      rw [hwk]
      clear hwk wk
      go_wp2_with fail
      go_ret
      exact ⟨rfl, HB6.out.trans (HB8.out.mono HB6.out.size)⟩
    | some y =>
      have e1 : Value.tuple #[.int .i64 (y : Int), .nilIface] = .tuple #[u9, u10] := HIV.out
      injection e1 with e1
      injection e1 with e1
      injection e1 with e1 e2
      injection e2 with e2
      subst e1 e2
      obtain ⟨yl, yh, yt, yv, ys, hy⟩ := hend.out y rfl
      have h9 := hy _ HB8.out
      generalize (yv : Int) = yv at h9
      generalize (ys : Int) = ys at h9
      clear hy hend x0 x1 x2 x3 x4 x5 y0 y1 y2 y3 y4 y5
      go_wp2_with fail
      refine h9.mono ?_
      rintro _ w9 ⟨rfl, hb9⟩
      have HB9 := Lib.hid (HB8.out.trans (hb9.mono HB8.out.size))
      clear hb9 h9
      go_upto_region 17 with (fail)
      have HZ := Lib.hid (Blk.new w9 38 #[.int .i64 (n : Int), .int .i64 yl, .int .i64 yh, .int .i64 yt, .int .u64 yv, .int .u64 ys])
      have HB10 := Lib.hid (HB9.out.alloc HB9.out.size (.cells #[.int .i64 (n : Int), .int .i64 yl, .int .i64 yh, .int .i64 yt, .int .u64 yv, .int .u64 ys] 38))
      obtain ⟨w10, hw10⟩ : ∃ w10, w10 = w9.alloc (.cells #[.int .i64 (n : Int), .int .i64 yl, .int .i64 yh, .int .i64 yt, .int .u64 yv, .int .u64 ys] 38) := ⟨_, rfl⟩
      rw [← hw10] at HZ HB10 ⊢
      clear hw10 HB9
      generalize w9.heap.size = qz at *
      have z0 := HZ.out.cell 0
      simp only [List.getElem?_toArray, List.getElem?_cons_zero, List.getElem?_cons_succ] at z0
      go_wp2_with fail
      go_ret
      exact ⟨rfl, HB6.out.trans (HB10.out.mono HB6.out.size)⟩
end Go.Proofs.Ytphpfkhpihlalaa
