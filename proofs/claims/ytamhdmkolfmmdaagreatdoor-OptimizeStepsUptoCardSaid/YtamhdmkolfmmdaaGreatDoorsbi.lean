/- The walk of the document's Copy. The walk of the document's with: the steps with another one at an index. The walk of the document's insert (printed by gen_rwr.py). -/
import Derived.Test.YtamhdmkolfmmdaaGreatDoorsbf
import Derived.Test.YtamhdmkolfmmdaaGreatDoorsaa
import Derived.Test.YtamhdmkolfmmdaaGreatDoorsbg
set_option linter.unusedVariables false
set_option linter.unusedSimpArgs false
namespace Go.Proofs.YtamhdmkolfmmdaaGreatDoor
open Go.RowKit
set_option maxRecDepth 100000
set_option maxHeartbeats 4000000
theorem z7 {P : Prop} (h : P := by
 obtain ⟨Az, cz, he, hcz, hpz⟩ := hz
 obtain ⟨mz, hmz⟩ := xE L.length
 rw [← hmz] at he
 subst he
 have HPZ := hD hpz
 have HCZ := hD hcz
 have HMZ := hD hmz
 clear hpz hcz hmz
 go_wp2_with fail
 go_ret2
 unfold kal
 exact ⟨HBZ.out, Az, cz, by rw [HMZ.out]; rfl, HCZ.out, HPZ.out⟩) : P := h
theorem z23 {P : Prop} (h : P := by
 have hz : e = .returned (.tuple #[.slice none 0 0, .bool false]) := hz
 subst hz
 go_wp2_with fail
 go_ret2
 unfold kal
 exact ⟨HBZ.out, rfl⟩) : P := h
def CyRel (w : World) (l : List St) (f : Nat) (v i : Value) (wr : World) : Prop := ∃ (k : Nat) (A : Option Addr) (c : Nat) (vs : List Value), i = .int .i64 k ∧ v = .slice A k c ∧ k ≤ l.length ∧ l.length - k < f ∧
 Hid (wr.ownsRow w.heap.size 76 5 (.slice A k c) k (kbt (l.take k) vs)) ∧ Hid (CsX wr w.heap.size (l.take k) vs) ∧ Hid (Below w.heap.size w wr)
def CyEnd (w : World) (l : List St) (e : Ending) (w' : World) : Prop := Below w.heap.size w w' ∧ ∃ gs cap vs, e = .returned (.slice (some ⟨gs, 0, none⟩) l.length cap) ∧ l.length ≤ cap ∧ CpX w' w.heap.size gs l vs
theorem kdy (A : Option Addr) (c : Nat) (l : List St) (w : World) (h : ArgPl w A l) (hb : BdL l) (hl0 : 0 < l.length) :
  Calls Tryz.prog 44 #[.slice A l.length c] w (CyEnd w l) := by
 have HA := hD h
 have HM := hD hb
 have hn := hb.len
 have HB0 := hD (Below.refl w.heap.size w)
 clear h hb
 go_enter Tryz.func44, Tryz.ntmps44
 go_wp2_with fail
 go_loopg [3, 4, 5, 8] (l.length + 1) (fun f v _ _ i wr => CyRel w l f v i wr)
 case atStart => exact ⟨0, none, 0, [], rfl, rfl, by omega, by omega, hD (World.ownsRow_nil _ _ _ _), hD (CsX.nil _ _), HB0⟩
 case round =>
  clear HB0
  obtain ⟨k, Ap, cp, vs, rfl, rfl, hk, hkf, HV, HT, HB⟩ := hrel
  obtain ⟨f, rfl⟩ : ∃ f, gk = f + 1 := ⟨gk - 1, by omega⟩
  have hzr := HB.out.size
  by_cases hlt : k < l.length
  ·
   obtain ⟨s, hs⟩ : ∃ s, l[k]? = some s := ⟨l[k], List.getElem?_eq_getElem hlt⟩
   obtain ⟨b0, o, As, cs, rfl, hbl0, x0, x1, x2, x3, x4, hrd⟩ := (HA.out.below HB.out) k s hs
   have hal := (HM.out.arg s (List.mem_of_getElem? hs)).1
   have HS := hD hs
   obtain ⟨op, args, num, text, ty⟩ := s
   dsimp only at x0 x1 x2 x3 x4 hrd hal
   obtain ⟨m, hm⟩ := xE args.length
   obtain ⟨zs, hzs⟩ := xE (args.map (Value.int .i64))
   rw [← hm, ← hzs] at hrd
   rw [← hm] at x1 hal
   have HZS := hD hzs
   have HMM := hD hm
   have hone1 : ∀ u ∈ zs, u.oneCell' = true := by rw [hzs]; intro u hu; obtain ⟨z, _, rfl⟩ := List.mem_map.1 hu; rfl
   have HO1 := hD hone1
   have q0 : (k : Int) < (l.length : Int) := by omega
   have q1 : (0 : Int) ≤ (k : Int) := by omega
   clear hs hm hzs hone1
   go_upto_region 6 with (fail)
   obtain ⟨wq, hwq⟩ := xE (wr.alloc (.cells #[.string ⟨op.toArray⟩, .slice As m cs, .int .i64 num, .string ⟨text.toArray⟩, .int .i64 ty] 76))
   rw [← hwq]
   have hbq : Below wr.heap.size wr wq := by rw [hwq]; exact kaa _ _
   have hkb : Blk wq wr.heap.size 76 #[.string ⟨op.toArray⟩, .slice As m cs, .int .i64 num, .string ⟨text.toArray⟩, .int .i64 ty] := by rw [hwq]; exact Blk.new _ _ _
   have hown : ∀ g, (Value.slice Ap k cp).ownBlock = some g → g < wr.heap.size := fun g hg => kbO HV.out g hg
   obtain ⟨b, hbb0⟩ := xE wr.heap.size
   rw [← hbb0] at hkb hown ⊢
   have hbl := hkb.lt
   have HBQ := hD hbq
   have HKB := hD hkb
   have HOWN := hD hown
   have HBB := hD hbb0
   have y1 := hkb.cell 1
   simp only [gA, gB, gC] at y1
   have hzq : w.heap.size ≤ wq.heap.size := Nat.le_trans hzr hbq.size
   have hoo1 := World.ownsRow_lit (base := w.heap.size) (e := 3) (size := 1) wq #[] 0 hzq (by decide) rfl
   have hrd1 : Reads (wq.alloc (.cells #[] 3)) wq.heap.size 1 As m zs := ((hrd.below hbq).more hbq.size).alloc (Nat.le_refl _) _
   have hq1 : 0 + m ≤ maxLen := by unfold maxLen; omega
   have hq2 : (0 + m) * 8 ≤ 140737488355328 := by omega
   have hq3 : w.heap.size ≤ (wq.alloc (.cells #[] 3)).heap.size := by have := (kaa wq (.cells #[] 3)).size; omega
   obtain ⟨i1, hinf1, hz10, hz11, hz12⟩ := info_parts kcK
   clear hwq hbq hkb hown hbb0 hrd x0 x1 x2 x3 x4
   go_wp2_with (at_builtin; refine kam _ rfl (.tmp 15) (.tmp 17) 47 rfl w.heap.size 3 i1 (.int .i64 0) 1 8 Tryz.underlying47 hinf1 hz10 hz11 hz12 rfl (by decide) (.slice (some ⟨wq.heap.size, 0, none⟩) 0 0) 0 [] rfl hoo1 wq.heap.size As m cs zs rfl hrd1 HO1.out hq1 hq2 hq3 ?_)
   intro v5 w5 hown5 hg5 hv5
   obtain ⟨A5, c5, rfl⟩ := kak hown5
   have hb5 : Below wq.heap.size wq w5 := (kaa wq (.cells #[] 3)).grown hg5 (by simp) (fun j e => by have e : some wq.heap.size = some j := e; injection e with e; omega)
   have hk5 := HKB.out.below hb5 hbl
   have HK5 := hD (hk5.set_ 1 (.slice A5 m c5))
   have z1 := hk5.cell 1
   have z2 := hk5.frozen 1
   simp only [gA, gB, gC] at z1
   have HB5 := hD hb5
   have HO5 := hD hown5
   have HG5 : Hid (∀ g, (Value.slice A5 m c5).ownBlock = some g → wq.heap.size ≤ g) := hD (fun g hg => by
    rcases hv5 with h | h
    ·
     rw [hg] at h; have h : some g = some wq.heap.size := h; injection h with h; omega
    ·
     rw [hg] at h; have h : some g = some _ := h; injection h with h; have hsz := (kaa wq (.cells #[] 3)).size; omega)
   clear hb5 hk5 hown5 hg5 hv5 hinf1 hz10 hz11 hz12 hoo1 hrd1 hq1 hq2 hq3 y1
   go_upto_region 7 with (fail)
   obtain ⟨w6, hw6⟩ := xE (w5.setCell ⟨b, 1, none⟩ (.slice A5 m c5))
   rw [← hw6]
   have hk6 : Blk w6 b 76 #[.string ⟨op.toArray⟩, .slice A5 m c5, .int .i64 num, .string ⟨text.toArray⟩, .int .i64 ty] := by rw [hw6]; exact HK5.out
   have hb6 : Below wr.heap.size wr w6 := by rw [hw6]; exact (HBQ.out.trans (HB5.out.mono HBQ.out.size)).setCell (p := ⟨b, 1, none⟩) (by rw [← HBB.out]; exact Nat.le_refl _) _
   have ho6 : w6.ownsRow w.heap.size 3 1 (.slice A5 m c5) m zs := by rw [hw6]; exact kbe HO5.out (fun e => by have := HG5.out b e; omega) _
   obtain ⟨y0, y1, y2, y3, y4, _⟩ := blk5 hk6
   have hv6 := kay HV.out hb6
   have hov := hv6.alloc (.cells #[.string ⟨op.toArray⟩, .slice A5 m c5, .int .i64 num, .string ⟨text.toArray⟩, .int .i64 ty] 76)
   have hr6 := kfO w6 (.string ⟨op.toArray⟩) (.slice A5 m c5) (.int .i64 num) (.string ⟨text.toArray⟩) (.int .i64 ty) 76
   have hone : ∀ u ∈ ([.string ⟨op.toArray⟩, .slice A5 m c5, .int .i64 num, .string ⟨text.toArray⟩, .int .i64 ty] : List Value), u.oneCell' = true := by simp [Value.oneCell']
   have hq1 : k + 1 ≤ maxLen := by unfold maxLen; omega
   have hq2 : (k + 1) * 72 ≤ 140737488355328 := by omega
   have hz6 := hb6.size
   have hq3 : w.heap.size ≤ (w6.alloc (.cells #[.string ⟨op.toArray⟩, .slice A5 m c5, .int .i64 num, .string ⟨text.toArray⟩, .int .i64 ty] 76)).heap.size := by have := (kaa w6 (.cells #[.string ⟨op.toArray⟩, .slice A5 m c5, .int .i64 num, .string ⟨text.toArray⟩, .int .i64 ty] 76)).size; omega
   obtain ⟨i0, hinf0, hz00, hz01, hz02⟩ := info_parts kc2
   have HB6 := hD hb6
   have HI6 := hD ho6
   have HOV := hD hov
   have HLT := hD (kbO HOV.out)
   clear hw6 hk6 hb6 ho6 hv6 z1 z2
   go_wp2_with (at_builtin; refine kam _ rfl (.tmp 20) (.tmp 22) 22 rfl w.heap.size 76 i0 (.agg #[.string ⟨#[]⟩, .slice none 0 0, .int .i64 0, .string ⟨#[]⟩, .int .i64 0]) 5 72 Tryz.underlying22 hinf0 hz00 hz01 hz02 rfl (by decide) (.slice Ap k cp) k (kbt (l.take k) vs) rfl hov (w6.heap.size + 1) (some ⟨w6.heap.size, 0, none⟩) 1 1 [.string ⟨op.toArray⟩, .slice A5 m c5, .int .i64 num, .string ⟨text.toArray⟩, .int .i64 ty] rfl hr6 hone hq1 hq2 hq3 ?_)
   intro v7 w7 hown7 hg7 hv7
   obtain ⟨A7, c7, rfl⟩ := kak hown7
   have hg2 : wr.grownBy w7 (Value.slice Ap k cp).ownBlock := (kaP (HB6.out.alloc HB6.out.size _) _).trans hg7
   have hki : ∀ i cur, Blk wr i 3 cur → w7.heap[i]? = wr.heap[i]? := fun i cur hb => hg2.block i hb.lt (fun e => kan HV.out hb (by decide) e.symm)
   have hI7 : w7.ownsRow w.heap.size 3 1 (.slice A5 m c5) m zs := kaA (HI6.out.alloc _) (fun g hg => by
    obtain ⟨_, cur, hc⟩ := kaq (HI6.out.alloc (.cells #[.string ⟨op.toArray⟩, .slice A5 m c5, .int .i64 num, .string ⟨text.toArray⟩, .int .i64 ty] 76)) hg
    exact hg7.block g hc.lt (fun e => kan HOV.out hc (by decide) e.symm))
   have HT7 : Hid (CsX w7 w.heap.size (l.take (k + 1)) (vs ++ [.slice A5 m c5])) := hD (by
    rw [List.take_add_one, HS.out]
    refine HT.out.snoc hki _ _ ?_ (fun g hg => ?_)
    ·
     show w7.ownsRow w.heap.size 3 1 (.slice A5 m c5) args.length (args.map (Value.int .i64))
     rw [← HZS.out, ← HMM.out]
     exact hI7
    ·
     have := HG5.out g hg
     have := HBQ.out.size
     omega)
   have HV7 : Hid (w7.ownsRow w.heap.size 76 5 (.slice A7 (k + 1) c7) (k + 1) (kbt (l.take (k + 1)) (vs ++ [.slice A5 m c5]))) := hD (by
    rw [List.take_add_one, HS.out]
    show w7.ownsRow w.heap.size 76 5 (.slice A7 (k + 1) c7) (k + 1) (kbt (l.take k ++ [_]) (vs ++ [.slice A5 m c5]))
    rw [keE _ _ _ _ HT.out.len]
    exact hown7)
   have HB7 := hD (HB.out.grown hg2 hzr (fun j e => (kaq HV.out e).1))
   clear hown7 hg7 hv7 hg2 hki hI7 hov hr6 hone hq1 hq2 hq3 hinf0 hz00 hz01 hz02 y0 y1 y2 y3 y4
   go_wp2_with fail
   go_roundg f
   case measure => omega
   case rel => exact ⟨k + 1, A7, c7, _, by go_num, rfl, by omega, by omega, HV7, HT7, HB7⟩
  ·
   have hkl : k = l.length := by omega
   subst hkl
   have q0 : ¬ ((l.length : Int) < (l.length : Int)) := by omega
   have hT := HT.out
   have hV := HV.out
   rw [List.take_length] at hT hV
   obtain ⟨gs, cap, hv, hcap, hx⟩ := hT.cpx hV hl0
   injection hv with hA _ hc
   subst hA hc
   have HX := hD hx
   clear hx hT hV HV HT
   go_wp2_with fail
   go_ret
   exact ⟨HB.out, gs, cp, vs, rfl, hcap, HX.out⟩
set_option maxHeartbeats 8000000
theorem z8 {P : Prop} (h : P := by
 go_wp2_with fail
 refine HOV.out.mono ?_
 rintro e w1 ⟨rfl, hb1⟩
 have HB1 := hD hb1
 clear hb1 HOV
 go_wp2_with fail
 go_ret2
 unfold kal
 rw [HRN.out]
 exact ⟨HB1.out, rfl⟩) : P := h
theorem y72 {P : Prop} (h : P := by
 have HB3 := hD hb3
 have hHeld3 := HS.out w3 hb3
 have HW3 := hD (HWI.out w3 hb3 _ hr3)
 obtain ⟨v0, v1, v2, v3, v4, _⟩ := blk5 hx3
 clear hw3 hb3 hx3 hr3 HWI
 refine hK.out _ _ hHeld3 ?_
 clear hK K
 try simp only [Act.put, gE, gF, gG]
 refine wpAnyH_done (by kernel_rfl) ?_ _
 refine NoPanic.normal ?_
 try simp only [Act.put, gE, gF, gG]
 go_wp2_with fail
 refine HW3.out.mono ?_
 rintro e w4 ⟨hb4, A4, c4, he4, hc4, hp4⟩
 have HRM4 := hD (HRM.out w4 A4 c4 hp4)
 rw [HL1.out] at he4
 subst he4
 have HB4 := hD (HB3.out.trans (hb4.mono HB3.out.size))
 clear hb4 hc4 hp4 HW3 HRM v0 v1 v2 v3 v4
 go_wp2_with fail
 refine HRM4.out.mono ?_
 rintro e wz ⟨hbz, Az, cz, he, hcz, hpz⟩
 have HBZ := hD (HB4.out.trans (hbz.mono HB4.out.size))
 exact z3) : P := h
theorem y78 {P : Prop} (h : P := by
 rw [← hn] at HOV ⊢
 obtain ⟨At, ct, hvt⟩ := h.vw ht
 have hbt := hbn.2 t (List.mem_of_getElem? ht)
 obtain ⟨tm, htm⟩ := xE t.args.length
 have HTM := hD htm
 have p0 : ¬ ((j : Int) < 0) := by omega
 have p1 : (0 : Int) ≤ (j : Int) := by omega
 have p2 : (j : Int) < (n : Int) := by omega
 have p3 : (i : Int) < (n : Int) := by omega
 have p4 : (0 : Int) ≤ (i : Int) := by omega
 first
 | guard_hyp t521q0
   first
   | guard_hyp t18q0
     have hjl : j < l.length := Nat.lt_trans hji hil
     have hjb := (hbn.2 s (List.mem_of_getElem? hs)).2 _ (List.mem_of_getElem? hj)
     have HWA := hD (IntWalk.wrap64_in ((j : Int) + 1) (by omega))
     have HWB := hD (IntWalk.wrap64_in ((j : Int) + 2) (by omega))
     have HWC := hD (IntWalk.wrap64_in ((i : Int) + 2) (by omega))
     have htl : t.args.length = 2 := kae hc ht 2 (by rw [htb]; show (_ : Option Nat) = _; kernel_rfl)
     obtain ⟨k0, _, hk0, hkj0, _, hb0, _⟩ := kah hc ht (k := 0) (by rw [htl]; decide)
     obtain ⟨k1, _, hk1, hkj1, _, hb1', _⟩ := kah hc ht (k := 1) (by rw [htl]; decide)
     rw [hb0, hb1'] at hR
     by_cases hbig : 4096 ≤ n
     ·
      have HRN : Hid (R = none) := hD (by rw [hR, if_pos (by rw [← hn]; exact hbig)])
      have p5 : (4096 : Int) ≤ (n : Int) := by omega
      clear h hcap hc hs hil hbn hne hR hov hO hn ht htb hj ha hat hbt hvt htm h0 htl hk0 hk1 hb0 hb1'
      go_enter Tryz.func107, Tryz.ntmps107
      exact z8
     have p5 : ¬ ((4096 : Int) ≤ (n : Int)) := by omega
     rw [if_neg (by rw [← hn]; exact hbig)] at hR
     obtain ⟨bt, ot, rfl, hbt2, hct⟩ := hvt.ar (by rw [htl]; decide)
     obtain ⟨L1, hL1⟩ := xE (Rf.insertL l j (Oz.lenOf (k0 : Int)))
   | guard_hyp t18q1
     obtain ⟨L1, hL1⟩ := xE (l.set j (Oz.mk kbf t.args 0 [] 1))
   | have htl : t.args.length = 2 := kae hc ht 2 (by rw [htb]; show (_ : Option Nat) = _; kernel_rfl)
     obtain ⟨k0, _, hk0, hkj0, _, hb0, _⟩ := kah hc ht (k := 0) (by omega)
     obtain ⟨k1, u, hk1, hkj1, hu, hb1', hub⟩ := kah hc ht (k := 1) (by omega)
     rw [hb0, hb1', hub] at hR
     obtain ⟨bt, ot, rfl, hbt2, hct⟩ := hvt.ar (by omega)
     obtain ⟨Au, cu, hvu⟩ := h.vw hu
     obtain ⟨uop, huop⟩ := xE u.op
     rw [← huop] at hR
     have htm2 : tm = 2 := by omega
     subst htm2
     have HS : Hid (∀ w', Below w.heap.size w w' → w'.cell? ⟨b, o + j * 5 + 1, none⟩ = some (.slice (some ⟨bt, ot, none⟩) 2 ct) ∧ w'.cell? ⟨bt, ot, none⟩ = some (.int .i64 k0) ∧ w'.cell? ⟨bt, ot + 1, none⟩ = some (.int .i64 k1) ∧ w'.cell? ⟨b, o + k1 * 5, none⟩ = some (.string ⟨uop.toArray⟩)) := hD (fun w' hb' => by
      have hv' := (hvt.below hb').x1
      rw [htl] at hv'
      rw [huop]
      exact ⟨hv', hct w' hb' 0 _ hk0, hct w' hb' 1 _ hk1, (hvu.below hb').x0⟩)
     have p5 : (0 : Int) ≤ (k1 : Int) := by omega
     have p6 : (k1 : Int) < (n : Int) := by omega
     by_cases hun : uop = kab
     rotate_left
     ·
      have HRN : Hid (R = none) := hD (by rw [hR, if_pos hun])
      have e0 : (uop == [110, 117, 109, 98, 101, 114]) = false := beq_eq_false_iff_ne.2 hun
      clear h hcap hc hs hil hbn hne hR hov hO hn ht htb hj ha hat hbt hvt htm h0 htl hk0 hk1 hb0 hb1' hu hub hct hvu huop hun
      go_enter Tryz.func108, Tryz.ntmps108
      go_wp2_with fail
      refine HOV.out.mono ?_
      rintro e w1 ⟨rfl, hb1⟩
      have HB1 := hD hb1
      obtain ⟨y1, g0, g1, y2⟩ := HS.out w1 hb1
      clear hb1 HOV HS
      go_wp2_with fail
      go_ret2
      unfold kal
      rw [HRN.out]
      exact ⟨HB1.out, rfl⟩
     rw [if_neg (fun e => e hun)] at hR
     obtain ⟨L1, hL1⟩ := xE (Rf.insertL l j (Oz.lenOf (k0 : Int)))
   rw [← hL1] at hR
   first
   | guard_hyp t18q0
     obtain ⟨L2, hL2⟩ := xE (Rf.insertL L1 (j + 1) (Oz.lenOf (k1 : Int)))
     rw [← hL2] at hR
     obtain ⟨L3, hL3⟩ := xE (L2.set (j + 2) (Oz.mk Oz.oAdd [(j : Int), (j : Int) + 1] 0 [] 1))
     rw [← hL3] at hR
     have hl1 : L1.length = n + 1 := by rw [hL1, kdT, hn]
     have hl2 : L2.length = n + 2 := by rw [hL2, kdT, hl1]
     have hl3 : L3.length = n + 2 := by rw [hL3, List.length_set, hl2]
     have hbn1 : BdN 4097 L1 := by
      rw [hL1]
      refine hbn.insert j _ ⟨(show (1 : Nat) ≤ 3 by decide), fun a ha => ?_⟩
      have ha : a = (k0 : Int) := by simpa [Oz.lenOf, Oz.mk] using ha
      rw [ha]
      exact hbt.2 _ (List.mem_of_getElem? hk0)
     have hbn2 : BdN 4098 L2 := by
      rw [hL2]
      refine hbn1.insert (j + 1) _ ⟨(show (1 : Nat) ≤ 3 by decide), fun a ha => ?_⟩
      have ha : a = (k1 : Int) := by simpa [Oz.lenOf, Oz.mk] using ha
      rw [ha]
      have h := hbt.2 _ (List.mem_of_getElem? hk1)
      exact ⟨h.1, Int.le_trans h.2 (by decide)⟩
     have hbn3 : BdN 4098 L3 := by
      rw [hL3]
      refine hbn2.set (j + 2) _ ⟨(show (2 : Nat) ≤ 3 by decide), fun a ha => ?_⟩
      have ha : a = (j : Int) ∨ a = (j : Int) + 1 := by simpa [Oz.mk] using ha
      rcases ha with ha | ha
      ·
       rw [ha]
       exact ⟨hjb.1, Int.le_trans hjb.2 (by decide)⟩
      ·
       rw [ha]
       exact ⟨Int.le_trans hjb.1 (Int.le_add_of_nonneg_right (by decide)), Int.le_trans (Int.add_le_add_right hjb.2 1) (by decide)⟩
     have hi1 : ∀ w1, Below w.heap.size w w1 → Calls Tryz.prog 151 #[.slice (some ⟨b, o, none⟩) l.length c, .int .i64 j, .agg #[.string ⟨#[108, 101, 110]⟩, .slice (some ⟨w1.heap.size, 0, none⟩) 1 1, .int .i64 0, .string ⟨#[]⟩, .int .i64 1]] (w1.alloc (.cells #[.int .i64 k0] 3)) (kbd (w1.alloc (.cells #[.int .i64 k0] 3)) L1) := fun w1 hb1 => by
      rw [hL1]
      exact kdx (some ⟨b, o, none⟩) c l j [108, 101, 110] [(k0 : Int)] 0 [] 1 w1 (h.below hb1) (hbn.bd (by decide)) hjl #[.int .i64 k0] rfl 1 rfl
     have hi2 : ∀ w1 A1 c1, ArgPl w1 A1 L1 → Calls Tryz.prog 151 #[.slice A1 L1.length c1, .int .i64 ((j : Int) + 1), .agg #[.string ⟨#[108, 101, 110]⟩, .slice (some ⟨w1.heap.size, 0, none⟩) 1 1, .int .i64 0, .string ⟨#[]⟩, .int .i64 1]] (w1.alloc (.cells #[.int .i64 k1] 3)) (kbd (w1.alloc (.cells #[.int .i64 k1] 3)) L2) := fun w1 A1 c1 hp => by
      rw [hL2]
      exact kdx A1 c1 L1 (j + 1) [108, 101, 110] [(k1 : Int)] 0 [] 1 w1 hp (hbn1.bd (by decide)) (by rw [hl1, hn]; exact Nat.add_lt_add_right hjl 1) #[.int .i64 k1] rfl 1 rfl
     have hwi : ∀ w1 A1 c1, ArgPl w1 A1 L2 → Calls Tryz.prog 144 #[.slice A1 L2.length c1, .int .i64 ((j : Int) + 2), .agg #[.string ⟨#[43]⟩, .slice (some ⟨w1.heap.size, 0, none⟩) 2 2, .int .i64 0, .string ⟨#[]⟩, .int .i64 1]] (w1.alloc (.cells #[.int .i64 j, .int .i64 ((j : Int) + 1)] 3)) (kbd (w1.alloc (.cells #[.int .i64 j, .int .i64 ((j : Int) + 1)] 3)) L3) := fun w1 A1 c1 hp => by
      obtain ⟨b1, o1, rfl⟩ := hp.base (by rw [hl2]; exact Nat.succ_pos _)
      rw [hL3]
      exact kd9 b1 o1 c1 L2 (j + 2) [43] [(j : Int), (j : Int) + 1] 0 [] 1 w1 hp (hbn2.bd (by decide)) (by rw [hl2, hn]; exact Nat.add_lt_add_right hjl 2) #[.int .i64 j, .int .i64 ((j : Int) + 1)] rfl 2 rfl
     have hrp : ∀ w2 A2 c2, ArgPl w2 A2 L3 → L3.length ≤ c2 → Calls Tryz.prog 143 #[.slice A2 L3.length c2, .int .i64 ((i : Int) + 2), .int .i64 ((j : Int) + 2)] w2 (kal w2 R) := fun w2 A2 c2 hp2 hc2 => by
      have := kbN A2 c2 L3 (i + 2) (j + 2) w2 hp2 (hbn3.bd (by decide)) hc2 (by rw [hl3, hn]; exact Nat.add_lt_add_right hil 2) (Nat.add_lt_add_right hji 2)
      rwa [← hR] at this
     rw [← hn] at hi1
     have HI1 := hD hi1
     have HI2 := hD hi2
   | guard_hyp t18q1
     have hl1 : L1.length = n := by rw [hL1, List.length_set, hn]
     have hb1 : BdL L1 := by rw [hL1]; exact (hbn.set j (Oz.mk kbf t.args 0 [] 1) hbt).bd (by omega)
     have hwi : ∀ w1, Below w.heap.size w w1 → Calls Tryz.prog 144 #[.slice (some ⟨b, o, none⟩) l.length c, .int .i64 j, .agg #[.string ⟨#[108, 101, 110, 99, 117, 116]⟩, .slice At t.args.length ct, .int .i64 0, .string ⟨#[]⟩, .int .i64 1]] w1 (kbd w1 L1) := fun w1 hb1 => by
      rw [hL1]
      exact kb3 (some ⟨b, o, none⟩) c l j (Oz.mk kbf t.args 0 [] 1) At ct w1 (h.below hb1) (hbn.bd (by omega)) (by omega) (hvt.below hb1).rd
     have hrp : ∀ w2 A2 c2, ArgPl w2 A2 L1 → L1.length ≤ c2 → Calls Tryz.prog 143 #[.slice A2 n c2, .int .i64 i, .int .i64 j] w2 (kal w2 R) := fun w2 A2 c2 hp2 hc2 => by
      have := kbN A2 c2 L1 i j w2 hp2 hb1 hc2 (by omega) hji
      rwa [hl1, ← hR] at this
     rw [← hn, ← htm] at hwi
   | obtain ⟨L3, hL3⟩ := xE (L1.set (j + 1) (Oz.mk Oz.oMul [(j : Int), (k1 : Int)] 0 [] 1))
     rw [← hL3] at hR
     have hl1 : L1.length = n + 1 := by rw [hL1, kdT, hn]
     have hl3 : L3.length = n + 1 := by rw [hL3, List.length_set, hl1]
     have hbn1 : BdN 4097 L1 := by
      rw [hL1]
      refine hbn.insert j _ ⟨(show (1 : Nat) ≤ 3 by decide), fun a ha => ?_⟩
      have ha : a = (k0 : Int) := by simpa [Oz.lenOf, Oz.mk] using ha
      omega
     have hbn3 : BdN 4097 L3 := by
      rw [hL3]
      refine hbn1.set (j + 1) _ ⟨(show (2 : Nat) ≤ 3 by decide), fun a ha => ?_⟩
      have ha : a = (j : Int) ∨ a = (k1 : Int) := by simpa [Oz.mk] using ha
      omega
     have hi1 : ∀ w1, Below w.heap.size w w1 → Calls Tryz.prog 151 #[.slice (some ⟨b, o, none⟩) l.length c, .int .i64 j, .agg #[.string ⟨#[108, 101, 110]⟩, .slice (some ⟨w1.heap.size, 0, none⟩) 1 1, .int .i64 0, .string ⟨#[]⟩, .int .i64 1]] (w1.alloc (.cells #[.int .i64 k0] 3)) (kbd (w1.alloc (.cells #[.int .i64 k0] 3)) L1) := fun w1 hb1 => by
      rw [hL1]
      exact kdx (some ⟨b, o, none⟩) c l j [108, 101, 110] [(k0 : Int)] 0 [] 1 w1 (h.below hb1) (hbn.bd (by omega)) (by omega) #[.int .i64 k0] rfl 1 rfl
     have hwi : ∀ w1 A1 c1, ArgPl w1 A1 L1 → Calls Tryz.prog 144 #[.slice A1 L1.length c1, .int .i64 ((j : Int) + 1), .agg #[.string ⟨#[42]⟩, .slice (some ⟨w1.heap.size, 0, none⟩) 2 2, .int .i64 0, .string ⟨#[]⟩, .int .i64 1]] (w1.alloc (.cells #[.int .i64 j, .int .i64 k1] 3)) (kbd (w1.alloc (.cells #[.int .i64 j, .int .i64 k1] 3)) L3) := fun w1 A1 c1 hp => by
      obtain ⟨b1, o1, rfl⟩ := hp.base (by omega)
      rw [hL3]
      exact kd9 b1 o1 c1 L1 (j + 1) [42] [(j : Int), (k1 : Int)] 0 [] 1 w1 hp (hbn1.bd (by omega)) (by omega) #[.int .i64 j, .int .i64 k1] rfl 2 rfl
     have hrp : ∀ w2 A2 c2, ArgPl w2 A2 L3 → L3.length ≤ c2 → Calls Tryz.prog 143 #[.slice A2 L3.length c2, .int .i64 ((i : Int) + 1), .int .i64 ((j : Int) + 1)] w2 (kal w2 R) := fun w2 A2 c2 hp2 hc2 => by
      have := kbN A2 c2 L3 (i + 1) (j + 1) w2 hp2 (hbn3.bd (by omega)) hc2 (by omega) (by omega)
      rwa [← hR] at this
     rw [← hn] at hi1
     have HI1 := hD hi1
   have HWI := hD hwi
   have HRP := hD hrp
   first
   | guard_hyp t18q0
     have htm2 : tm = 2 := htm.trans htl
     subst htm2
     have HS : Hid (∀ w', Below w.heap.size w w' → w'.cell? ⟨b, o + j * 5 + 1, none⟩ = some (.slice (some ⟨bt, ot, none⟩) 2 ct) ∧ w'.cell? ⟨bt, ot, none⟩ = some (.int .i64 k0) ∧ w'.cell? ⟨bt, ot + 1, none⟩ = some (.int .i64 k1)) := hD (fun w' hb' => by
      have hv' := (hvt.below hb').x1
      rw [htl] at hv'
      exact ⟨hv', hct w' hb' 0 _ hk0, hct w' hb' 1 _ hk1⟩)
     clear h hcap hc hs hil hbn hne hR hov hO hn ht htb hj ha hat hbt hvt htm h0 htl hk0 hk1 hb0 hb1' hL1 hL2 hL3 hl1 hl2 hl3 hbn1 hbn2 hbn3 hi1 hi2 hwi hrp hct hbig hjl hjb
     have hwa := HWA.out
     have hwb := HWB.out
     have hwc := HWC.out
     go_enter Tryz.func107, Tryz.ntmps107
   | guard_hyp t18q1
     have HL1 := hD hl1
     have HVT := hD hvt
     clear h hcap hc hs hil hbn hne hR hov hO hn ht htb hj ha hat hbt hL1 hb1 hwi hrp hl1 hvt htm h0
     go_enter Tryz.func106, Tryz.ntmps106
   | have hwa := IntWalk.wrap64_in ((j : Int) + 1) (by omega)
     have hwc := IntWalk.wrap64_in ((i : Int) + 1) (by omega)
     obtain rfl : uop = [110, 117, 109, 98, 101, 114] := hun
     clear h hcap hc hs hil hbn hne hR hov hO hn ht htb hj ha hat hbt hvt htm h0 htl hk0 hk1 hb0 hb1' hu hub hL1 hL3 hl1 hl3 hbn1 hbn3 hi1 hwi hrp hct hvu huop
     go_enter Tryz.func108, Tryz.ntmps108
   go_wp2_with fail
   refine HOV.out.mono ?_
   rintro e w1 ⟨rfl, hb1⟩
   have HB1 := hD hb1
   first
   | guard_hyp t18q0
     obtain ⟨y1, g0, g1⟩ := HS.out w1 hb1
     clear hb1 HOV HS
     have HC1 := fun d => hD (HI1.out (w1.drewN d) (kaf HB1.out d))
     have HBE := fun d => hD ((kaf HB1.out d).alloc (kaf HB1.out d).size (.cells #[.int .i64 k0] 3))
     go_wp2_with fail
     go_quiet (fail)
     clear y1 g0 g1 HI1
     go_wp2_with fail
     refine (HC1 _).out.mono ?_
     rintro e w2 ⟨hb2, A2, c2, rfl, hc2, hp2⟩
     have HB2 := hD ((HBE _).out.trans (hb2.mono (HBE _).out.size))
     have HC2 := hD (HI2.out w2 A2 c2 hp2)
     have HBE2 := hD (HB2.out.alloc HB2.out.size (.cells #[.int .i64 k1] 3))
     clear hb2 hc2 hp2 HI2 HC1
     go_wp2_with fail
     refine HC2.out.mono ?_
     rintro e w3 ⟨hb3, A3, c3, rfl, hc3, hp3⟩
     have HB3 := hD (HBE2.out.trans (hb3.mono HBE2.out.size))
     have HC3 := hD (HWI.out w3 A3 c3 hp3)
     have HBE3 := hD (HB3.out.alloc HB3.out.size (.cells #[.int .i64 j, .int .i64 ((j : Int) + 1)] 3))
     clear hb3 hc3 hp3 HWI HC2
   | guard_hyp t18q1
     have y1 := (HVT.out.below hb1).x1
     rw [← HTM.out] at y1
     have HW1 := hD (HWI.out w1 hb1)
     clear hb1 HOV HWI
   | obtain ⟨y1, g0, g1, y2⟩ := HS.out w1 hb1
     have HC1 := hD (HI1.out w1 HB1.out)
     have HBE := hD (HB1.out.alloc HB1.out.size (.cells #[.int .i64 k0] 3))
     clear hb1 HOV HS HI1
   go_wp2_with fail
   first
   | guard_hyp t18q0
     refine HC3.out.mono ?_
     rintro e w4 ⟨hb4, A4, c4, rfl, hc4, hp4⟩
     have HB4 := hD (HBE3.out.trans (hb4.mono HBE3.out.size))
     have HC4 := hD (HRP.out w4 A4 c4 hp4 hc4)
     clear hb4 hc4 hp4 HRP HC3
   | guard_hyp t18q1
     refine HW1.out.mono ?_
     rintro e w2 ⟨hb2, A2, c2, he2, hc2, hp2⟩
     have HR2 := hD (HRP.out w2 A2 c2 hp2 hc2)
     rw [HL1.out] at he2
     subst he2
     have HB2 := hD (HB1.out.trans (hb2.mono HB1.out.size))
     clear hb2 hc2 hp2 HW1 HRP y1
   | refine HC1.out.mono ?_
     rintro e w2 ⟨hb2, A2, c2, rfl, hc2, hp2⟩
     have HB2 := hD (HBE.out.trans (hb2.mono HBE.out.size))
     have HC2 := hD (HWI.out w2 A2 c2 hp2)
     have HBE2 := hD (HB2.out.alloc HB2.out.size (.cells #[.int .i64 j, .int .i64 k1] 3))
     clear hb2 hc2 hp2 HWI HC1 y1 g0 g1 y2
   go_wp2_with fail
   first
   | guard_hyp t18q0
     refine HC4.out.mono ?_
   | guard_hyp t18q1
     refine HR2.out.mono ?_
   | refine HC2.out.mono ?_
     rintro e w4 ⟨hb4, A4, c4, rfl, hc4, hp4⟩
     have HB4 := hD (HBE2.out.trans (hb4.mono HBE2.out.size))
     have HC4 := hD (HRP.out w4 A4 c4 hp4 hc4)
     clear hb4 hc4 hp4 HRP HC2
     go_wp2_with fail
     refine HC4.out.mono ?_
   rintro e wz ⟨hbz, hz⟩
   first
   | guard_hyp t18q1
     have HBZ := hD (HB2.out.trans (hbz.mono HB2.out.size))
   | have HBZ := hD (HB4.out.trans (hbz.mono HB4.out.size))
   clear hbz
   cases R with
   | none =>
    exact z23
   | some L =>
    exact z7
 | guard_hyp t521q1
   obtain ⟨L1, hL1⟩ := xE (l.set j (Oz.mk ka0 t.args 0 t.text 1))
   rw [← hL1] at hR
   have hl1 : L1.length = n := by rw [hL1, List.length_set, hn]
   have hb1 : BdL L1 := by rw [hL1]; exact (hbn.set j (Oz.mk ka0 t.args 0 t.text 1) hbt).bd (by omega)
   obtain ⟨tx, htx⟩ := xE t.text
   have hwi : ∀ w1, Below w.heap.size w w1 → Calls Tryz.prog 144 #[.slice (some ⟨b, o, none⟩) l.length c, .int .i64 j, .agg #[.string ⟨#[109, 97, 116, 99, 104, 101, 115]⟩, .slice At t.args.length ct, .int .i64 0, .string ⟨t.text.toArray⟩, .int .i64 1]] w1 (kbd w1 L1) := fun w1 hb1 => by
    rw [hL1]
    exact kb3 (some ⟨b, o, none⟩) c l j (Oz.mk ka0 t.args 0 t.text 1) At ct w1 (h.below hb1) (hbn.bd (by omega)) (by omega) (hvt.below hb1).rd
   have hrp : ∀ w2 A2 c2, ArgPl w2 A2 L1 → L1.length ≤ c2 → Calls Tryz.prog 143 #[.slice A2 n c2, .int .i64 i, .int .i64 j] w2 (kal w2 R) := fun w2 A2 c2 hp2 hc2 => by
    have := kbN A2 c2 L1 i j w2 hp2 hb1 hc2 (by omega) hji
    rwa [hl1, ← hR] at this
   rw [← hn, ← htm, ← htx] at hwi
   have HWI := hD hwi
   have HRP := hD hrp
   have HL1 := hD hl1
   have HVT := hD hvt
   have HTX := hD htx
   have HS : Hid (∀ w', Below w.heap.size w w' → w'.cell? ⟨b, o + j * 5 + 1, none⟩ = some (.slice At tm ct) ∧ w'.cell? ⟨b, o + j * 5 + 3, none⟩ = some (.string ⟨tx.toArray⟩)) := hD (fun w' hb' => by
    have hv := hvt.below hb'
    rw [htm, htx]
    exact ⟨hv.x1, hv.x3⟩)
   clear h hcap hc hs hil hbn hne hR hov hO hn ht htb hj ha hat hbt hL1 hb1 hwi hrp hl1 hvt htm h0 htx
   go_enter Tryz.func104, Tryz.ntmps104
   go_wp2_with fail
   refine HOV.out.mono ?_
   rintro e w1 ⟨rfl, hb1⟩
   have HB1 := hD hb1
   have HBD := hD (show Below w.heap.size w w1.drew from hb1.drew)
   have HW1 := hD (HWI.out w1.drew HBD.out)
   clear hb1 HOV HWI
   go_wp2_with fail
   refine wp_region_noPanic ?_
   refine wp_region_held_drew (S := (fun w' => w'.cell? ⟨b, o + j * 5 + 1, none⟩ = some (.slice At tm ct) ∧ w'.cell? ⟨b, o + j * 5 + 3, none⟩ = some (.string ⟨tx.toArray⟩))) (by kernel_rfl) (HS.out _ HBD.out) (fun hHeld => ?_)
   have t487q0 := True.intro
   exact y44
 | have hal2 : s.args.length = 2 := kae hc hs 2 (by rw [h0]; show (_ : Option Nat) = _; kernel_rfl)
   have htl : t.args.length = 1 := kae hc ht 1 (by rw [htb]; show (_ : Option Nat) = _; kernel_rfl)
   obtain rfl : tm = 1 := by omega
   obtain ⟨j1, _, hj1, hji1, _, ha1, _⟩ := kah hc hs (k := 1) (by omega)
   obtain ⟨k0, _, hk0, hkj0, _, hb0, _⟩ := kah hc ht (k := 0) (by omega)
   rw [kad hs, ha1, hb0] at hR
   obtain ⟨As, cs, hv⟩ := h.vw hs
   obtain ⟨ba, oa, rfl, hba, hca⟩ := hv.ar (by omega)
   obtain ⟨bt, ot, rfl, hbt2, hct⟩ := hvt.ar (by omega)
   obtain ⟨tx, htx⟩ := xE t.text
   obtain ⟨L1, hL1⟩ := xE (l.set i (Oz.mk kaF [(k0 : Int), (j1 : Int)] 0 t.text 4))
   rw [← hL1] at hR
   have hl1 : L1.length = n := by rw [hL1, List.length_set, hn]
   have hb1 : BdL L1 := by
    rw [hL1]
    refine (hbn.set i (Oz.mk kaF [(k0 : Int), (j1 : Int)] 0 t.text 4) ⟨(show (2 : Nat) ≤ 3 by decide), fun a ha => ?_⟩).bd (by omega)
    have ha : a = (k0 : Int) ∨ a = (j1 : Int) := by simpa [Oz.mk] using ha
    omega
   have hbt3 := kds (some ⟨b, o, none⟩) c l
   obtain ⟨z, hz⟩ := xE (Oz.safeB l j i)
   rw [← hz] at hR
   have hbw : ∀ w1, Below w.heap.size w w1 → Calls Tryz.prog 150 #[.slice (some ⟨b, o, none⟩) l.length c, .int .i64 j, .int .i64 i] w1 fun e w' => e = .returned (.bool z) ∧ Below w1.heap.size w1 w' := fun w1 hb1 => by
    rw [hz]
    exact kds (some ⟨b, o, none⟩) c l w1 (h.below hb1) (by omega) j i hji (by omega)
   have hwi : ∀ w1, Below w.heap.size w w1 → ∀ Ax, Reads w1 w1.heap.size 1 Ax 2 [.int .i64 k0, .int .i64 j1] → Calls Tryz.prog 144 #[.slice (some ⟨b, o, none⟩) l.length c, .int .i64 i, .agg #[.string ⟨#[102, 105, 114, 115, 116, 102, 105, 110, 100]⟩, .slice Ax 2 2, .int .i64 0, .string ⟨t.text.toArray⟩, .int .i64 4]] w1 (kbd w1 L1) := fun w1 hb1 Ax hx => by
    rw [hL1]
    exact kb3 (some ⟨b, o, none⟩) c l i (Oz.mk kaF [(k0 : Int), (j1 : Int)] 0 t.text 4) Ax 2 w1 (h.below hb1) (hbn.bd (by omega)) hil hx
   obtain ⟨LR, hLR⟩ := xE (Rf.removeL L1 j)
   rw [← hLR] at hR
   have hrm : ∀ w2 A2 c2, ArgPl w2 A2 L1 → Calls Tryz.prog 148 #[.slice A2 n c2, .int .i64 j] w2 (kbd w2 LR) := fun w2 A2 c2 hp2 => by
    have := kcR A2 c2 L1 w2 hp2 hb1 j (by omega)
    rwa [hl1, ← hLR] at this
   rw [← hn] at hbw hwi
   rw [← htx] at hwi
   have HBW := hD hbw
   have HWI := hD hwi
   have HRM := hD hrm
   have HL1 := hD hl1
   have HR := hD hR
   have hsl : s.args.length = 2 := hal2
   have HS : Hid (∀ w', Below w.heap.size w w' → w'.cell? ⟨b, o + j * 5 + 1, none⟩ = some (.slice (some ⟨bt, ot, none⟩) 1 ct) ∧ w'.cell? ⟨b, o + i * 5 + 1, none⟩ = some (.slice (some ⟨ba, oa, none⟩) 2 cs) ∧ w'.cell? ⟨b, o + j * 5 + 3, none⟩ = some (.string ⟨tx.toArray⟩) ∧ w'.cell? ⟨bt, ot, none⟩ = some (.int .i64 k0) ∧ w'.cell? ⟨ba, oa + 1, none⟩ = some (.int .i64 j1)) := hD (fun w' hb' => by
    have hv' := hvt.below hb'
    have hv2 := (hv.below hb').x1
    have hv1 := hv'.x1
    rw [hsl] at hv2
    rw [htl] at hv1
    rw [htx]
    exact ⟨hv1, hv2, hv'.x3, hct w' hb' 0 _ hk0, hca w' hb' 1 _ hj1⟩)
   clear h hcap hc hs hil hbn hne hR hov hO hn ht htb hj ha hat hbt hL1 hb1 hbw hwi hrm hl1 hvt htm h0 htx hal2 htl hj1 ha1 hk0 hb0 hv hca hct hbt3 hLR hsl hz
   go_enter Tryz.func105, Tryz.ntmps105
   go_wp2_with fail
   refine HOV.out.mono ?_
   rintro e w1 ⟨rfl, hb1⟩
   have HB1 := hD hb1
   have HW1 := hD (HBW.out w1 hb1)
   clear hb1 HOV HBW
   go_wp2_with fail
   refine HW1.out.mono ?_
   rintro e w2 ⟨rfl, hb2⟩
   have HB2 := hD (HB1.out.trans (hb2.mono HB1.out.size))
   clear hb2 HW1
   cases z with
   | false =>
    have HRN : Hid (R = none) := hD (by rw [HR.out]; rfl)
    go_wp2_with fail
    go_ret2
    unfold kal
    rw [HRN.out]
    exact ⟨HB2.out, rfl⟩
   | true =>
    have HRN : Hid (R = some LR) := hD (by rw [HR.out]; rfl)
    have HBD := hD (show Below w.heap.size w w2.drew from HB2.out.drew)
    go_wp2_with fail
    refine wp_region_noPanic ?_
    refine wp_region_held_drew (S := (fun w' => w'.cell? ⟨b, o + j * 5 + 1, none⟩ = some (.slice (some ⟨bt, ot, none⟩) 1 ct) ∧ w'.cell? ⟨b, o + i * 5 + 1, none⟩ = some (.slice (some ⟨ba, oa, none⟩) 2 cs) ∧ w'.cell? ⟨b, o + j * 5 + 3, none⟩ = some (.string ⟨tx.toArray⟩) ∧ w'.cell? ⟨bt, ot, none⟩ = some (.int .i64 k0) ∧ w'.cell? ⟨ba, oa + 1, none⟩ = some (.int .i64 j1))) (by kernel_rfl) (HS.out _ HBD.out) (fun hHeld => ?_)
    have t487q1 := True.intro
    exact y44) : P := h
theorem y81 {P : Prop} (h : P := by
 refine hK.out _ _ hHeldZ ?_
 clear hK K
 try simp only [Act.put, gE, gF, gG]
 refine tkH (i := 17) hHeldZ ?_
 try simp only [Act.put, gE, gF, gG]
 refine tkH (i := 18) hHeldZ ?_
 try simp only [Act.put, gE, gF, gG]
 refine tkO (i := 19) (fun K hK => ?_)
 go_simp
 refine hK.out _ _ hHeldZ ?_
 clear hK K
 try simp only [Act.put, gE, gF, gG]
 refine tkO (i := 20) (fun K hK => ?_)
 go_simp
 refine hK.out _ _ hHeldZ ?_
 clear hK K
 try simp only [Act.put, gE, gF, gG]
 refine wpAnyH_done (by kernel_rfl) ?_ _
 refine NoPanic.normal ?_
 try simp only [Act.put, gE, gF, gG]
 go_wp2_with fail
 go_ret2
 unfold kal
 first
 | guard_hyp t524q0
   exact ⟨HBZ.out, rfl⟩
 | exact ⟨HBZ.out, Az, cz, by rw [HMZ.out]; rfl, HCZ.out, HPZ.out⟩) : P := h
theorem y44 {P : Prop} (h : P := by
 have t541q0 := True.intro
 exact y98) : P := h
theorem y6 {P : Prop} (h : P := by
 have hil := (fun _ : l.length ≤ c => (gH hs).1) hcap
 obtain ⟨b, o, rfl⟩ := h.base (by omega)
 have hbn := kc6 hc
 have hlen := hbn.1
 have hne : s.op = Oz.oLen → 0 < s.args.length := fun e => by
  obtain ⟨o', f⟩ := ka2 hc hs
  have h1 := f.op
  rw [e] at h1
  have h2 : o'.args.length ≠ 0 := by
   have h3 : (opR Oz.oLen).map (fun o => decide (o.args.length = 0)) = some false := by show (_ : Option Bool) = _; kernel_rfl
   rw [h1] at h3
   exact of_decide_eq_false (Option.some.inj h3)
  rw [f.len]
  omega
 first
 | guard_hyp t18q0
   obtain ⟨R, hR⟩ := xE (Rf.lenSumL l i)
 | guard_hyp t18q1
   obtain ⟨R, hR⟩ := xE (Rf.lenCutL l i)
 | obtain ⟨R, hR⟩ := xE (Rf.lenRepL l i)
 rw [← hR]
 first
 | guard_hyp t18q0
   unfold Rf.lenSumL at hR
   have hov := kdt b o c l i s Oz.oLen Oz.oCat w h hc hs hne
   obtain ⟨O, hO⟩ := xE (Rf.overL l i Oz.oLen Oz.oCat)
 | guard_hyp t18q1
   unfold Rf.lenCutL at hR
   have hov := kdt b o c l i s Oz.oLen Oz.oCut w h hc hs hne
   obtain ⟨O, hO⟩ := xE (Rf.overL l i Oz.oLen Oz.oCut)
 | unfold Rf.lenRepL at hR
   have hov := kdt b o c l i s Oz.oLen Oz.oRep w h hc hs hne
   obtain ⟨O, hO⟩ := xE (Rf.overL l i Oz.oLen Oz.oRep)
 rw [← hO] at hov hR
 obtain ⟨n, hn⟩ := xE l.length
 have HN := hD hn
 have HB0 := hD (Below.refl w.heap.size w)
 cases O with
 | none =>
  have HRN : Hid (R = none) := hD hR
  first
  | guard_hyp t18q0
    have HOV := hD (show Calls Tryz.prog 149 #[.slice (some ⟨b, o, none⟩) l.length c, .int .i64 i, .string ⟨#[108, 101, 110]⟩, .string ⟨#[43, 43]⟩] w fun e w' => e = .returned (.int .i64 (-1)) ∧ Below w.heap.size w w' from hov)
  | guard_hyp t18q1
    have HOV := hD (show Calls Tryz.prog 149 #[.slice (some ⟨b, o, none⟩) l.length c, .int .i64 i, .string ⟨#[108, 101, 110]⟩, .string ⟨#[99, 117, 116]⟩] w fun e w' => e = .returned (.int .i64 (-1)) ∧ Below w.heap.size w w' from hov)
  | have HOV := hD (show Calls Tryz.prog 149 #[.slice (some ⟨b, o, none⟩) l.length c, .int .i64 i, .string ⟨#[108, 101, 110]⟩, .string ⟨#[114, 101, 112]⟩] w fun e w' => e = .returned (.int .i64 (-1)) ∧ Below w.heap.size w w' from hov)
  rw [← hn] at HOV ⊢
  clear h hcap hc hs hil hbn hne hR hov hO hn
  first
  | guard_hyp t18q0
    go_enter Tryz.func107, Tryz.ntmps107
  | guard_hyp t18q1
    go_enter Tryz.func106, Tryz.ntmps106
  | go_enter Tryz.func108, Tryz.ntmps108
  exact z8
 | some j =>
  obtain ⟨h0, t, ht, hji, htb, hj, ha, hat⟩ := keH hc hs hne hO.symm
  dsimp only at hR
  rw [hat] at hR
  first
  | guard_hyp t18q0
    have HOV := hD (show Calls Tryz.prog 149 #[.slice (some ⟨b, o, none⟩) l.length c, .int .i64 i, .string ⟨#[108, 101, 110]⟩, .string ⟨#[43, 43]⟩] w fun e w' => e = .returned (.int .i64 (j : Int)) ∧ Below w.heap.size w w' from hov)
  | guard_hyp t18q1
    have HOV := hD (show Calls Tryz.prog 149 #[.slice (some ⟨b, o, none⟩) l.length c, .int .i64 i, .string ⟨#[108, 101, 110]⟩, .string ⟨#[99, 117, 116]⟩] w fun e w' => e = .returned (.int .i64 (j : Int)) ∧ Below w.heap.size w w' from hov)
  | have HOV := hD (show Calls Tryz.prog 149 #[.slice (some ⟨b, o, none⟩) l.length c, .int .i64 i, .string ⟨#[108, 101, 110]⟩, .string ⟨#[114, 101, 112]⟩] w fun e w' => e = .returned (.int .i64 (j : Int)) ∧ Below w.heap.size w w' from hov)
  have t521q0 := True.intro
  exact y78) : P := h
theorem CpX.put {w w0 : World} {gs i : Nat} {l : List St} {vs : List Value} (h : CpX w w0.heap.size gs l vs) (hb : Below w0.heap.size w0 w) (x : St) (Ax : Option Addr) (cx : Nat) (hx : Reads w0 w0.heap.size 1 Ax x.args.length (x.args.map (Value.int .i64))) :
  ArgPl (w.setCells gs (i * 5) [.string ⟨x.op.toArray⟩, .slice Ax x.args.length cx, .int .i64 x.num, .string ⟨x.text.toArray⟩, .int .i64 x.ty]) (some ⟨gs, 0, none⟩) (l.set i x) := by
 intro j s hs
 obtain ⟨cs, e1⟩ := h.blk
 obtain ⟨cs', z1, z2, z3, z4⟩ := kaH [.string ⟨x.op.toArray⟩, .slice Ax x.args.length cx, .int .i64 x.num, .string ⟨x.text.toArray⟩, .int .i64 x.ty] (i * 5) w cs e1
 have hg := kat (g := gs) [.string ⟨x.op.toArray⟩, .slice Ax x.args.length cx, .int .i64 x.num, .string ⟨x.text.toArray⟩, .int .i64 x.ty] (i * 5) w
 have hjl : j < l.length := by have := (gH hs).1; rwa [List.length_set] at this
 obtain ⟨t, ht⟩ : ∃ t, l[j]? = some t := ⟨_, List.getElem?_eq_getElem hjl⟩
 obtain ⟨v, hv, ⟨x0, x1, x2, x3, x4⟩, ho⟩ := h.at_ ht
 have hsz : j * 5 + 5 ≤ cs.size := by
  have h4 := x4
  rw [e1.cell] at h4
  have := (Array.getElem?_eq_some_iff.1 h4).1
  omega
 by_cases hij : i = j
 ·
  subst hij
  rw [List.getElem?_set_self hjl] at hs
  injection hs with hs
  subst hs
  have hc : ∀ k, k < 5 → (w.setCells gs (i * 5) [.string ⟨x.op.toArray⟩, .slice Ax x.args.length cx, .int .i64 x.num, .string ⟨x.text.toArray⟩, .int .i64 x.ty]).cell? ⟨gs, 0 + i * 5 + k, none⟩ = ([.string ⟨x.op.toArray⟩, .slice Ax x.args.length cx, .int .i64 x.num, .string ⟨x.text.toArray⟩, .int .i64 x.ty] : List Value)[k]? := fun k hk => by
   rw [Nat.zero_add, z1.cell, z3 k (by simpa using hk) (by omega)]
  refine ⟨gs, 0, Ax, cx, rfl, z1.lt, hc 0 (by omega), hc 1 (by omega), hc 2 (by omega), hc 3 (by omega), hc 4 (by omega), by simp, fun hn => ?_⟩
  obtain ⟨q, o, rfl, hl, hr⟩ := hx.form hn
  have hw : w0.heap.size ≤ w.heap.size := hb.size
  have hgs := h.hgs
  refine ⟨⟨q, o, none⟩, rfl, Nat.lt_of_lt_of_le (Nat.lt_of_lt_of_le hl hw) hg.size, fun k u hu => ?_⟩
  rw [ka1]
  refine (World.cell?_of_block (a := ⟨q, o + k, none⟩) (hg.block q (Nat.lt_of_lt_of_le hl hw) (fun e => ?_))).trans ((hb.cell (p := ⟨q, o + k, none⟩) hl).trans (hr k u hu))
  have e : q = gs := Option.some.inj e
  omega
 ·
  rw [List.getElem?_set_ne hij] at hs
  have hts : t = s := by rw [hs] at ht; injection ht with ht; exact ht.symm
  subst hts
  obtain ⟨A, c, rfl⟩ := kak ho
  have hc : ∀ k, k < 5 → (w.setCells gs (i * 5) [.string ⟨x.op.toArray⟩, .slice Ax x.args.length cx, .int .i64 x.num, .string ⟨x.text.toArray⟩, .int .i64 x.ty]).cell? ⟨gs, 0 + j * 5 + k, none⟩ = w.cell? ⟨gs, j * 5 + k, none⟩ := fun k hk => by
   rw [Nat.zero_add, z1.cell, e1.cell, z4 _ (by simp; omega)]
  have ho' := kaA (w' := w.setCells gs (i * 5) [.string ⟨x.op.toArray⟩, .slice Ax x.args.length cx, .int .i64 x.num, .string ⟨x.text.toArray⟩, .int .i64 x.ty]) ho (fun b hbk => hg.block b (kbO ho b hbk) (fun e => h.apart ht hv hbk (by injection e)))
  refine ⟨gs, 0, A, c, rfl, z1.lt, (hc 0 (by omega)).trans x0, (hc 1 (by omega)).trans x1, (hc 2 (by omega)).trans x2, (hc 3 (by omega)).trans x3, (hc 4 (by omega)).trans x4, ?_⟩
  exact (kbA (B := 0) ho').reads
theorem kb3 (A : Option Addr) (c : Nat) (l : List St) (i : Nat) (x : St) (Ax : Option Addr) (cx : Nat) (w : World) (h : ArgPl w A l) (hb : BdL l) (hi : i < l.length) (hx : Reads w w.heap.size 1 Ax x.args.length (x.args.map (Value.int .i64))) :
  Calls Tryz.prog 144 #[.slice A l.length c, .int .i64 i, .agg #[.string ⟨x.op.toArray⟩, .slice Ax x.args.length cx, .int .i64 x.num, .string ⟨x.text.toArray⟩, .int .i64 x.ty]] w (kbd w (l.set i x)) := by
 obtain ⟨w1, hw1⟩ := xE (w.alloc (.cells #[.string ⟨x.op.toArray⟩, .slice Ax x.args.length cx, .int .i64 x.num, .string ⟨x.text.toArray⟩, .int .i64 x.ty] 76))
 have hb1 : Below w.heap.size w w1 := by rw [hw1]; exact kaa _ _
 have hk1 : Blk w1 w.heap.size 76 #[.string ⟨x.op.toArray⟩, .slice Ax x.args.length cx, .int .i64 x.num, .string ⟨x.text.toArray⟩, .int .i64 x.ty] := by rw [hw1]; exact Blk.new _ _ _
 have HX1 := hD ((hx.below hb1).more hb1.size)
 have HCY := hD (kdy A c l w1 (h.below hb1) hb (by omega))
 have HB1 := hD hb1
 have HK1 := hD hk1
 have HW1 := hD hw1
 obtain ⟨n, hn⟩ := xE l.length
 have HN := hD hn
 rw [← hn] at hi HCY ⊢
 have hnl : n ≤ 10000 := by rw [hn]; exact hb.len
 have q0 : (i : Int) < (n : Int) := by omega
 have q1 : (0 : Int) ≤ (i : Int) := by omega
 obtain ⟨op, args, num, text, ty⟩ := x
 dsimp only at *
 obtain ⟨m, hm⟩ := xE args.length
 have HM := hD hm
 rw [← hm] at HK1 HW1 ⊢
 clear h hb hw1 hb1 hk1 hn hx hm
 go_enter Tryz.func144, Tryz.ntmps144
 go_wp2_with fail
 rw [← HW1.out]
 refine HCY.out.mono ?_
 rintro e w2 ⟨hb2, gs, cap, vs, he2, hcap, hx2⟩
 rw [← HN.out] at he2 hcap
 subst he2
 have HX2 := hD hx2
 have HB2 := hD hb2
 have hk2 := HK1.out.below hb2 HK1.out.lt
 obtain ⟨y0, y1, y2, y3, y4, _⟩ := blk5 hk2
 have q2 : (n : Int) ≤ (cap : Int) := by omega
 obtain ⟨f0, f1, f2, f3, f4⟩ : w2.frozen? ⟨gs, i * 5, none⟩ = false ∧ w2.frozen? ⟨gs, i * 5 + 1, none⟩ = false ∧ w2.frozen? ⟨gs, i * 5 + 2, none⟩ = false ∧ w2.frozen? ⟨gs, i * 5 + 3, none⟩ = false ∧ w2.frozen? ⟨gs, i * 5 + 4, none⟩ = false := by
  obtain ⟨cs, e1⟩ := hx2.blk
  exact ⟨e1.frozen _, e1.frozen _, e1.frozen _, e1.frozen _, e1.frozen _⟩
 obtain ⟨d0, d1, d2, d3, d4⟩ : (w2.cell? ⟨gs, i * 5, none⟩).isSome = true ∧ (w2.cell? ⟨gs, i * 5 + 1, none⟩).isSome = true ∧ (w2.cell? ⟨gs, i * 5 + 2, none⟩).isSome = true ∧ (w2.cell? ⟨gs, i * 5 + 3, none⟩).isSome = true ∧ (w2.cell? ⟨gs, i * 5 + 4, none⟩).isSome = true := by
  obtain ⟨s, hs⟩ : ∃ s, l[i]? = some s := ⟨l[i]'(by rw [← HN.out]; exact hi), List.getElem?_eq_getElem _⟩
  obtain ⟨v, hv, ⟨x0, x1, x2, x3, x4⟩, ho⟩ := hx2.at_ hs
  rw [x0, x1, x2, x3, x4]
  exact ⟨rfl, rfl, rfl, rfl, rfl⟩
 obtain ⟨t0, h0⟩ := Option.isSome_iff_exists.1 d0
 obtain ⟨t1, h1⟩ := Option.isSome_iff_exists.1 d1
 obtain ⟨t2, h2⟩ := Option.isSome_iff_exists.1 d2
 obtain ⟨t3, h3⟩ := Option.isSome_iff_exists.1 d3
 obtain ⟨t4, h4⟩ := Option.isSome_iff_exists.1 d4
 have hp := hx2.put (i := i) hb2 ⟨op, args, num, text, ty⟩ Ax cx HX1.out
 dsimp only at hp
 rw [← HM.out] at hp
 have HP := hD hp
 have HG := hD (kat (g := gs) [.string ⟨op.toArray⟩, .slice Ax m cx, .int .i64 num, .string ⟨text.toArray⟩, .int .i64 ty] (i * 5) w2)
 clear hx2 hb2 hk2 hp d0 d1 d2 d3 d4 HCY HK1
 go_wp2_with fail
 go_ret
 refine ⟨((HB1.out.trans (HB2.out.mono HB1.out.size)).grown HG.out (HB1.out.trans (HB2.out.mono HB1.out.size)).size (fun j e => by have e : some gs = some j := e; injection e with e; have := HX2.out.hgs; have := HB1.out.size; omega)), some ⟨gs, 0, none⟩, cap, by rw [List.length_set, HN.out]; rfl, by rw [List.length_set, ← HN.out]; exact hcap, HP.out⟩
theorem y82 {P : Prop} (h : P := by
 have hk5 := HK.out
 have hbw := HK.out.lt
 have HK5 := hD (hk5.set_ 1 (.slice Aa args.length ca))
 have z2 := hk5.frozen 1
 have z1 := hk5.cell 1
 simp only [gA, gB, gC] at z1
 have HO5 := hD how
 clear hk5 how
 go_upto_region 17 with (fail)
 obtain ⟨w6, hw6⟩ := xE (wr.setCell ⟨b, 1, none⟩ (.slice Aa args.length ca))
 rw [← hw6]
 have hk6 : Blk w6 b 76 #[.string ⟨op.toArray⟩, .slice Aa args.length ca, .int .i64 num, .string ⟨text.toArray⟩, .int .i64 ty] := by rw [hw6]; exact HK5.out
 first
 | guard_hyp t525q0
   have hb6 : Below wo.heap.size wo w6 := by rw [hw6]; exact (HBQ.out.trans (HBI.out.mono HBQ.out.size)).setCell (p := ⟨b, 1, none⟩) (by rw [← HBB.out]; exact Nat.le_refl _) _
   have ho6 : w6.ownsRow wq.heap.size 3 1 (.slice Aa args.length ca) args.length (args.map fun a => .int .i64 ((fIn j) a)) := by rw [hw6]; exact kbe HO5.out (fun e => by have h0 : wq.heap.size ≤ b := (kaq HO5.out e).1; omega) _
   obtain ⟨y0, y1, y2, y3, y4, _⟩ := blk5 hk6
   have hv6 := kay HV.out hb6
   have t499q1 := True.intro
   exact y56
 | have hb6 : Below w3.heap.size w3 w6 := by rw [hw6]; exact (HBQ.out.trans (HBI.out.mono HBQ.out.size)).setCell (p := ⟨b, 1, none⟩) (by rw [← HBB.out]; exact Nat.le_refl _) _
   have ho6 : w6.ownsRow wq.heap.size 3 1 (.slice Aa args.length ca) args.length (args.map fun a => .int .i64 ((fIn k) a)) := by rw [hw6]; exact kbe HO5.out (fun e => by have h0 : wq.heap.size ≤ b := (kaq HO5.out e).1; omega) _
   obtain ⟨y0, y1, y2, y3, y4, _⟩ := blk5 hk6
   have hv6 := kay HV3.out hb6
   exact y56) : P := h
theorem reads_fm {w w' : World} {n : Nat} {A : Option Addr} {xs : List Value} (h : Reads w w.heap.size 1 A n xs) (hb : Below w.heap.size w w') : RdF w' (fmF w' w.heap.size) 1 A n xs :=
 ⟨h.1, fun hn => by
  obtain ⟨b, o, rfl, hl, hc⟩ := h.form hn
  have hs := hb.size
  exact ⟨b, o, rfl, ⟨by omega, .inl hl⟩, by omega, fun j u hj => (hb.cell (p := ⟨b, o + j, none⟩) hl).trans (hc j u hj)⟩⟩
theorem kiE (A : Option Addr) (c : Nat) (l : List St) (j : Nat) (x : St) (Ax : Option Addr) (cx : Nat) (w : World) (h : ArgPl w A l) (hb : BdL l) (hj : j < l.length) (hx : Reads w w.heap.size 1 Ax x.args.length (x.args.map (Value.int .i64))) :
  Calls Tryz.prog 151 #[.slice A l.length c, .int .i64 j, .agg #[.string ⟨x.op.toArray⟩, .slice Ax x.args.length cx, .int .i64 x.num, .string ⟨x.text.toArray⟩, .int .i64 x.ty]] w (kbd w (Rf.insertL l j x)) := by
 have HA := hD h
 have HM := hD hb
 have HRX := hD hx
 have hn := hb.len
 have HALL := hD (Rf.insK_all (x := x) hj)
 obtain ⟨xop, hxop⟩ := xE x.op
 obtain ⟨xnum, hxnum⟩ := xE x.num
 obtain ⟨xtext, hxtext⟩ := xE x.text
 obtain ⟨xty, hxty⟩ := xE x.ty
 obtain ⟨xm, hxm⟩ := xE x.args.length
 have HXS : Hid (∀ w' : World, Below w.heap.size w w' → StV w' (fmF w' w.heap.size) x [.string ⟨xop.toArray⟩, .slice Ax xm cx, .int .i64 xnum, .string ⟨xtext.toArray⟩, .int .i64 xty]) := hD (fun w' hb => by
  rw [hxop, hxnum, hxtext, hxty, hxm]
  exact ⟨Ax, cx, rfl, reads_fm hx hb⟩)
 rw [← hxop, ← hxnum, ← hxtext, ← hxty, ← hxm]
 have HB0 := hD (kaa w (.cells #[.string ⟨xop.toArray⟩, .slice Ax xm cx, .int .i64 xnum, .string ⟨xtext.toArray⟩, .int .i64 xty] 76))
 have HX0 := hD (Blk.new w 76 #[.string ⟨xop.toArray⟩, .slice Ax xm cx, .int .i64 xnum, .string ⟨xtext.toArray⟩, .int .i64 xty])
 have HZ : Hid (0 = (Rf.insK (fIn j) l j x 0).length) := hD (by rw [Rf.insK_zero]; rfl)
 have HZ0 : Hid (StVs (w.alloc (.cells #[.string ⟨xop.toArray⟩, .slice Ax xm cx, .int .i64 xnum, .string ⟨xtext.toArray⟩, .int .i64 xty] 76)) (fmF (w.alloc (.cells #[.string ⟨xop.toArray⟩, .slice Ax xm cx, .int .i64 xnum, .string ⟨xtext.toArray⟩, .int .i64 xty] 76)) w.heap.size) (Rf.insK (fIn j) l j x 0) []) := hD (by rw [Rf.insK_zero]; rfl)
 have hz0 : w.heap.size + 1 ≤ (w.alloc (.cells #[.string ⟨xop.toArray⟩, .slice Ax xm cx, .int .i64 xnum, .string ⟨xtext.toArray⟩, .int .i64 xty] 76)).heap.size := by simp
 obtain ⟨N, hN⟩ := xE l.length
 have HNN := hD hN
 rw [← hN] at hn hj ⊢
 clear h hb hN hx hxop hxnum hxtext hxty hxm
 go_enter Tryz.func151, Tryz.ntmps151
 go_wp2_with fail
 go_loopg [7, 8, 9, 10, 12, 15] (N + 1) (fun f v _ _ _ _ ix wr => RvRel w (w.heap.size + 1) (Rf.insK (fIn j) l j x) N f v ix wr ∧ Hid (Blk wr w.heap.size 76 #[.string ⟨xop.toArray⟩, .slice Ax xm cx, .int .i64 xnum, .string ⟨xtext.toArray⟩, .int .i64 xty]))
 case atStart => exact ⟨⟨0, 0, none, 0, [], rfl, rfl, by omega, by omega, hz0, HZ, hD (World.ownsRow_nil _ _ _ _), HZ0, HB0⟩, HX0⟩
 case round =>
  clear HB0 HZ HZ0 HX0 hz0
  obtain ⟨⟨k, n, Ap, cp, css, rfl, rfl, hk, hkf, hBr, HN, HV, HT, HB⟩, HX⟩ := hrel
  obtain ⟨wo, hwo⟩ := xE wr
  subst hwo
  have hnk : n ≤ k + 1 := by rw [HN.out]; exact Rf.insK_len
  obtain ⟨f, rfl⟩ : ∃ f, gk = f + 1 := ⟨gk - 1, by omega⟩
  have hzr := HB.out.size
  by_cases hlt : k < N
  ·
   have q0 : (k : Int) < (N : Int) := by omega
   have q1 : (0 : Int) ≤ (k : Int) := by omega
   obtain ⟨s, hs⟩ : ∃ s, l[k]? = some s := ⟨l[k]'(by rw [← HNN.out]; exact hlt), List.getElem?_eq_getElem _⟩
   have HS := hD hs
   clear hs
   by_cases hki0 : k = j
   rotate_left
   ·
    have hke : ((k : Int) == (j : Int)) = false := beq_eq_false_iff_ne.2 (by omega)
    have hke' : ¬ ((k : Int) = (j : Int)) := by omega
    obtain ⟨op, args, num, text, ty⟩ := s
    obtain ⟨b0, o, As, cs, rfl, hbl0, x0, x1, x2, x3, x4, hrd⟩ := (HA.out.below HB.out) k _ HS.out
    dsimp only at x0 x1 x2 x3 x4 hrd
    have hag := HM.out.arg _ (List.mem_of_getElem? HS.out)
    dsimp only at hag
    have hal := hag.1
    have HAG := hD hag.2
    have HRD := hD hrd
    clear hag hrd
    go_upto_region 8 with (fail)
    exact y96
   ·
    subst hki0
    obtain ⟨t0, t1, t2, t3, t4, _⟩ := blk5 HX.out
    have hov := HV.out.alloc (.cells #[.string ⟨xop.toArray⟩, .slice Ax xm cx, .int .i64 xnum, .string ⟨xtext.toArray⟩, .int .i64 xty] 76)
    have hr6 := kfO wo (.string ⟨xop.toArray⟩) (.slice Ax xm cx) (.int .i64 xnum) (.string ⟨xtext.toArray⟩) (.int .i64 xty) 76
    have hone : ∀ u ∈ ([.string ⟨xop.toArray⟩, .slice Ax xm cx, .int .i64 xnum, .string ⟨xtext.toArray⟩, .int .i64 xty] : List Value), u.oneCell' = true := by simp [Value.oneCell']
    have hq1 : n + 1 ≤ maxLen := by unfold maxLen; omega
    have hq2 : (n + 1) * 72 ≤ 140737488355328 := by omega
    have hq3 : w.heap.size + 1 ≤ (wo.alloc (.cells #[.string ⟨xop.toArray⟩, .slice Ax xm cx, .int .i64 xnum, .string ⟨xtext.toArray⟩, .int .i64 xty] 76)).heap.size := by have := (kaa wo (.cells #[.string ⟨xop.toArray⟩, .slice Ax xm cx, .int .i64 xnum, .string ⟨xtext.toArray⟩, .int .i64 xty] 76)).size; omega
    obtain ⟨i0, hinf0, hz00, hz01, hz02⟩ := info_parts kc2
    go_wp2_with (at_builtin; refine kam _ rfl (.tmp 21) (.tmp 23) 22 rfl (w.heap.size + 1) 76 i0 (.agg #[.string ⟨#[]⟩, .slice none 0 0, .int .i64 0, .string ⟨#[]⟩, .int .i64 0]) 5 72 Tryz.underlying22 hinf0 hz00 hz01 hz02 rfl (by decide) (.slice Ap n cp) n css rfl hov (wo.heap.size + 1) (some ⟨wo.heap.size, 0, none⟩) 1 1 [.string ⟨xop.toArray⟩, .slice Ax xm cx, .int .i64 xnum, .string ⟨xtext.toArray⟩, .int .i64 xty] rfl hr6 hone hq1 hq2 hq3 ?_)
    intro v3 w3 hown3 hg3 hv3
    obtain ⟨A3, c3, rfl⟩ := kak hown3
    have hg2 : wo.grownBy w3 (Value.slice Ap n cp).ownBlock := (kaP (kaa wo _) _).trans hg3
    have hb3 := HB.out.grown hg2 hzr (fun q e => by have := (kaq HV.out e).1; omega)
    have HB3 := hD hb3
    have HX3 := hD (HX.out.grown hg2 (fun e => by have := (kaq HV.out e.symm).1; omega))
    have HT3 : Hid (StVs w3 (fmF w3 w.heap.size) (Rf.insK (fIn k) l k x k ++ [x]) (css ++ [.string ⟨xop.toArray⟩, .slice Ax xm cx, .int .i64 xnum, .string ⟨xtext.toArray⟩, .int .i64 xty])) := hD (StVs.append (HT.out.keep_fm (fun i h1 h2 => hg2.block i h2 (fun e => by have := (kaq HV.out e.symm).1; omega)) (fun i cur hb => hg2.block i hb.lt (fun e => kan HV.out hb (by decide) e.symm)) hg2.size) (StVs.one (HXS.out w3 hb3)))
    obtain ⟨css3, hcss3⟩ := xE (css ++ [.string ⟨xop.toArray⟩, .slice Ax xm cx, .int .i64 xnum, .string ⟨xtext.toArray⟩, .int .i64 xty])
    obtain ⟨n3, hn3⟩ := xE (n + 1)
    rw [← hcss3] at hown3 HT3
    rw [← hn3] at hown3 ⊢
    have HV3 := hD hown3
    have HN3 : Hid (n3 = (Rf.insK (fIn k) l k x k ++ [x]).length) := hD (by rw [hn3, List.length_append, List.length_singleton, ← HN.out])
    have hBr3 : w.heap.size + 1 ≤ w3.heap.size := Nat.le_trans hBr hg2.size
    have hzr3 := hb3.size
    have hnk3 : n3 ≤ k + 2 := by omega
    clear hown3 hg3 hv3 hg2 hb3 hov hr6 hone hq1 hq2 hq3 hinf0 hz00 hz01 hz02 t0 t1 t2 t3 t4 HV HT HB HX HN hzr hBr hcss3 hnk hn3
    obtain ⟨op, args, num, text, ty⟩ := s
    obtain ⟨b0, o, As, cs, rfl, hbl0, x0, x1, x2, x3, x4, hrd⟩ := (HA.out.below HB3.out) k _ HS.out
    dsimp only at x0 x1 x2 x3 x4 hrd
    have hag := HM.out.arg _ (List.mem_of_getElem? HS.out)
    dsimp only at hag
    have hal := hag.1
    have HAG := hD hag.2
    have HRD := hD hrd
    clear hag hrd
    go_upto_region 8 with (fail)
    obtain ⟨wq, hwq⟩ := xE (w3.alloc (.cells #[.string ⟨op.toArray⟩, .slice As args.length cs, .int .i64 num, .string ⟨text.toArray⟩, .int .i64 ty] 76))
    rw [← hwq]
    have hbq : Below w3.heap.size w3 wq := by rw [hwq]; exact kaa _ _
    have hkb : Blk wq w3.heap.size 76 #[.string ⟨op.toArray⟩, .slice As args.length cs, .int .i64 num, .string ⟨text.toArray⟩, .int .i64 ty] := by rw [hwq]; exact Blk.new _ _ _
    obtain ⟨b, hbb0⟩ := xE w3.heap.size
    rw [← hbb0] at hkb ⊢
    have HRQ := hD ((HRD.out.below hbq).more hbq.size)
    have HBQ := hD hbq
    have HKB := hD hkb
    have HBB := hD hbb0
    have hbl := hkb.lt
    have y1 := hkb.cell 1
    simp only [gA, gB, gC] at y1
    have HOW0 : Hid (wq.ownsRow wq.heap.size 3 1 (.slice none 0 0) 0 ((args.take 0).map fun a => Value.int .i64 ((fIn k) a))) := hD (World.ownsRow_nil _ _ _ _)
    clear hwq hbq hkb hbb0 x0 x1 x2 x3 x4 HRD
    go_wp2_with fail
    clear y1
    go_loopg [10, 12, 32] (args.length + 1) (fun f v _ ix wr => RaRel wq args (fIn k) b #[.string ⟨op.toArray⟩, .slice As args.length cs, .int .i64 num, .string ⟨text.toArray⟩, .int .i64 ty] f v ix wr)
    case atStart => exact ⟨0, none, 0, rfl, rfl, by omega, by omega, HOW0, HKB, hD (Below.refl _ _)⟩
    case round =>
     clear HOW0
     obtain ⟨j', Aa, ca, rfl, rfl, hj, hjf, HOW, HK, HBI⟩ := hrel
     obtain ⟨f2, rfl⟩ : ∃ f2, gk = f2 + 1 := ⟨gk - 1, by omega⟩
     have hzi := HBI.out.size
     by_cases hjl : j' < args.length
     ·
      exact y89
     ·
      have hjs : j' = args.length := by omega
      subst hjs
      have p0 : ¬ ((args.length : Int) < (args.length : Int)) := by omega
      have how : wr.ownsRow wq.heap.size 3 1 (.slice Aa args.length ca) args.length (args.map fun a => .int .i64 ((fIn k) a)) := by have := HOW.out; rwa [List.take_length] at this
      exact y82
  ·
   have hkl : k = N := by omega
   subst hkl
   have q0 : ¬ ((k : Int) < (k : Int)) := by omega
   have HAP : Hid (ArgPl wo Ap (Rf.insertL l j x)) := hD (by
    have ht := HT.out
    have hv := HV.out
    rw [HN.out] at hv
    rw [HNN.out, HALL.out] at ht hv
    exact ArgPl.of_rows hv ht)
   have HCAP : Hid ((Rf.insertL l j x).length ≤ cp) := hD (by have h1 := kjA HV.out; have h2 := HN.out; rw [HNN.out, HALL.out] at h2; omega)
   have HLN : Hid (n = (Rf.insertL l j x).length) := hD (by rw [HN.out, HNN.out, HALL.out])
   go_wp2_with fail
   go_ret
   exact ⟨HB.out, Ap, cp, by rw [HLN.out]; rfl, HCAP.out, HAP.out⟩
end Go.Proofs.YtamhdmkolfmmdaaGreatDoor
