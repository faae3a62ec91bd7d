/- The walks of the document's add and targets (printed by gen_rwt.py). -/
import Derived.Test.YtamhdmkolfmmdaaGreatDoorsbh
import Derived.BigQuiet
import Derived.Test.YtamhdmkolfmmdaaGreatDoorsaa
set_option linter.unusedVariables false
set_option linter.unusedSimpArgs false
namespace Go.Proofs.YtamhdmkolfmmdaaGreatDoor
open Go.RowKit
set_option maxRecDepth 100000
set_option maxHeartbeats 8000000
theorem z2 {P : Prop} (h : P := by
 rintro e w3 ⟨hb3, A3', n3, c3', rfl, hle3, ho3⟩
 have HB3 := hD (HB2.out.trans (hb3.mono (Nat.le_succ _)))
 have hzz3 : w.heap.size + 1 ≤ w3.heap.size := Nat.le_trans hzz2 hb3.size
 have HO3 := hD ho3
 clear hb3 ho3
 go_wp2_with fail
 go_ret
 unfold kaS
 rw [HTS.out]
 exact ⟨HB3.out, A3', n3, c3', rfl, (by have := HO3.out.1; simpa [ntC] using this.symm), (by omega), (kbA (B := 0) HO3.out).reads⟩) : P := h
theorem z13 {P : Prop} (h : P := by
 rintro e w4 ⟨hb4, A4', n4, c4', rfl, hle4, ho4⟩
 have HB4 := hD (HB3.out.trans (hb4.mono (Nat.le_succ _)))
 have hzz4 : w.heap.size + 1 ≤ w4.heap.size := Nat.le_trans hz3 hb4.size
 have HO4 := hD ho4
 clear hb4 ho4
 go_wp2_with fail
 go_ret
 unfold kaS
 rw [HTS.out]
 exact ⟨HB4.out, A4', n4, c4', rfl, (by have := HO4.out.1; simpa [ntC] using this.symm), (by omega), (kbA (B := 0) HO4.out).reads⟩) : P := h
theorem y75 {P : Prop} (h : P := by
 go_wp2_with fail
 refine (kaZ none 0 0 [] (by omega) false j0 (w.heap.size + 1) _ (World.ownsRow_nil _ _ _ _) hz3).mono ?_
 exact z13) : P := h
theorem y58 {P : Prop} (h : P := by
 have hil := (gH hs).1
 have hlen := (kcW hc).len
 obtain ⟨As, cs, hv⟩ := h.vw hs
 have x0 := hv.x0
 have x1 := hv.x1
 have x2 := hv.x2
 have x3 := hv.x3
 have x4 := hv.x4
 obtain ⟨TS, hTS⟩ := xE (Rf.targetsL l i)
 rw [← hTS]
 unfold Rf.targetsL at hTS
 rw [kad hs] at hTS
 dsimp only at hTS
 obtain ⟨op, hop'⟩ := xE s.op
 obtain ⟨num, hnum⟩ := xE s.num
 obtain ⟨text, htext⟩ := xE s.text
 obtain ⟨ty, hty⟩ := xE s.ty
 obtain ⟨m, hm⟩ := xE s.args.length
 obtain ⟨n, hn⟩ := xE l.length
 rw [← hop'] at x0
 rw [← hnum] at x2
 rw [← htext] at x3
 rw [← hty] at x4
 rw [← hm] at x1
 have q0 : (i : Int) < (n : Int) := by omega
 have q1 : (0 : Int) ≤ (i : Int) := by omega
 rw [← hn]
 first
 | guard_hyp t501q0
   obtain ⟨j0, t0, hj0, hji0, ht0, ha0, hat0⟩ := kah hc hs (k := 0) (by omega)
   obtain ⟨j1, t1, hj1, hji1, ht1, ha1, hat1⟩ := kah hc hs (k := 1) (by omega)
   rw [ha0, ha1] at hTS
   obtain ⟨A0, c0, hv0⟩ := h.vw ht0
   obtain ⟨A1, c1, hv1⟩ := h.vw ht1
   have HV0 := hD hv0
   have HV1 := hD hv1
   obtain ⟨ba, oa, rfl, hba, hca⟩ := hv.ar (by omega)
   have HA0 := hD (fun w' hb => (show w'.cell? ⟨ba, oa, none⟩ = some (.int .i64 j0) from hca w' hb 0 _ hj0))
   have HA1 := hD (fun w' hb => hca w' hb 1 _ hj1)
   have p0 : (0 : Int) < (m : Int) := by omega
   have p1 : (1 : Int) < (m : Int) := by omega
   have p2 : ¬ ((m : Int) < 2) := by omega
   have p3 : (j0 : Int) < (n : Int) := by omega
   have p4 : (0 : Int) ≤ (j0 : Int) := by omega
   have p5 : (j1 : Int) < (n : Int) := by omega
   have p6 : (0 : Int) ≤ (j1 : Int) := by omega
   first
   | guard_hyp t11q0
     obtain rfl : op = [99, 117, 116] := hop'.trans hop
     have hl3 : s.args.length = 3 := kae hc hs 3 (by rw [hop]; show (_ : Option Nat) = _; kernel_rfl)
     obtain ⟨j2, t2, hj2, hji2, ht2, ha2, hat2⟩ := kah hc hs (k := 2) (by omega)
     obtain ⟨A2, c2, hv2⟩ := h.vw ht2
     have HA2 := hD (fun w' hb => hca w' hb 2 _ hj2)
     have p7 : (j2 : Int) < (n : Int) := by omega
     have p8 : (0 : Int) ≤ (j2 : Int) := by omega
     have p9 : (2 : Int) < (m : Int) := by omega
     obtain ⟨top, htop⟩ := xE t2.op
     obtain ⟨tnum, htnum⟩ := xE t2.num
     obtain ⟨ttext, httext⟩ := xE t2.text
     obtain ⟨tty, htty⟩ := xE t2.ty
     obtain ⟨tm, htm⟩ := xE t2.args.length
     have HC2 : Hid (∀ w', Below w.heap.size w w' → w'.cell? ⟨b, o + j2 * 5, none⟩ = some (.string ⟨top.toArray⟩) ∧ w'.cell? ⟨b, o + j2 * 5 + 1, none⟩ = some (.slice A2 tm c2) ∧ w'.cell? ⟨b, o + j2 * 5 + 2, none⟩ = some (.int .i64 tnum) ∧ w'.cell? ⟨b, o + j2 * 5 + 3, none⟩ = some (.string ⟨ttext.toArray⟩) ∧ w'.cell? ⟨b, o + j2 * 5 + 4, none⟩ = some (.int .i64 tty)) := hD (fun w' hb => by
      obtain ⟨_, y0, y1, y2, y3, y4, _⟩ := hv2.below hb
      rw [htop, htnum, httext, htty, htm]
      exact ⟨y0, y1, y2, y3, y4⟩)
     obtain ⟨z0, hz0⟩ := xE (decide (t1.op = kab ∧ t1.num = 0))
     have HT0 : Hid (TS = Rf.addL [] (z0 && (decide (t2.op = Oz.oLen) && decide (Oz.arg t2 0 = (j0 : Int)))) (j0 : Int)) := hD (by
      rw [hTS, hop]
      rw [if_neg (by decide), if_neg (by omega)]
      rw [if_neg (by decide)]
      rw [if_neg (by decide)]
      rw [if_neg (by decide)]
      rw [if_neg (by decide)]
      rw [if_neg (by decide)]
      rw [if_neg (by decide)]
      rw [if_pos (by decide)]
      rw [ha2, hat2, kdw hat1, ← hz0])
     have HZ0 := hD hz0
     have HTM := hD htm
     by_cases hop2 : t2.op = Oz.oLen
     rotate_left
     ·
      have e0 : (top == [108, 101, 110]) = false := beq_eq_false_iff_ne.2 (by rw [htop]; exact hop2)
      have HT1 : Hid (TS = Rf.addL [] (z0 && false) (j0 : Int)) := hD (by rw [HT0.out, decide_eq_false hop2, Bool.false_and])
      clear h hc hs hil hlen hv hTS hop' hnum htext hty hm hn hop hl hl3 hj0 hj1 hj2 ha0 ha1 ha2 hat0 hat1 hat2 ht0 ht1 ht2 hv0 hv1 hv2 hca htop htnum httext htty htm hz0 hop2
      go_enter Tryz.func146, Tryz.ntmps146
      go_upto_region 3 with (fail)
      obtain ⟨w1, hw1⟩ := xE (w.alloc (.cells #[.string ⟨#[99, 117, 116]⟩, .slice (some ⟨ba, oa, none⟩) m cs, .int .i64 num, .string ⟨text.toArray⟩, .int .i64 ty] 76))
      have hb1 : Below w.heap.size w w1 := by rw [hw1]; exact kaa _ _
      have HB1 := hD hb1
      have HS1 := hD (show Blk w1 w.heap.size 76 #[.string ⟨#[99, 117, 116]⟩, .slice (some ⟨ba, oa, none⟩) m cs, .int .i64 num, .string ⟨text.toArray⟩, .int .i64 ty] by rw [hw1]; exact Blk.new _ _ _)
      have hz1 : w.heap.size + 1 ≤ w1.heap.size := by rw [hw1]; simp
      rw [← hw1]
      have s0 := HS1.out.cell 0
      have s1 := HS1.out.cell 1
      simp only [gA, gB, gC] at s0 s1
      have a0 := HA0.out w1 HB1.out
      have a1 := HA1.out w1 HB1.out
      clear hw1 x0 x1 x2 x3 x4 hb1
      have HBq := fun d => hD (kaf HB1.out d)
      go_wp2_with fail
      go_quiet (fail)
      obtain ⟨wd, hwd⟩ := xE (w1.drewN nq)
      rw [← hwd]
      have HBD : Hid (Below w.heap.size w wd) := hD (by rw [hwd]; exact kaf HB1.out _)
      have HSD : Hid (Blk wd w.heap.size 76 #[.string ⟨#[99, 117, 116]⟩, .slice (some ⟨ba, oa, none⟩) m cs, .int .i64 num, .string ⟨text.toArray⟩, .int .i64 ty]) := hD (by rw [hwd]; exact HS1.out)
      have hzd : w.heap.size + 1 ≤ wd.heap.size := by rw [hwd]; exact hz1
      clear hwd s0 s1 a0 a1
      have s0 := HSD.out.cell 0
      have s1 := HSD.out.cell 1
      simp only [gA, gB, gC] at s0 s1
      have a2 := HA2.out wd HBD.out
      obtain ⟨y0, y1, y2, y3, y4⟩ := HC2.out wd HBD.out
      go_upto_region 34 with (fail)
      obtain ⟨w2, hw2⟩ := xE (wd.alloc (.cells #[.string ⟨top.toArray⟩, .slice A2 tm c2, .int .i64 tnum, .string ⟨ttext.toArray⟩, .int .i64 tty] 76))
      have hb2 : Below w.heap.size w w2 := by rw [hw2]; exact HBD.out.alloc HBD.out.size _
      have HX2 := hD (show Blk w2 wd.heap.size 76 #[.string ⟨top.toArray⟩, .slice A2 tm c2, .int .i64 tnum, .string ⟨ttext.toArray⟩, .int .i64 tty] by rw [hw2]; exact Blk.new _ _ _)
      have hz2 : w.heap.size + 1 ≤ w2.heap.size := by rw [hw2]; simp; omega
      rw [← hw2]
      have HB2 := hD hb2
      clear hw2 hb2 y0 y1 y2 y3 y4 s0 s1 a2
      obtain ⟨_, y0, y1, y2, y3, y4, _⟩ := HV1.out.below HB2.out
      go_wp2_with fail
      refine (kcp t1 A1 t1.args.length c1 0 _).mono ?_
      rintro e w3 ⟨rfl, hb3⟩
      have HB3 := hD (HB2.out.trans (hb3.mono HB2.out.size))
      have hz3 : w.heap.size + 1 ≤ w3.heap.size := Nat.le_trans hz2 hb3.size
      have hx3 := HX2.out.below hb3 HX2.out.lt
      obtain ⟨v0, v1, v2, v3, v4, _⟩ := blk5 hx3
      rw [← HZ0.out]
      clear hb3 hx3 y0 y1 y2 y3 y4
      cases z0 with
      | false =>
       have HTS : Hid (TS = Rf.addL [] false (j0 : Int)) := hD (by rw [HT0.out]; rfl)
       exact y75
      | true =>
       have HTS : Hid (TS = Rf.addL [] false (j0 : Int)) := hD (by rw [HT1.out]; rfl)
       exact y75
     have hl2 : t2.args.length = 1 := kae hc ht2 1 (by rw [hop2]; show (_ : Option Nat) = _; kernel_rfl)
     obtain ⟨k0, u0, hk0, hkj0, _, hb0, _⟩ := kah hc ht2 (k := 0) (by omega)
     obtain ⟨bt, ot, rfl, hbt, hct⟩ := hv2.ar (by omega)
     have HK0 := hD (fun w' hb => (show w'.cell? ⟨bt, ot, none⟩ = some (.int .i64 k0) from hct w' hb 0 _ hk0))
     obtain ⟨z1, hz1'⟩ := xE (decide ((k0 : Int) = (j0 : Int)))
     have HT1 : Hid (TS = Rf.addL [] (z0 && z1) (j0 : Int)) := hD (by rw [HT0.out, decide_eq_true hop2, Bool.true_and, hb0, ← hz1'])
     have e1 : ((k0 : Int) == (j0 : Int)) = z1 := by rw [hz1']; rfl
     obtain rfl : top = [108, 101, 110] := htop.trans hop2
     have p10 : (0 : Int) < (tm : Int) := by omega
     clear h hc hs hil hlen hv hTS hop' hnum htext hty hm hn hop hl hl3 hj0 hj1 hj2 ha0 ha1 ha2 hat0 hat1 hat2 ht0 ht1 ht2 hv0 hv1 hv2 hca htop htnum httext htty htm hz0 hop2 hl2 hk0 hb0 hct hz1'
   | guard_hyp t11q1
     obtain rfl : op = [111, 114] := hop'.trans hop
     obtain ⟨z0, hz0⟩ := xE (decide ((j0 : Int) = (j1 : Int)))
     have HTS : Hid (TS = Rf.addL [] z0 (j0 : Int)) := hD (by
      rw [hTS, hop]
      rw [if_neg (by decide), if_neg (by omega)]
      rw [if_neg (by decide)]
      rw [if_neg (by decide)]
      rw [if_neg (by decide)]
      rw [if_pos (by decide)]
      rw [← hz0])
     have e1 : ((j0 : Int) == (j1 : Int)) = z0 := by rw [hz0]; rfl
     clear h hc hs hil hlen hv hTS hop' hnum htext hty hm hn hop hl hj0 hj1 ha0 ha1 hat0 hat1 ht0 ht1 hv0 hv1 hca hz0 HV0 HV1
   | guard_hyp t11q10
     obtain rfl : op = [43] := hop'.trans hop
     obtain ⟨z0, hz0⟩ := xE (decide (t1.op = kab ∧ t1.num = 0))
     obtain ⟨z1, hz1⟩ := xE (decide (t0.op = kab ∧ t0.num = 0))
     have HTS : Hid (TS = (Rf.addL (Rf.addL ([] : List Nat) z0 (j0 : Int)) z1 (j1 : Int))) := hD (by
      rw [hTS, hop]
      rw [if_neg (by decide), if_neg (by omega)]
      rw [if_pos (by decide)]
      rw [kdw hat1]
      rw [kdw hat0]
      rw [← hz0, ← hz1])
     have HZ0 := hD hz0
     have HZ1 := hD hz1
     clear h hc hs hil hlen hv hTS hop' hnum htext hty hm hn hop hl hj0 hj1 ha0 ha1 hat0 hat1 ht0 ht1 hv0 hv1 hca hz0 hz1
   | guard_hyp t11q2
     obtain rfl : op = [97, 110, 100] := hop'.trans hop
     obtain ⟨z0, hz0⟩ := xE (decide ((j0 : Int) = (j1 : Int)))
     have HTS : Hid (TS = Rf.addL [] z0 (j0 : Int)) := hD (by
      rw [hTS, hop]
      rw [if_neg (by decide), if_neg (by omega)]
      rw [if_neg (by decide)]
      rw [if_neg (by decide)]
      rw [if_neg (by decide)]
      rw [if_pos (by decide)]
      rw [← hz0])
     have e1 : ((j0 : Int) == (j1 : Int)) = z0 := by rw [hz0]; rfl
     clear h hc hs hil hlen hv hTS hop' hnum htext hty hm hn hop hl hj0 hj1 ha0 ha1 hat0 hat1 ht0 ht1 hv0 hv1 hca hz0 HV0 HV1
   | guard_hyp t11q3
     obtain rfl : op = [109, 97, 120] := hop'.trans hop
     obtain ⟨z0, hz0⟩ := xE (decide ((j0 : Int) = (j1 : Int)))
     have HTS : Hid (TS = Rf.addL [] z0 (j0 : Int)) := hD (by
      rw [hTS, hop]
      rw [if_neg (by decide), if_neg (by omega)]
      rw [if_neg (by decide)]
      rw [if_neg (by decide)]
      rw [if_neg (by decide)]
      rw [if_pos (by decide)]
      rw [← hz0])
     have e1 : ((j0 : Int) == (j1 : Int)) = z0 := by rw [hz0]; rfl
     clear h hc hs hil hlen hv hTS hop' hnum htext hty hm hn hop hl hj0 hj1 ha0 ha1 hat0 hat1 ht0 ht1 hv0 hv1 hca hz0 HV0 HV1
   | guard_hyp t11q4
     obtain rfl : op = [109, 105, 110] := hop'.trans hop
     obtain ⟨z0, hz0⟩ := xE (decide ((j0 : Int) = (j1 : Int)))
     have HTS : Hid (TS = Rf.addL [] z0 (j0 : Int)) := hD (by
      rw [hTS, hop]
      rw [if_neg (by decide), if_neg (by omega)]
      rw [if_neg (by decide)]
      rw [if_neg (by decide)]
      rw [if_neg (by decide)]
      rw [if_pos (by decide)]
      rw [← hz0])
     have e1 : ((j0 : Int) == (j1 : Int)) = z0 := by rw [hz0]; rfl
     clear h hc hs hil hlen hv hTS hop' hnum htext hty hm hn hop hl hj0 hj1 ha0 ha1 hat0 hat1 ht0 ht1 hv0 hv1 hca hz0 HV0 HV1
   | guard_hyp t11q5
     obtain rfl : op = [117, 110, 105, 111, 110] := hop'.trans hop
     obtain ⟨z0, hz0⟩ := xE (decide ((j0 : Int) = (j1 : Int)))
     have HTS : Hid (TS = Rf.addL [] z0 (j0 : Int)) := hD (by
      rw [hTS, hop]
      rw [if_neg (by decide), if_neg (by omega)]
      rw [if_neg (by decide)]
      rw [if_neg (by decide)]
      rw [if_neg (by decide)]
      rw [if_pos (by decide)]
      rw [← hz0])
     have e1 : ((j0 : Int) == (j1 : Int)) = z0 := by rw [hz0]; rfl
     clear h hc hs hil hlen hv hTS hop' hnum htext hty hm hn hop hl hj0 hj1 ha0 ha1 hat0 hat1 ht0 ht1 hv0 hv1 hca hz0 HV0 HV1
   | guard_hyp t11q6
     obtain rfl : op = [119, 105, 116, 104, 105, 110] := hop'.trans hop
     obtain ⟨z0, hz0⟩ := xE (decide ((j0 : Int) = (j1 : Int)))
     have HTS : Hid (TS = Rf.addL [] z0 (j0 : Int)) := hD (by
      rw [hTS, hop]
      rw [if_neg (by decide), if_neg (by omega)]
      rw [if_neg (by decide)]
      rw [if_neg (by decide)]
      rw [if_neg (by decide)]
      rw [if_pos (by decide)]
      rw [← hz0])
     have e1 : ((j0 : Int) == (j1 : Int)) = z0 := by rw [hz0]; rfl
     clear h hc hs hil hlen hv hTS hop' hnum htext hty hm hn hop hl hj0 hj1 ha0 ha1 hat0 hat1 ht0 ht1 hv0 hv1 hca hz0 HV0 HV1
   | guard_hyp t11q7
     obtain rfl : op = [45] := hop'.trans hop
     obtain ⟨z0, hz0⟩ := xE (decide (t1.op = kab ∧ t1.num = 0))
     have HTS : Hid (TS = (Rf.addL ([] : List Nat) z0 (j0 : Int))) := hD (by
      rw [hTS, hop]
      rw [if_neg (by decide), if_neg (by omega)]
      rw [if_neg (by decide)]
      rw [if_pos (by decide)]
      rw [kdw hat1]
      rw [← hz0])
     have HZ0 := hD hz0
     clear h hc hs hil hlen hv hTS hop' hnum htext hty hm hn hop hl hj0 hj1 ha0 ha1 hat0 hat1 ht0 ht1 hv0 hv1 hca hz0
   | guard_hyp t11q8
     obtain rfl : op = [114, 101, 112] := hop'.trans hop
     obtain ⟨z0, hz0⟩ := xE (decide (t1.op = kab ∧ t1.num = 1))
     have HTS : Hid (TS = (Rf.addL ([] : List Nat) z0 (j0 : Int))) := hD (by
      rw [hTS, hop]
      rw [if_neg (by decide), if_neg (by omega)]
      rw [if_neg (by decide)]
      rw [if_neg (by decide)]
      rw [if_neg (by decide)]
      rw [if_neg (by decide)]
      rw [if_neg (by decide)]
      rw [if_pos (by decide)]
      rw [kdw hat1]
      rw [← hz0])
     have HZ0 := hD hz0
     clear h hc hs hil hlen hv hTS hop' hnum htext hty hm hn hop hl hj0 hj1 ha0 ha1 hat0 hat1 ht0 ht1 hv0 hv1 hca hz0
   | guard_hyp t11q9
     have HTS : Hid (TS = []) := hD (by
      rw [hTS, if_neg hop, if_neg (by omega), if_neg h0, if_neg h1, if_neg h2, if_neg (by rintro (e | e | e | e | e | e); exact h3 e; exact h4 e; exact h5 e; exact h6 e; exact h7 e; exact h8 e), if_neg h9, if_neg h10, if_neg h11])
     have en : (op == [110, 111, 116]) = false := beq_eq_false_iff_ne.2 (by rw [hop']; exact hop)
     have e0 : (op == [43]) = false := beq_eq_false_iff_ne.2 (by rw [hop']; exact h0)
     have e1 : (op == [45]) = false := beq_eq_false_iff_ne.2 (by rw [hop']; exact h1)
     have e2 : (op == [42]) = false := beq_eq_false_iff_ne.2 (by rw [hop']; exact h2)
     have e3 : (op == [109, 105, 110]) = false := beq_eq_false_iff_ne.2 (by rw [hop']; exact h3)
     have e4 : (op == [109, 97, 120]) = false := beq_eq_false_iff_ne.2 (by rw [hop']; exact h4)
     have e5 : (op == [97, 110, 100]) = false := beq_eq_false_iff_ne.2 (by rw [hop']; exact h5)
     have e6 : (op == [111, 114]) = false := beq_eq_false_iff_ne.2 (by rw [hop']; exact h6)
     have e7 : (op == [117, 110, 105, 111, 110]) = false := beq_eq_false_iff_ne.2 (by rw [hop']; exact h7)
     have e8 : (op == [119, 105, 116, 104, 105, 110]) = false := beq_eq_false_iff_ne.2 (by rw [hop']; exact h8)
     have e9 : (op == [43, 43]) = false := beq_eq_false_iff_ne.2 (by rw [hop']; exact h9)
     have e10 : (op == [114, 101, 112]) = false := beq_eq_false_iff_ne.2 (by rw [hop']; exact h10)
     have e11 : (op == [99, 117, 116]) = false := beq_eq_false_iff_ne.2 (by rw [hop']; exact h11)
     clear h hc hs hil hlen hv hTS hop' hnum htext hty hm hn hop hl hj0 hj1 ha0 ha1 hat0 hat1 ht0 ht1 hv0 hv1 hca HV0 HV1 h0 h1 h2 h3 h4 h5 h6 h7 h8 h9 h10 h11
   | obtain rfl : op = [42] := hop'.trans hop
     obtain ⟨z0, hz0⟩ := xE (decide (t1.op = kab ∧ t1.num = 1))
     obtain ⟨z1, hz1⟩ := xE (decide (t0.op = kab ∧ t0.num = 1))
     have HTS : Hid (TS = (Rf.addL (Rf.addL ([] : List Nat) z0 (j0 : Int)) z1 (j1 : Int))) := hD (by
      rw [hTS, hop]
      rw [if_neg (by decide), if_neg (by omega)]
      rw [if_neg (by decide)]
      rw [if_neg (by decide)]
      rw [if_pos (by decide)]
      rw [kdw hat1]
      rw [kdw hat0]
      rw [← hz0, ← hz1])
     have HZ0 := hD hz0
     have HZ1 := hD hz1
     clear h hc hs hil hlen hv hTS hop' hnum htext hty hm hn hop hl hj0 hj1 ha0 ha1 hat0 hat1 ht0 ht1 hv0 hv1 hca hz0 hz1
   go_enter Tryz.func146, Tryz.ntmps146
   go_upto_region 3 with (fail)
   first
   | guard_hyp t11q0
     obtain ⟨w1, hw1⟩ := xE (w.alloc (.cells #[.string ⟨#[99, 117, 116]⟩, .slice (some ⟨ba, oa, none⟩) m cs, .int .i64 num, .string ⟨text.toArray⟩, .int .i64 ty] 76))
   | guard_hyp t11q1
     obtain ⟨w1, hw1⟩ := xE (w.alloc (.cells #[.string ⟨#[111, 114]⟩, .slice (some ⟨ba, oa, none⟩) m cs, .int .i64 num, .string ⟨text.toArray⟩, .int .i64 ty] 76))
   | guard_hyp t11q10
     obtain ⟨w1, hw1⟩ := xE (w.alloc (.cells #[.string ⟨#[43]⟩, .slice (some ⟨ba, oa, none⟩) m cs, .int .i64 num, .string ⟨text.toArray⟩, .int .i64 ty] 76))
   | guard_hyp t11q2
     obtain ⟨w1, hw1⟩ := xE (w.alloc (.cells #[.string ⟨#[97, 110, 100]⟩, .slice (some ⟨ba, oa, none⟩) m cs, .int .i64 num, .string ⟨text.toArray⟩, .int .i64 ty] 76))
   | guard_hyp t11q3
     obtain ⟨w1, hw1⟩ := xE (w.alloc (.cells #[.string ⟨#[109, 97, 120]⟩, .slice (some ⟨ba, oa, none⟩) m cs, .int .i64 num, .string ⟨text.toArray⟩, .int .i64 ty] 76))
   | guard_hyp t11q4
     obtain ⟨w1, hw1⟩ := xE (w.alloc (.cells #[.string ⟨#[109, 105, 110]⟩, .slice (some ⟨ba, oa, none⟩) m cs, .int .i64 num, .string ⟨text.toArray⟩, .int .i64 ty] 76))
   | guard_hyp t11q5
     obtain ⟨w1, hw1⟩ := xE (w.alloc (.cells #[.string ⟨#[117, 110, 105, 111, 110]⟩, .slice (some ⟨ba, oa, none⟩) m cs, .int .i64 num, .string ⟨text.toArray⟩, .int .i64 ty] 76))
   | guard_hyp t11q6
     obtain ⟨w1, hw1⟩ := xE (w.alloc (.cells #[.string ⟨#[119, 105, 116, 104, 105, 110]⟩, .slice (some ⟨ba, oa, none⟩) m cs, .int .i64 num, .string ⟨text.toArray⟩, .int .i64 ty] 76))
   | guard_hyp t11q7
     obtain ⟨w1, hw1⟩ := xE (w.alloc (.cells #[.string ⟨#[45]⟩, .slice (some ⟨ba, oa, none⟩) m cs, .int .i64 num, .string ⟨text.toArray⟩, .int .i64 ty] 76))
   | guard_hyp t11q8
     obtain ⟨w1, hw1⟩ := xE (w.alloc (.cells #[.string ⟨#[114, 101, 112]⟩, .slice (some ⟨ba, oa, none⟩) m cs, .int .i64 num, .string ⟨text.toArray⟩, .int .i64 ty] 76))
   | guard_hyp t11q9
     obtain ⟨w1, hw1⟩ := xE (w.alloc (.cells #[.string ⟨op.toArray⟩, .slice (some ⟨ba, oa, none⟩) m cs, .int .i64 num, .string ⟨text.toArray⟩, .int .i64 ty] 76))
   | obtain ⟨w1, hw1⟩ := xE (w.alloc (.cells #[.string ⟨#[42]⟩, .slice (some ⟨ba, oa, none⟩) m cs, .int .i64 num, .string ⟨text.toArray⟩, .int .i64 ty] 76))
   have hb1 : Below w.heap.size w w1 := by rw [hw1]; exact kaa _ _
   have HB1 := hD hb1
   first
   | guard_hyp t11q0
     have HS1 := hD (show Blk w1 w.heap.size 76 #[.string ⟨#[99, 117, 116]⟩, .slice (some ⟨ba, oa, none⟩) m cs, .int .i64 num, .string ⟨text.toArray⟩, .int .i64 ty] by rw [hw1]; exact Blk.new _ _ _)
   | guard_hyp t11q1
     have HS1 := hD (show Blk w1 w.heap.size 76 #[.string ⟨#[111, 114]⟩, .slice (some ⟨ba, oa, none⟩) m cs, .int .i64 num, .string ⟨text.toArray⟩, .int .i64 ty] by rw [hw1]; exact Blk.new _ _ _)
   | guard_hyp t11q10
     have HS1 := hD (show Blk w1 w.heap.size 76 #[.string ⟨#[43]⟩, .slice (some ⟨ba, oa, none⟩) m cs, .int .i64 num, .string ⟨text.toArray⟩, .int .i64 ty] by rw [hw1]; exact Blk.new _ _ _)
   | guard_hyp t11q2
     have HS1 := hD (show Blk w1 w.heap.size 76 #[.string ⟨#[97, 110, 100]⟩, .slice (some ⟨ba, oa, none⟩) m cs, .int .i64 num, .string ⟨text.toArray⟩, .int .i64 ty] by rw [hw1]; exact Blk.new _ _ _)
   | guard_hyp t11q3
     have HS1 := hD (show Blk w1 w.heap.size 76 #[.string ⟨#[109, 97, 120]⟩, .slice (some ⟨ba, oa, none⟩) m cs, .int .i64 num, .string ⟨text.toArray⟩, .int .i64 ty] by rw [hw1]; exact Blk.new _ _ _)
   | guard_hyp t11q4
     have HS1 := hD (show Blk w1 w.heap.size 76 #[.string ⟨#[109, 105, 110]⟩, .slice (some ⟨ba, oa, none⟩) m cs, .int .i64 num, .string ⟨text.toArray⟩, .int .i64 ty] by rw [hw1]; exact Blk.new _ _ _)
   | guard_hyp t11q5
     have HS1 := hD (show Blk w1 w.heap.size 76 #[.string ⟨#[117, 110, 105, 111, 110]⟩, .slice (some ⟨ba, oa, none⟩) m cs, .int .i64 num, .string ⟨text.toArray⟩, .int .i64 ty] by rw [hw1]; exact Blk.new _ _ _)
   | guard_hyp t11q6
     have HS1 := hD (show Blk w1 w.heap.size 76 #[.string ⟨#[119, 105, 116, 104, 105, 110]⟩, .slice (some ⟨ba, oa, none⟩) m cs, .int .i64 num, .string ⟨text.toArray⟩, .int .i64 ty] by rw [hw1]; exact Blk.new _ _ _)
   | guard_hyp t11q7
     have HS1 := hD (show Blk w1 w.heap.size 76 #[.string ⟨#[45]⟩, .slice (some ⟨ba, oa, none⟩) m cs, .int .i64 num, .string ⟨text.toArray⟩, .int .i64 ty] by rw [hw1]; exact Blk.new _ _ _)
   | guard_hyp t11q8
     have HS1 := hD (show Blk w1 w.heap.size 76 #[.string ⟨#[114, 101, 112]⟩, .slice (some ⟨ba, oa, none⟩) m cs, .int .i64 num, .string ⟨text.toArray⟩, .int .i64 ty] by rw [hw1]; exact Blk.new _ _ _)
   | guard_hyp t11q9
     have HS1 := hD (show Blk w1 w.heap.size 76 #[.string ⟨op.toArray⟩, .slice (some ⟨ba, oa, none⟩) m cs, .int .i64 num, .string ⟨text.toArray⟩, .int .i64 ty] by rw [hw1]; exact Blk.new _ _ _)
   | have HS1 := hD (show Blk w1 w.heap.size 76 #[.string ⟨#[42]⟩, .slice (some ⟨ba, oa, none⟩) m cs, .int .i64 num, .string ⟨text.toArray⟩, .int .i64 ty] by rw [hw1]; exact Blk.new _ _ _)
   have hz1 : w.heap.size + 1 ≤ w1.heap.size := by rw [hw1]; simp
   rw [← hw1]
   have s0 := HS1.out.cell 0
   have s1 := HS1.out.cell 1
   simp only [gA, gB, gC] at s0 s1
   have a0 := HA0.out w1 HB1.out
   have a1 := HA1.out w1 HB1.out
   clear hw1 x0 x1 x2 x3 x4 hb1
   have HBq := fun d => hD (kaf HB1.out d)
   first
   | (first | guard_hyp t11q0 | guard_hyp t11q9)
   | (first | guard_hyp t11q10 | guard_hyp t11q11 | guard_hyp t11q7 | guard_hyp t11q8)
     have hzq : ∀ d, w.heap.size + 1 ≤ (w1.drewN d).heap.size := fun d => hz1
     obtain ⟨_, y0, y1, y2, y3, y4, _⟩ := (HV1.out.below HB1.out)
   | have hzq : ∀ d, w.heap.size + 1 ≤ (w1.drewN d).heap.size := fun d => hz1
   go_wp2_with fail
   go_quiet (fail)
   first
   | guard_hyp t11q0
     obtain ⟨wd, hwd⟩ := xE (w1.drewN nq)
     rw [← hwd]
     have HBD : Hid (Below w.heap.size w wd) := hD (by rw [hwd]; exact kaf HB1.out _)
     have HSD : Hid (Blk wd w.heap.size 76 #[.string ⟨#[99, 117, 116]⟩, .slice (some ⟨ba, oa, none⟩) m cs, .int .i64 num, .string ⟨text.toArray⟩, .int .i64 ty]) := hD (by rw [hwd]; exact HS1.out)
     have hzd : w.heap.size + 1 ≤ wd.heap.size := by rw [hwd]; exact hz1
     clear hwd s0 s1 a0 a1
     have s0 := HSD.out.cell 0
     have s1 := HSD.out.cell 1
     simp only [gA, gB, gC] at s0 s1
     have a2 := HA2.out wd HBD.out
     obtain ⟨y0, y1, y2, y3, y4⟩ := HC2.out wd HBD.out
     go_upto_region 34 with (fail)
     obtain ⟨w2, hw2⟩ := xE (wd.alloc (.cells #[.string ⟨#[108, 101, 110]⟩, .slice (some ⟨bt, ot, none⟩) tm c2, .int .i64 tnum, .string ⟨ttext.toArray⟩, .int .i64 tty] 76))
     have hb2 : Below w.heap.size w w2 := by rw [hw2]; exact HBD.out.alloc HBD.out.size _
     have HX2 := hD (show Blk w2 wd.heap.size 76 #[.string ⟨#[108, 101, 110]⟩, .slice (some ⟨bt, ot, none⟩) tm c2, .int .i64 tnum, .string ⟨ttext.toArray⟩, .int .i64 tty] by rw [hw2]; exact Blk.new _ _ _)
     have hz2 : w.heap.size + 1 ≤ w2.heap.size := by rw [hw2]; simp; omega
     rw [← hw2]
     have HB2 := hD hb2
     clear hw2 hb2 y0 y1 y2 y3 y4 s0 s1 a2
     obtain ⟨_, y0, y1, y2, y3, y4, _⟩ := HV1.out.below HB2.out
   | skip
   go_wp2_with fail
   first
   | guard_hyp t11q0
     refine (kcp t1 A1 t1.args.length c1 0 _).mono ?_
     rintro e w3 ⟨rfl, hb3⟩
     have HB3 := hD (HB2.out.trans (hb3.mono HB2.out.size))
     have hz3 : w.heap.size + 1 ≤ w3.heap.size := Nat.le_trans hz2 hb3.size
     have hx3 := HX2.out.below hb3 HX2.out.lt
     obtain ⟨v0, v1, v2, v3, v4, _⟩ := blk5 hx3
     have k0' := HK0.out w3 HB3.out
     rw [← HZ0.out]
     clear hb3 hx3 y0 y1 y2 y3 y4
     cases z0 with
     | false =>
      have HTS : Hid (TS = Rf.addL [] false (j0 : Int)) := hD (by rw [HT0.out]; rfl)
      exact y75
     | true =>
      have HTS : Hid (TS = Rf.addL [] z1 (j0 : Int)) := hD (by rw [HT1.out]; rfl)
      go_wp2_with fail
      refine (kaZ none 0 0 [] (by omega) z1 j0 (w.heap.size + 1) _ (World.ownsRow_nil _ _ _ _) hz3).mono ?_
      exact z13
   | guard_hyp t11q10
     refine (kcp t1 A1 t1.args.length c1 0 _).mono ?_
     rintro e w2 ⟨rfl, hb2⟩
     have HB2 := hD ((HBq _).out.trans (hb2.mono (HBq _).out.size))
     have hz2' := hb2.size
     rw [← HZ0.out]
     clear y0 y1 y2 y3 y4
     have hzz2 : w.heap.size + 1 ≤ w2.heap.size := Nat.le_trans hz1 hz2'
     have HO2 : Hid (w2.ownsRow (w.heap.size + 1) 3 1 (.slice none 0 0) 0 (ntC [])) := hD (World.ownsRow_nil _ _ _ _)
     clear hb2 hz2'
     have HAD0 := hD (kaZ none 0 0 ([] : List Nat) (by omega) z0 j0 (w.heap.size + 1) w2 HO2.out hzz2)
     go_wp2_with fail
     refine HAD0.out.mono ?_
     rintro e w3 ⟨hb3, A3', n3, c3', rfl, hle3, ho3⟩
     have HB3 := hD (HB2.out.trans (hb3.mono (Nat.le_succ _)))
     have hzz3 : w.heap.size + 1 ≤ w3.heap.size := Nat.le_trans hzz2 hb3.size
     have HO3 := hD ho3
     clear hb3 ho3 HAD0
     obtain ⟨_, y0, y1, y2, y3, y4, _⟩ := (HV0.out.below HB3.out)
     go_wp2_with fail
     refine (kcp t0 A0 t0.args.length c0 0 _).mono ?_
     rintro e w4 ⟨rfl, hb4⟩
     have HB4 := hD (HB3.out.trans (hb4.mono HB3.out.size))
     have hz4' := hb4.size
     rw [← HZ1.out]
     clear y0 y1 y2 y3 y4
     have hzz4 : w.heap.size + 1 ≤ w4.heap.size := Nat.le_trans hzz3 hz4'
     have HO4 := hD (kay HO3.out hb4)
     clear hb4 hz4'
     have HAD1 := hD (kaZ A3' n3 c3' (Rf.addL ([] : List Nat) z0 (j0 : Int)) (by omega) z1 j1 (w.heap.size + 1) w4 HO4.out hzz4)
     go_wp2_with fail
     refine HAD1.out.mono ?_
     rintro e w5 ⟨hb5, A5', n5, c5', rfl, hle5, ho5⟩
     have HB5 := hD (HB4.out.trans (hb5.mono (Nat.le_succ _)))
     have hzz5 : w.heap.size + 1 ≤ w5.heap.size := Nat.le_trans hzz4 hb5.size
     have HO5 := hD ho5
     clear hb5 ho5 HAD1
     go_wp2_with fail
     go_ret
     unfold kaS
     rw [HTS.out]
     exact ⟨HB5.out, A5', n5, c5', rfl, (by have := HO5.out.1; simpa [ntC] using this.symm), (by omega), (kbA (B := 0) HO5.out).reads⟩
   | guard_hyp t11q7
     refine (kcp t1 A1 t1.args.length c1 0 _).mono ?_
     rintro e w2 ⟨rfl, hb2⟩
     have HB2 := hD ((HBq _).out.trans (hb2.mono (HBq _).out.size))
     have hz2' := hb2.size
     rw [← HZ0.out]
     clear y0 y1 y2 y3 y4
     have hzz2 : w.heap.size + 1 ≤ w2.heap.size := Nat.le_trans hz1 hz2'
     have HO2 : Hid (w2.ownsRow (w.heap.size + 1) 3 1 (.slice none 0 0) 0 (ntC [])) := hD (World.ownsRow_nil _ _ _ _)
     clear hb2 hz2'
     have HAD0 := hD (kaZ none 0 0 ([] : List Nat) (by omega) z0 j0 (w.heap.size + 1) w2 HO2.out hzz2)
     go_wp2_with fail
     refine HAD0.out.mono ?_
     rintro e w3 ⟨hb3, A3', n3, c3', rfl, hle3, ho3⟩
     have HB3 := hD (HB2.out.trans (hb3.mono (Nat.le_succ _)))
     have hzz3 : w.heap.size + 1 ≤ w3.heap.size := Nat.le_trans hzz2 hb3.size
     have HO3 := hD ho3
     clear hb3 ho3 HAD0
     go_wp2_with fail
     go_ret
     unfold kaS
     rw [HTS.out]
     exact ⟨HB3.out, A3', n3, c3', rfl, (by have := HO3.out.1; simpa [ntC] using this.symm), (by omega), (kbA (B := 0) HO3.out).reads⟩
   | guard_hyp t11q8
     refine (kcp t1 A1 t1.args.length c1 1 _).mono ?_
     rintro e w2 ⟨rfl, hb2⟩
     have HB2 := hD ((HBq _).out.trans (hb2.mono (HBq _).out.size))
     have hz2' := hb2.size
     rw [← HZ0.out]
     clear y0 y1 y2 y3 y4
     have hzz2 : w.heap.size + 1 ≤ w2.heap.size := Nat.le_trans hz1 hz2'
     have HO2 : Hid (w2.ownsRow (w.heap.size + 1) 3 1 (.slice none 0 0) 0 (ntC [])) := hD (World.ownsRow_nil _ _ _ _)
     clear hb2 hz2'
     have HAD0 := hD (kaZ none 0 0 ([] : List Nat) (by omega) z0 j0 (w.heap.size + 1) w2 HO2.out hzz2)
     go_wp2_with fail
     refine HAD0.out.mono ?_
     rintro e w3 ⟨hb3, A3', n3, c3', rfl, hle3, ho3⟩
     have HB3 := hD (HB2.out.trans (hb3.mono (Nat.le_succ _)))
     have hzz3 : w.heap.size + 1 ≤ w3.heap.size := Nat.le_trans hzz2 hb3.size
     have HO3 := hD ho3
     clear hb3 ho3 HAD0
     go_wp2_with fail
     go_ret
     unfold kaS
     rw [HTS.out]
     exact ⟨HB3.out, A3', n3, c3', rfl, (by have := HO3.out.1; simpa [ntC] using this.symm), (by omega), (kbA (B := 0) HO3.out).reads⟩
   | guard_hyp t11q9
     go_ret
     unfold kaS
     rw [HTS.out]
     exact ⟨(HBq _).out, none, 0, 0, rfl, rfl, Nat.zero_le _, ⟨rfl, fun h => absurd h (by decide)⟩⟩
   | guard_hyp t11q11
     refine (kcp t1 A1 t1.args.length c1 1 _).mono ?_
     rintro e w2 ⟨rfl, hb2⟩
     have HB2 := hD ((HBq _).out.trans (hb2.mono (HBq _).out.size))
     have hz2' := hb2.size
     rw [← HZ0.out]
     clear y0 y1 y2 y3 y4
     have hzz2 : w.heap.size + 1 ≤ w2.heap.size := Nat.le_trans hz1 hz2'
     have HO2 : Hid (w2.ownsRow (w.heap.size + 1) 3 1 (.slice none 0 0) 0 (ntC [])) := hD (World.ownsRow_nil _ _ _ _)
     clear hb2 hz2'
     have HAD0 := hD (kaZ none 0 0 ([] : List Nat) (by omega) z0 j0 (w.heap.size + 1) w2 HO2.out hzz2)
     go_wp2_with fail
     refine HAD0.out.mono ?_
     rintro e w3 ⟨hb3, A3', n3, c3', rfl, hle3, ho3⟩
     have HB3 := hD (HB2.out.trans (hb3.mono (Nat.le_succ _)))
     have hzz3 : w.heap.size + 1 ≤ w3.heap.size := Nat.le_trans hzz2 hb3.size
     have HO3 := hD ho3
     clear hb3 ho3 HAD0
     obtain ⟨_, y0, y1, y2, y3, y4, _⟩ := (HV0.out.below HB3.out)
     go_wp2_with fail
     refine (kcp t0 A0 t0.args.length c0 1 _).mono ?_
     rintro e w4 ⟨rfl, hb4⟩
     have HB4 := hD (HB3.out.trans (hb4.mono HB3.out.size))
     have hz4' := hb4.size
     rw [← HZ1.out]
     clear y0 y1 y2 y3 y4
     have hzz4 : w.heap.size + 1 ≤ w4.heap.size := Nat.le_trans hzz3 hz4'
     have HO4 := hD (kay HO3.out hb4)
     clear hb4 hz4'
     have HAD1 := hD (kaZ A3' n3 c3' (Rf.addL ([] : List Nat) z0 (j0 : Int)) (by omega) z1 j1 (w.heap.size + 1) w4 HO4.out hzz4)
     go_wp2_with fail
     refine HAD1.out.mono ?_
     rintro e w5 ⟨hb5, A5', n5, c5', rfl, hle5, ho5⟩
     have HB5 := hD (HB4.out.trans (hb5.mono (Nat.le_succ _)))
     have hzz5 : w.heap.size + 1 ≤ w5.heap.size := Nat.le_trans hzz4 hb5.size
     have HO5 := hD ho5
     clear hb5 ho5 HAD1
     go_wp2_with fail
     go_ret
     unfold kaS
     rw [HTS.out]
     exact ⟨HB5.out, A5', n5, c5', rfl, (by have := HO5.out.1; simpa [ntC] using this.symm), (by omega), (kbA (B := 0) HO5.out).reads⟩
   | refine (kaZ none 0 0 [] (by omega) z0 j0 (w.heap.size + 1) _ (World.ownsRow_nil _ _ _ _) (hzq _)).mono ?_
     rintro e w2 ⟨hb2, A2', n2, c2', rfl, hle2, ho2⟩
     have HB2 := hD ((HBq _).out.trans (hb2.mono (Nat.le_succ _)))
     have hzz2 : w.heap.size + 1 ≤ w2.heap.size := Nat.le_trans hz1 hb2.size
     have HO2 := hD ho2
     clear hb2 ho2
     go_wp2_with fail
     go_ret
     unfold kaS
     rw [HTS.out]
     exact ⟨HB2.out, A2', n2, c2', rfl, (by have := HO2.out.1; simpa [ntC] using this.symm), (by omega), (kbA (B := 0) HO2.out).reads⟩
 | first
   | guard_hyp t33q0
     obtain ⟨j0, t0, hj0, hji0, ht0, ha0, hat0⟩ := kah hc hs (k := 0) (by omega)
     obtain ⟨j1, t1, hj1, hji1, ht1, ha1, hat1⟩ := kah hc hs (k := 1) (by omega)
     rw [ha0, ha1] at hTS
     obtain ⟨A0, c0, hv0⟩ := h.vw ht0
     obtain ⟨A1, c1, hv1⟩ := h.vw ht1
     have HV0 := hD hv0
     have HV1 := hD hv1
     obtain ⟨ba, oa, rfl, hba, hca⟩ := hv.ar (by omega)
     have HA0 := hD (fun w' hb => (show w'.cell? ⟨ba, oa, none⟩ = some (.int .i64 j0) from hca w' hb 0 _ hj0))
     have HA1 := hD (fun w' hb => hca w' hb 1 _ hj1)
     have p0 : (0 : Int) < (m : Int) := by omega
     have p1 : (1 : Int) < (m : Int) := by omega
     have p2 : ¬ ((m : Int) < 2) := by omega
     have p3 : (j0 : Int) < (n : Int) := by omega
     have p4 : (0 : Int) ≤ (j0 : Int) := by omega
     have p5 : (j1 : Int) < (n : Int) := by omega
     have p6 : (0 : Int) ≤ (j1 : Int) := by omega
     obtain rfl : op = [43, 43] := hop'.trans hop
     obtain ⟨z0, hz0⟩ := xE (decide (t1.op = kai ∧ t1.text = []))
     obtain ⟨z1, hz1⟩ := xE (decide (t0.op = kai ∧ t0.text = []))
     have HTS : Hid (TS = Rf.addL (Rf.addL [] z0 (j0 : Int)) z1 (j1 : Int)) := hD (by
      rw [hTS, hop]
      rw [if_neg (by decide), if_neg (by omega)]
      rw [if_neg (by decide)]
      rw [if_neg (by decide)]
      rw [if_neg (by decide)]
      rw [if_neg (by decide)]
      rw [if_pos (by decide)]
      rw [kgF hat1, kgF hat0]
      rw [← hz0, ← hz1])
     obtain ⟨f0, hf0⟩ := xE ((t1.op == [115, 116, 114, 105, 110, 103]))
     obtain ⟨g0, hg0⟩ := xE ((t1.text == []))
     obtain ⟨f1, hf1⟩ := xE ((t0.op == [115, 116, 114, 105, 110, 103]))
     obtain ⟨g1, hg1⟩ := xE ((t0.text == []))
     have HZ0 : Hid (z0 = (f0 && g0)) := hD (by rw [hz0, hf0, hg0]; exact kjM _ _ _ _)
     have HZ1 : Hid (z1 = (f1 && g1)) := hD (by rw [hz1, hf1, hg1]; exact kjM _ _ _ _)
     have e0 : (t1.op == [115, 116, 114, 105, 110, 103]) = f0 := hf0.symm
     have e1 : (t1.text == []) = g0 := hg0.symm
     have e2 : (t0.op == [115, 116, 114, 105, 110, 103]) = f1 := hf1.symm
     have e3 : (t0.text == []) = g1 := hg1.symm
     clear h hc hs hil hlen hv hTS hop' hnum htext hty hm hn hop hl hj0 hj1 ha0 ha1 hat0 hat1 ht0 ht1 hv0 hv1 hca hz0 hz1 hf0 hg0 hf1 hg1
   | have HTS : Hid (TS = []) := hD (by rw [hTS, if_neg hop, if_pos hl])
     have e0 : (op == [110, 111, 116]) = false := beq_eq_false_iff_ne.2 (by rw [hop']; exact hop)
     have p0 : (m : Int) < 2 := by omega
     have HV := hD hv
     clear h hc hs hil hlen hv hTS hop' hnum htext hty hm hn hop hl
   go_enter Tryz.func146, Tryz.ntmps146
   go_upto_region 3 with (fail)
   first
   | guard_hyp t33q0
     obtain ⟨w1, hw1⟩ := xE (w.alloc (.cells #[.string ⟨#[43, 43]⟩, .slice (some ⟨ba, oa, none⟩) m cs, .int .i64 num, .string ⟨text.toArray⟩, .int .i64 ty] 76))
   | obtain ⟨w1, hw1⟩ := xE (w.alloc (.cells #[.string ⟨op.toArray⟩, .slice As m cs, .int .i64 num, .string ⟨text.toArray⟩, .int .i64 ty] 76))
   have hb1 : Below w.heap.size w w1 := by rw [hw1]; exact kaa _ _
   have HB1 := hD hb1
   first
   | guard_hyp t33q0
     have HS1 := hD (show Blk w1 w.heap.size 76 #[.string ⟨#[43, 43]⟩, .slice (some ⟨ba, oa, none⟩) m cs, .int .i64 num, .string ⟨text.toArray⟩, .int .i64 ty] by rw [hw1]; exact Blk.new _ _ _)
   | have HS1 := hD (show Blk w1 w.heap.size 76 #[.string ⟨op.toArray⟩, .slice As m cs, .int .i64 num, .string ⟨text.toArray⟩, .int .i64 ty] by rw [hw1]; exact Blk.new _ _ _)
   have hz1 : w.heap.size + 1 ≤ w1.heap.size := by rw [hw1]; simp
   rw [← hw1]
   have s0 := HS1.out.cell 0
   have s1 := HS1.out.cell 1
   simp only [gA, gB, gC] at s0 s1
   first
   | guard_hyp t33q0
     have a0 := HA0.out w1 HB1.out
     have a1 := HA1.out w1 HB1.out
   | skip
   clear hw1 x0 x1 x2 x3 x4 hb1
   first
   | guard_hyp t33q0
     have HBq := fun d => hD (kaf HB1.out d)
     have hzq : ∀ d, w.heap.size + 1 ≤ (w1.drewN d).heap.size := fun d => hz1
     obtain ⟨_, y0, y1, y2, y3, y4, _⟩ := (HV1.out.below HB1.out)
     cases f0 with
     | false =>
      go_wp2_with fail
      go_quiet (fail)
      go_wp2_with fail
      refine (kaZ none 0 0 [] (by omega) false j0 (w.heap.size + 1) _ (World.ownsRow_nil _ _ _ _) (hzq _)).mono ?_
      rintro e w2 ⟨hb2, A2', n2, c2', rfl, hle2, ho2⟩
      have HB2 := hD ((HBq _).out.trans (hb2.mono (Nat.le_succ _)))
      have hzz2 : w.heap.size + 1 ≤ w2.heap.size := Nat.le_trans hz1 hb2.size
      have HO2 := hD ho2
      clear hb2 ho2
      clear y0 y1 y2 y3 y4
      obtain ⟨_, y0, y1, y2, y3, y4, _⟩ := (HV0.out.below HB2.out)
      cases f1 with
      | false =>
       go_wp2_with fail
       have HTS : Hid (TS = Rf.addL (Rf.addL [] false (j0 : Int)) false (j1 : Int)) := hD (by rw [HTS.out, HZ0.out, HZ1.out]; rfl)
       refine (kaZ A2' n2 c2' (Rf.addL [] false (j0 : Int)) (by omega) false j1 (w.heap.size + 1) _ HO2.out hzz2).mono ?_
       exact z2
      | true =>
       go_wp2_with fail
       have HTS : Hid (TS = Rf.addL (Rf.addL [] false (j0 : Int)) g1 (j1 : Int)) := hD (by rw [HTS.out, HZ0.out, HZ1.out]; rfl)
       refine (kaZ A2' n2 c2' (Rf.addL [] false (j0 : Int)) (by omega) g1 j1 (w.heap.size + 1) _ HO2.out hzz2).mono ?_
       exact z2
     | true =>
      go_wp2_with fail
      go_quiet (fail)
      go_wp2_with fail
      refine (kaZ none 0 0 [] (by omega) g0 j0 (w.heap.size + 1) _ (World.ownsRow_nil _ _ _ _) (hzq _)).mono ?_
      rintro e w2 ⟨hb2, A2', n2, c2', rfl, hle2, ho2⟩
      have HB2 := hD ((HBq _).out.trans (hb2.mono (Nat.le_succ _)))
      have hzz2 : w.heap.size + 1 ≤ w2.heap.size := Nat.le_trans hz1 hb2.size
      have HO2 := hD ho2
      clear hb2 ho2
      clear y0 y1 y2 y3 y4
      obtain ⟨_, y0, y1, y2, y3, y4, _⟩ := (HV0.out.below HB2.out)
      cases f1 with
      | false =>
       go_wp2_with fail
       have HTS : Hid (TS = Rf.addL (Rf.addL [] g0 (j0 : Int)) false (j1 : Int)) := hD (by rw [HTS.out, HZ0.out, HZ1.out]; rfl)
       refine (kaZ A2' n2 c2' (Rf.addL [] g0 (j0 : Int)) (by omega) false j1 (w.heap.size + 1) _ HO2.out hzz2).mono ?_
       exact z2
      | true =>
       go_wp2_with fail
       have HTS : Hid (TS = Rf.addL (Rf.addL [] g0 (j0 : Int)) g1 (j1 : Int)) := hD (by rw [HTS.out, HZ0.out, HZ1.out]; rfl)
       refine (kaZ A2' n2 c2' (Rf.addL [] g0 (j0 : Int)) (by omega) g1 j1 (w.heap.size + 1) _ HO2.out hzz2).mono ?_
       exact z2
   | go_wp2_with fail
     go_ret
     unfold kaS
     rw [HTS.out]
     exact ⟨HB1.out, none, 0, 0, rfl, rfl, Nat.zero_le _, ⟨rfl, fun h => absurd h (by decide)⟩⟩) : P := h
theorem y1 {P : Prop} (h : P := by
 have t501q0 := True.intro
 exact y58) : P := h
def ntC (xs : List Nat) : List Value := xs.map fun n : Nat => Value.int .i64 (n : Int)
def kaS (w : World) (ts : List Nat) (e : Ending) (w' : World) : Prop := Below w.heap.size w w' ∧ ∃ A n c, e = .returned (.slice A n c) ∧ n = ts.length ∧ n ≤ 2 ∧ Reads w' w'.heap.size 1 A n (ntC ts)
theorem kaZ (A : Option Addr) (n c : Nat) (xs : List Nat) (hn : n ≤ 100) (z : Bool) (j : Nat) (base : Nat) (w : World) (ho : w.ownsRow base 3 1 (.slice A n c) n (ntC xs)) (hb : base ≤ w.heap.size) :
  Calls Tryz.prog 180 #[.slice A n c, .bool z, .int .i64 j] w fun e w' => Below base w w' ∧ ∃ A' n' c', e = .returned (.slice A' n' c') ∧ n' ≤ n + 1 ∧ w'.ownsRow base 3 1 (.slice A' n' c') n' (ntC (Rf.addL xs z (j : Int))) := by
 cases z with
 | false =>
  have HO := hD ho
  clear ho
  go_enter Tryz.func180, Tryz.ntmps180
  go_wp2_with fail
  go_ret
  exact ⟨Below.refl _ _, A, n, c, rfl, Nat.le_succ _, HO.out⟩
 | true =>
  have HO := hD ho
  have hlo : ∀ q, (Value.slice A n c).ownBlock = some q → base ≤ q := fun q hq => (kaq ho hq).1
  have ho4 := ho.alloc (.cells #[.int .i64 j] 3)
  have hrr : Reads (w.alloc (.cells #[.int .i64 j] 3)) (w.heap.size + 1) 1 (some ⟨w.heap.size, 0, none⟩) 1 [.int .i64 j] := Reads.of_alloc w #[.int .i64 j] 3 (by omega) rfl
  have hone : ∀ u ∈ ([.int .i64 j] : List Value), u.oneCell' = true := by simp [Value.oneCell']
  have hq1 : n + 1 ≤ maxLen := by unfold maxLen; omega
  have hq2 : (n + 1) * 8 ≤ 140737488355328 := by omega
  have hq3 : base ≤ (w.alloc (.cells #[.int .i64 j] 3)).heap.size := by simp; omega
  have HB := hD hb
  have HLO := hD hlo
  obtain ⟨i1, hinf1, hz10, hz11, hz12⟩ := info_parts kcK
  have HX : Hid (ntC (Rf.addL xs true (j : Int)) = ntC xs ++ [.int .i64 j]) := hD (by unfold Rf.addL ntC; simp)
  clear ho hlo
  go_enter Tryz.func180, Tryz.ntmps180
  go_wp2_with (at_builtin; refine kam _ rfl (.tmp 8) (.tmp 10) 47 rfl base 3 i1 (.int .i64 0) 1 8 Tryz.underlying47 hinf1 hz10 hz11 hz12 rfl (by decide) (.slice A n c) n (ntC xs) rfl ho4 _ _ _ _ [.int .i64 j] rfl hrr hone hq1 hq2 hq3 ?_)
  intro v5 w5 hown5 hg5 hv5
  obtain ⟨A5, c5, rfl⟩ := kak hown5
  have HO5 : Hid (w5.ownsRow base 3 1 (.slice A5 (n + 1) c5) (n + 1) (ntC (Rf.addL xs true (j : Int)))) := hD (by rw [HX.out]; exact hown5)
  have hb5 := (((Below.refl base w).alloc hb (.cells #[.int .i64 j] 3)).grown hg5 hq3 (fun q e => HLO.out q e))
  have HB5 := hD hb5
  clear hown5 hg5 hv5 hb5 ho4 hrr hone hq1 hq2 hq3 hinf1 hz10 hz11 hz12
  go_wp2_with fail
  go_ret
  exact ⟨HB5.out, A5, n + 1, c5, rfl, Nat.le_refl _, HO5.out⟩
theorem kdw {l : List St} {j : Nat} {t : St} (h : Oz.at_ l (j : Int) = t) (m : Int) : Oz.isR l (j : Int) m = decide (t.op = kab ∧ t.num = m) := by unfold Oz.isR; rw [h]
theorem kgF {l : List St} {j : Nat} {t : St} (h : Oz.at_ l (j : Int) = t) : Oz.emptyR l (j : Int) = decide (t.op = kai ∧ t.text = []) := by unfold Oz.emptyR; rw [h]
theorem tg_add (b o c : Nat) (l : List St) (i : Nat) (s : St) (w : World) (h : ArgPl w (some ⟨b, o, none⟩) l) (hc : kac l = 0) (hs : l[i]? = some s) (hop : s.op = [43]) (hl : 2 ≤ s.args.length) :
  Calls Tryz.prog 146 #[.slice (some ⟨b, o, none⟩) l.length c, .int .i64 i] w (kaS w (Rf.targetsL l i)) := by
 have t11q10 := True.intro
 exact y1
theorem tg_sub (b o c : Nat) (l : List St) (i : Nat) (s : St) (w : World) (h : ArgPl w (some ⟨b, o, none⟩) l) (hc : kac l = 0) (hs : l[i]? = some s) (hop : s.op = [45]) (hl : 2 ≤ s.args.length) :
  Calls Tryz.prog 146 #[.slice (some ⟨b, o, none⟩) l.length c, .int .i64 i] w (kaS w (Rf.targetsL l i)) := by
 have t11q7 := True.intro
 exact y1
theorem tg_mul (b o c : Nat) (l : List St) (i : Nat) (s : St) (w : World) (h : ArgPl w (some ⟨b, o, none⟩) l) (hc : kac l = 0) (hs : l[i]? = some s) (hop : s.op = [42]) (hl : 2 ≤ s.args.length) :
  Calls Tryz.prog 146 #[.slice (some ⟨b, o, none⟩) l.length c, .int .i64 i] w (kaS w (Rf.targetsL l i)) := by
 have t11q11 := True.intro
 exact y1
theorem tg_rep (b o c : Nat) (l : List St) (i : Nat) (s : St) (w : World) (h : ArgPl w (some ⟨b, o, none⟩) l) (hc : kac l = 0) (hs : l[i]? = some s) (hop : s.op = [114, 101, 112]) (hl : 2 ≤ s.args.length) :
  Calls Tryz.prog 146 #[.slice (some ⟨b, o, none⟩) l.length c, .int .i64 i] w (kaS w (Rf.targetsL l i)) := by
 have t11q8 := True.intro
 exact y1
end Go.Proofs.YtamhdmkolfmmdaaGreatDoor
