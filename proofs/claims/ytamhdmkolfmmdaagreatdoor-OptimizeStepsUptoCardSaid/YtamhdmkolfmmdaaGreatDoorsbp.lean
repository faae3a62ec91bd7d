/- The walk of the document's rule common (printed by gen_rwu.py). The walk of the document's rule firstfind (printed by gen_rwu.py). The walk of the document's rule lensum (printed by gen_rwu.py). The walk of the document's rule lenrep (printed by gen_rwu.py). The walk of the document's equal. The walk of the document's rule share (printed by gen_rwu.py). -/
import Derived.Test.YtamhdmkolfmmdaaGreatDoorsbo
import Derived.BigQuiet
import Derived.Test.YtamhdmkolfmmdaaGreatDoorsaa
import Derived.Test.YtamhdmkolfmmdaaGreatDoorsan
import Derived.Test.YtamhdmkolfmmdaaGreatDoorsbf
import Derived.Test.YtamhdmkolfmmdaaGreatDoorsbh
import Derived.Lib.QuietBelow
set_option linter.unusedVariables false
set_option linter.unusedSimpArgs false
namespace Go.Proofs.YtamhdmkolfmmdaaGreatDoor
open Go.RowKit
set_option maxRecDepth 100000
set_option maxHeartbeats 8000000
theorem kiI (A : Option Addr) (c : Nat) (l : List St) (i : Nat) (s : St) (w : World) (h : ArgPl w A l) (hcap : l.length ≤ c) (hc : kac l = 0) (hs : l[i]? = some s) :
  Calls Tryz.prog 103 #[.slice A l.length c, .int .i64 i] w (kal w (Oz.commonR l i)) := by
 have hil := (gH hs).1
 have _ := hcap
 obtain ⟨b, o, rfl⟩ := h.base (by omega)
 have hbn := kc6 hc
 obtain ⟨R, hR⟩ := xE (Oz.commonR l i)
 rw [← hR]
 unfold Oz.commonR at hR
 rw [kad hs] at hR
 dsimp only at hR
 have hlen := hbn.1
 obtain ⟨As, cs, hv⟩ := h.vw hs
 have x0 := hv.x0
 have x1 := hv.x1
 have x2 := hv.x2
 have x3 := hv.x3
 have x4 := hv.x4
 obtain ⟨op, hop⟩ := xE s.op
 obtain ⟨num, hnum⟩ := xE s.num
 obtain ⟨text, htext⟩ := xE s.text
 obtain ⟨ty, hty⟩ := xE s.ty
 obtain ⟨m, hm⟩ := xE s.args.length
 obtain ⟨n, hn⟩ := xE l.length
 rw [← hop] at x0
 rw [← hnum] at x2
 rw [← htext] at x3
 rw [← hty] at x4
 rw [← hm] at x1
 have q0 : (i : Int) < (n : Int) := by omega
 have q1 : (0 : Int) ≤ (i : Int) := by omega
 have HB1 := hD (kaa w (.cells #[.string ⟨op.toArray⟩, .slice As m cs, .int .i64 num, .string ⟨text.toArray⟩, .int .i64 ty] 76))
 have HS1 := hD (Blk.new w 76 #[.string ⟨op.toArray⟩, .slice As m cs, .int .i64 num, .string ⟨text.toArray⟩, .int .i64 ty])
 by_cases h0 : op = Oz.oCommon
 rotate_left
 ·
  have HRN : Hid (R = none) := hD (by rw [hR, if_neg (fun e => h0 (by rw [hop]; exact e.1))])
  have e0 : (op == [99, 111, 109, 109, 111, 110]) = false := beq_eq_false_iff_ne.2 h0
  rw [← hn]
  clear h hcap hc hs hbn hR hv hop hnum htext hty hm hn h0
  go_enter Tryz.func103, Tryz.ntmps103
  go_upto_region 2 with (fail)
  obtain ⟨w1, hw1⟩ := xE (w.alloc (.cells #[.string ⟨op.toArray⟩, .slice As m cs, .int .i64 num, .string ⟨text.toArray⟩, .int .i64 ty] 76))
  rw [← hw1] at HB1 HS1 ⊢
  have s0 := HS1.out.cell 0
  simp only [gA, gB] at s0
  clear hw1 x0 x1 x2 x3 x4
  go_quiet (fail)
  go_wp2_with fail
  go_ret2
  unfold kal
  rw [HRN.out]
  exact ⟨kaf HB1.out _, rfl⟩
 have hl2 : s.args.length = 2 := kae hc hs 2 (by rw [← hop, h0]; show (_ : Option Nat) = _; kernel_rfl)
 obtain ⟨j0, t0, hj0, hji0, _, ha0, _⟩ := kah hc hs (k := 0) (by omega)
 obtain ⟨j1, t1, hj1, hji1, _, ha1, _⟩ := kah hc hs (k := 1) (by omega)
 rw [ha0, ha1] at hR
 obtain ⟨ba, oa, rfl, hba, hca⟩ := hv.ar (by omega)
 have HA0 := hD (fun w' hb => (show w'.cell? ⟨ba, oa, none⟩ = some (.int .i64 j0) from hca w' hb 0 _ hj0))
 have HA1 := hD (fun w' hb => hca w' hb 1 _ hj1)
 have p0 : (0 : Int) < (m : Int) := by omega
 have p1 : (1 : Int) < (m : Int) := by omega
 by_cases h1 : j0 = j1
 rotate_left
 ·
  have HRN : Hid (R = none) := hD (by rw [hR, if_neg (fun e => h1 (by have := e.2; omega))])
  have e1 : ((j0 : Int) == (j1 : Int)) = false := beq_eq_false_iff_ne.2 (by omega)
  rw [← hn]
  obtain rfl : op = [99, 111, 109, 109, 111, 110] := h0
  clear h hcap hc hs hbn hR hv hop hnum htext hty hm hn h1 hj0 hj1 ha0 ha1 hca hl2
  go_enter Tryz.func103, Tryz.ntmps103
  go_upto_region 2 with (fail)
  obtain ⟨w1, hw1⟩ := xE (w.alloc (.cells (#[.string ⟨#[99, 111, 109, 109, 111, 110]⟩, .slice (some ⟨ba, oa, none⟩) m cs, .int .i64 num, .string ⟨text.toArray⟩, .int .i64 ty]) 76))
  have HS1 : Hid (Blk w1 w.heap.size 76 (#[.string ⟨#[99, 111, 109, 109, 111, 110]⟩, .slice (some ⟨ba, oa, none⟩) m cs, .int .i64 num, .string ⟨text.toArray⟩, .int .i64 ty])) := hD (by rw [hw1]; exact HS1.out)
  have HB1 : Hid (Below w.heap.size w w1) := hD (by rw [hw1]; exact HB1.out)
  rw [← hw1]
  have s0 := HS1.out.cell 0
  have s1 := HS1.out.cell 1
  simp only [gA, gB, gC] at s0 s1
  have a0 := HA0.out w1 HB1.out
  have a1 := HA1.out w1 HB1.out
  clear hw1 x0 x1 x2 x3 x4
  go_quiet (fail)
  go_wp2_with fail
  go_ret2
  unfold kal
  rw [HRN.out]
  exact ⟨kaf HB1.out _, rfl⟩
 obtain ⟨LR, hLR⟩ := xE (l.set i (Oz.mk Oz.oLen [(j0 : Int)] 0 [] 1))
 have HRN : Hid (R = some LR) := hD (by rw [hR, if_pos ⟨by rw [← hop]; exact h0, by rw [h1]⟩, hLR])
 have e1 : ((j0 : Int) == (j1 : Int)) = true := beq_iff_eq.2 (by omega)
 have hwi : ∀ w1, Below w.heap.size w w1 → Calls Tryz.prog 144 #[.slice (some ⟨b, o, none⟩) l.length c, .int .i64 i, .agg #[.string ⟨#[108, 101, 110]⟩, .slice (some ⟨w1.heap.size, 0, none⟩) 1 1, .int .i64 0, .string ⟨#[]⟩, .int .i64 1]] (w1.alloc (.cells #[.int .i64 j0] 3)) (kbd (w1.alloc (.cells #[.int .i64 j0] 3)) LR) := fun w1 hb1 => by
  rw [hLR]
  exact kd9 b o c l i [108, 101, 110] [(j0 : Int)] 0 [] 1 w1 (h.below hb1) (hbn.bd (by omega)) hil #[.int .i64 j0] rfl 1 rfl
 rw [← hn] at hwi ⊢
 have HWI := hD hwi
 obtain rfl : op = [99, 111, 109, 109, 111, 110] := h0
 clear h hcap hc hs hbn hR hv hop hnum htext hty hm hn h1 hj0 hj1 ha0 ha1 hca hwi hLR hl2
 go_enter Tryz.func103, Tryz.ntmps103
 go_upto_region 2 with (fail)
 obtain ⟨w1, hw1⟩ := xE (w.alloc (.cells (#[.string ⟨#[99, 111, 109, 109, 111, 110]⟩, .slice (some ⟨ba, oa, none⟩) m cs, .int .i64 num, .string ⟨text.toArray⟩, .int .i64 ty]) 76))
 have HS1 : Hid (Blk w1 w.heap.size 76 (#[.string ⟨#[99, 111, 109, 109, 111, 110]⟩, .slice (some ⟨ba, oa, none⟩) m cs, .int .i64 num, .string ⟨text.toArray⟩, .int .i64 ty])) := hD (by rw [hw1]; exact HS1.out)
 have HB1 : Hid (Below w.heap.size w w1) := hD (by rw [hw1]; exact HB1.out)
 rw [← hw1]
 have s0 := HS1.out.cell 0
 have s1 := HS1.out.cell 1
 simp only [gA, gB, gC] at s0 s1
 have a0 := HA0.out w1 HB1.out
 have a1 := HA1.out w1 HB1.out
 clear hw1 x0 x1 x2 x3 x4
 have HW1 := fun d => hD (HWI.out (w1.drewN d) (kaf HB1.out d))
 have HBE := fun d => hD ((kaf HB1.out d).alloc (kaf HB1.out d).size (.cells #[.int .i64 j0] 3))
 go_quiet (fail)
 go_wp2_with fail
 refine (HW1 _).out.mono ?_
 rintro e wz ⟨hbz, Az, cz, he, hcz, hpz⟩
 have HBZ := hD ((HBE _).out.trans (hbz.mono (HBE _).out.size))
 obtain ⟨mz, hmz⟩ := xE LR.length
 rw [← hmz] at he
 subst he
 have HPZ := hD hpz
 have HCZ := hD hcz
 have HMZ := hD hmz
 clear hbz hpz hcz hmz
 go_wp2_with fail
 go_ret2
 unfold kal
 rw [HRN.out]
 exact ⟨HBZ.out, Az, cz, by rw [HMZ.out]; rfl, HCZ.out, HPZ.out⟩
theorem kf6 (A : Option Addr) (c : Nat) (l : List St) (i : Nat) (s : St) (w : World) (h : ArgPl w A l) (hcap : l.length ≤ c) (hc : kac l = 0) (hs : l[i]? = some s) :
  Calls Tryz.prog 105 #[.slice A l.length c, .int .i64 i] w (kal w (Rf.firstFindL l i)) := by
 have hil := (gH hs).1
 have _ := hcap
 obtain ⟨b, o, rfl⟩ := h.base (by omega)
 have hbn := kc6 hc
 have hlen := hbn.1
 have hne : s.op = Oz.oFirst → 0 < s.args.length := fun e => by
  obtain ⟨o', f⟩ := ka2 hc hs
  have h1 := f.op
  rw [e] at h1
  have h2 : o'.args.length ≠ 0 := by
   have h3 : (opR Oz.oFirst).map (fun o => decide (o.args.length = 0)) = some false := by show (_ : Option Bool) = _; kernel_rfl
   rw [h1] at h3
   exact of_decide_eq_false (Option.some.inj h3)
  rw [f.len]
  omega
 obtain ⟨R, hR⟩ := xE (Rf.firstFindL l i)
 rw [← hR]
 unfold Rf.firstFindL at hR
 have hov := kdt b o c l i s Oz.oFirst Oz.oFind w h hc hs hne
 obtain ⟨O, hO⟩ := xE (Rf.overL l i Oz.oFirst Oz.oFind)
 rw [← hO] at hov hR
 obtain ⟨n, hn⟩ := xE l.length
 have HN := hD hn
 have HB0 := hD (Below.refl w.heap.size w)
 cases O with
 | none =>
  have HRN : Hid (R = none) := hD hR
  have HOV := hD (show Calls Tryz.prog 149 #[.slice (some ⟨b, o, none⟩) l.length c, .int .i64 i, .string ⟨#[102, 105, 114, 115, 116]⟩, .string ⟨#[102, 105, 110, 100]⟩] w fun e w' => e = .returned (.int .i64 (-1)) ∧ Below w.heap.size w w' from hov)
  rw [← hn] at HOV ⊢
  clear h hcap hc hs hil hbn hne hR hov hO hn
  go_enter Tryz.func105, Tryz.ntmps105
  exact z8
 | some j =>
  obtain ⟨h0, t, ht, hji, htb, hj, ha, hat⟩ := keH hc hs hne hO.symm
  dsimp only at hR
  rw [hat] at hR
  have HOV := hD (show Calls Tryz.prog 149 #[.slice (some ⟨b, o, none⟩) l.length c, .int .i64 i, .string ⟨#[102, 105, 114, 115, 116]⟩, .string ⟨#[102, 105, 110, 100]⟩] w fun e w' => e = .returned (.int .i64 (j : Int)) ∧ Below w.heap.size w w' from hov)
  exact y78
theorem kiB (A : Option Addr) (c : Nat) (l : List St) (i : Nat) (s : St) (w : World) (h : ArgPl w A l) (hcap : l.length ≤ c) (hc : kac l = 0) (hs : l[i]? = some s) :
  Calls Tryz.prog 107 #[.slice A l.length c, .int .i64 i] w (kal w (Rf.lenSumL l i)) := by
 have t18q0 := True.intro
 exact y6
theorem kiC (A : Option Addr) (c : Nat) (l : List St) (i : Nat) (s : St) (w : World) (h : ArgPl w A l) (hcap : l.length ≤ c) (hc : kac l = 0) (hs : l[i]? = some s) :
  Calls Tryz.prog 108 #[.slice A l.length c, .int .i64 i] w (kal w (Rf.lenRepL l i)) := by
 exact y6
def EqRel (w : World) (c1 c2 : Array Value) (xs ys : List Int) (f : Nat) (i : Value) (wr : World) : Prop := ∃ k : Nat, i = .int .i64 k ∧ k ≤ xs.length ∧ xs.length - k < f ∧ Hid (xs.take k = ys.take k) ∧ Hid (Blk wr w.heap.size 76 c1) ∧ Hid (Blk wr (w.heap.size + 1) 76 c2) ∧ Hid (Below w.heap.size w wr)
theorem take_ne {xs ys : List Int} {k : Nat} {a b : Int} (ha : xs[k]? = some a) (hb : ys[k]? = some b) (h : a ≠ b) : xs ≠ ys := fun e => by
 subst e
 rw [ha] at hb
 injection hb with hb
 exact h hb
theorem kkM (s t : St) : Rf.equalL s t = decide (s.op = t.op ∧ s.num = t.num ∧ s.text = t.text ∧ s.args = t.args) := rfl
theorem kl1 (s t : St) (As At : Option Addr) (cs ct : Nat) (w : World) (hrs : Reads w w.heap.size 1 As s.args.length (s.args.map (Value.int .i64))) (hrt : Reads w w.heap.size 1 At t.args.length (t.args.map (Value.int .i64))) (hal : s.args.length ≤ 100) :
  Calls Tryz.prog 142 #[.agg #[.string ⟨s.op.toArray⟩, .slice As s.args.length cs, .int .i64 s.num, .string ⟨s.text.toArray⟩, .int .i64 s.ty], .agg #[.string ⟨t.op.toArray⟩, .slice At t.args.length ct, .int .i64 t.num, .string ⟨t.text.toArray⟩, .int .i64 t.ty]] w fun e w' => e = .returned (.bool (Rf.equalL s t)) ∧ Below w.heap.size w w' := by
 obtain ⟨r, hr⟩ := xE (Rf.equalL s t)
 rw [← hr]
 rw [kkM] at hr
 have HRS := hD hrs
 have HRT := hD hrt
 obtain ⟨op, xs, num, text, ty⟩ := s
 obtain ⟨op2, ys, num2, text2, ty2⟩ := t
 dsimp only at *
 have HR := hD hr
 have HX0 := hD ((Blk.new w 76 #[.string ⟨op.toArray⟩, .slice As xs.length cs, .int .i64 num, .string ⟨text.toArray⟩, .int .i64 ty]).alloc (.cells #[.string ⟨op2.toArray⟩, .slice At ys.length ct, .int .i64 num2, .string ⟨text2.toArray⟩, .int .i64 ty2] 76))
 have HX1 := hD (show Blk ((w.alloc (.cells #[.string ⟨op.toArray⟩, .slice As xs.length cs, .int .i64 num, .string ⟨text.toArray⟩, .int .i64 ty] 76)).alloc (.cells #[.string ⟨op2.toArray⟩, .slice At ys.length ct, .int .i64 num2, .string ⟨text2.toArray⟩, .int .i64 ty2] 76)) (w.heap.size + 1) 76 #[.string ⟨op2.toArray⟩, .slice At ys.length ct, .int .i64 num2, .string ⟨text2.toArray⟩, .int .i64 ty2] by
  have := Blk.new (w.alloc (.cells #[.string ⟨op.toArray⟩, .slice As xs.length cs, .int .i64 num, .string ⟨text.toArray⟩, .int .i64 ty] 76)) 76 #[.string ⟨op2.toArray⟩, .slice At ys.length ct, .int .i64 num2, .string ⟨text2.toArray⟩, .int .i64 ty2]
  simpa using this)
 have HB0 := hD (show Below w.heap.size w ((w.alloc (.cells #[.string ⟨op.toArray⟩, .slice As xs.length cs, .int .i64 num, .string ⟨text.toArray⟩, .int .i64 ty] 76)).alloc (.cells #[.string ⟨op2.toArray⟩, .slice At ys.length ct, .int .i64 num2, .string ⟨text2.toArray⟩, .int .i64 ty2] 76)) from (kaa w _).alloc (by simp) _)
 clear hrs hrt hr
 by_cases h0 : op = op2
 rotate_left
 ·
  have e0 : (op == op2) = false := beq_eq_false_iff_ne.2 h0
  have HF : Hid (r = false) := hD (by rw [HR.out]; exact decide_eq_false (fun e => h0 e.1))
  clear h0 HX0 HX1
  go_enter Tryz.func142, Tryz.ntmps142
  go_wp2_with fail
  go_ret
  exact ⟨by rw [HF.out]; rfl, HB0.out⟩
 subst h0
 by_cases h1 : num = num2
 rotate_left
 ·
  have e0 : (num == num2) = false := beq_eq_false_iff_ne.2 h1
  have e1 : (num != num2) = true := by simpa using h1
  have e2 : decide (num = num2) = false := decide_eq_false h1
  have HF : Hid (r = false) := hD (by rw [HR.out]; exact decide_eq_false (fun e => h1 e.2.1))
  clear h1 HX0 HX1
  go_enter Tryz.func142, Tryz.ntmps142
  go_wp2_with fail
  go_ret
  exact ⟨by rw [HF.out]; rfl, HB0.out⟩
 subst h1
 by_cases h2 : text = text2
 rotate_left
 ·
  have e0 : (text == text2) = false := beq_eq_false_iff_ne.2 h2
  have HF : Hid (r = false) := hD (by rw [HR.out]; exact decide_eq_false (fun e => h2 e.2.2.1))
  clear h2 HX0 HX1
  go_enter Tryz.func142, Tryz.ntmps142
  go_wp2_with fail
  go_ret
  exact ⟨by rw [HF.out]; rfl, HB0.out⟩
 subst h2
 by_cases h3 : xs.length = ys.length
 rotate_left
 ·
  have e0 : ((xs.length : Int) == (ys.length : Int)) = false := beq_eq_false_iff_ne.2 (by omega)
  have HF : Hid (r = false) := hD (by rw [HR.out]; exact decide_eq_false (fun e => h3 (by rw [e.2.2.2])))
  clear h3 HX0 HX1
  go_enter Tryz.func142, Tryz.ntmps142
  go_wp2_with fail
  go_ret
  exact ⟨by rw [HF.out]; rfl, HB0.out⟩
 obtain ⟨n, hn⟩ := xE xs.length
 have hn2 : ys.length = n := by omega
 rw [← hn] at HRS HX0 HX1 HB0 hal ⊢
 rw [hn2] at HRT HX0 HX1 HB0 ⊢
 have HN := hD hn
 have HN2 := hD hn2
 have HT0 : Hid (xs.take 0 = ys.take 0) := hD (by simp)
 have HRR : Hid (r = decide (xs = ys)) := hD (by rw [HR.out]; simp)
 clear hn hn2 h3 HR
 go_enter Tryz.func142, Tryz.ntmps142
 go_wp2_with fail
 go_loopg [5, 37] (n + 1) (fun f _ i wr => EqRel w #[.string ⟨op.toArray⟩, .slice As n cs, .int .i64 num, .string ⟨text.toArray⟩, .int .i64 ty] #[.string ⟨op.toArray⟩, .slice At n ct, .int .i64 num, .string ⟨text.toArray⟩, .int .i64 ty2] xs ys f i wr)
 case atStart => exact ⟨0, rfl, by omega, by have := HN.out; omega, HT0, HX0, HX1, HB0⟩
 case round =>
  clear HX0 HX1 HB0 HT0
  obtain ⟨k, rfl, hk, hkf, HT, HX0, HX1, HB⟩ := hrel
  rename_i wr
  rw [← HN.out] at hk hkf
  obtain ⟨f, rfl⟩ : ∃ f, gk = f + 1 := ⟨gk - 1, by omega⟩
  by_cases hlt : k < n
  ·
   obtain ⟨a, ha⟩ : ∃ a, xs[k]? = some a := ⟨xs[k]'(by rw [← HN.out]; exact hlt), List.getElem?_eq_getElem _⟩
   obtain ⟨b, hb⟩ : ∃ b, ys[k]? = some b := ⟨ys[k]'(by rw [HN2.out]; exact hlt), List.getElem?_eq_getElem _⟩
   obtain ⟨ba, oa, rfl, hba, hca⟩ := (HRS.out.below HB.out).form (by omega)
   obtain ⟨bb, ob, rfl, hbb, hcb⟩ := (HRT.out.below HB.out).form (by omega)
   have y1 := hca k (.int .i64 a) (by rw [List.getElem?_map, ha]; rfl)
   have y2 := hcb k (.int .i64 b) (by rw [List.getElem?_map, hb]; rfl)
   have x1 := HX0.out.cell 1
   have x2 := HX1.out.cell 1
   simp only [gA, gB, gC] at x1 x2
   have p0 : (k : Int) < (n : Int) := by omega
   have p1 : (0 : Int) ≤ (k : Int) := by omega
   by_cases hab : a = b
   ·
    subst hab
    have HT2 : Hid (xs.take (k + 1) = ys.take (k + 1)) := hD (by rw [List.take_add_one, List.take_add_one, ha, hb, HT.out])
    clear ha hb hca hcb
    go_wp2_with fail
    go_quiet (fail)
    go_wp2_with fail
    go_roundg f
    case measure => omega
    case rel => exact ⟨k + 1, by go_num, by rw [← HN.out]; omega, by rw [← HN.out]; omega, HT2, hD (HX0.out.drewN _), hD (HX1.out.drewN _), hD (kaf HB.out _)⟩
   ·
    have e0 : (a == b) = false := beq_eq_false_iff_ne.2 hab
    have HF : Hid (r = false) := hD (by rw [HRR.out]; exact decide_eq_false (take_ne ha hb hab))
    clear ha hb hca hcb hab
    go_wp2_with fail
    go_quiet (fail)
    go_wp2_with fail
    go_ret
    exact ⟨by rw [HF.out]; rfl, kaf HB.out _⟩
  ·
   have hkn : k = n := by omega
   subst hkn
   have p0 : ¬ ((k : Int) < (k : Int)) := by omega
   have HF : Hid (r = true) := hD (by
    rw [HRR.out]
    refine decide_eq_true ?_
    have := HT.out
    rwa [List.take_of_length_le (by rw [← HN.out]; exact Nat.le_refl _), List.take_of_length_le (by rw [HN2.out]; exact Nat.le_refl _)] at this)
   go_wp2_with fail
   go_ret
   exact ⟨by rw [HF.out]; rfl, HB.out⟩
def SeRel (w : World) (l : List St) (i f : Nat) (v : Value) (wr : World) : Prop := ∃ p : Nat, v = .int .i64 p ∧ p ≤ i ∧ i - p < f ∧ Hid (∀ q : Nat, q < p → Rf.equalL (Oz.at_ l (q : Int)) (Oz.at_ l (i : Int)) = false) ∧ Hid (Below w.heap.size w wr)
theorem klA {f : Nat → Bool} {n p : Nat} (h0 : ∀ q, q < p → f q = false) (hp : p < n) (h : f p = true) : (List.range n).find? f = some p := by
 rw [List.find?_range_eq_some]
 exact ⟨h, List.mem_range.2 hp, fun j hj => by rw [h0 j hj]; rfl⟩
theorem kkm {f : Nat → Bool} {n : Nat} (h0 : ∀ q, q < n → f q = false) : (List.range n).find? f = none := by
 rw [List.find?_range_eq_none]
 exact fun j hj => by rw [h0 j hj]; rfl
theorem kkg (A : Option Addr) (c : Nat) (l : List St) (i : Nat) (s : St) (w : World) (h : ArgPl w A l) (hcap : l.length ≤ c) (hc : kac l = 0) (hs : l[i]? = some s) :
  Calls Tryz.prog 99 #[.slice A l.length c, .int .i64 i] w (kal w (Rf.shareL l i)) := by
 have hil := (gH hs).1
 have _ := hcap
 obtain ⟨b, o, rfl⟩ := h.base (by omega)
 have hbd := kcW hc
 have hlen := hbd.len
 obtain ⟨R, hR⟩ := xE (Rf.shareL l i)
 rw [← hR]
 unfold Rf.shareL at hR
 have HR := hD hR
 have HA := hD h
 have HBD := hD hbd
 have HCAP := hD hcap
 have HIL := hD hil
 have HSS := hD hs
 obtain ⟨As, cs, hv⟩ := h.vw hs
 have HV := hD hv
 obtain ⟨n, hn⟩ := xE l.length
 have HN := hD hn
 have q2 : (i : Int) < (n : Int) := by omega
 have q3 : (0 : Int) ≤ (i : Int) := by omega
 have hi0 : i ≤ 10000 := by omega
 rw [← hn]
 clear h hcap hc hs hil hR hn hbd hv hlen
 go_enter Tryz.func99, Tryz.ntmps99
 go_wp2_with fail
 go_loopg [6] (i + 1) (fun f v wr => SeRel w l i f v wr)
 case atStart => exact ⟨0, rfl, by omega, by omega, hD (fun q hq => by omega), hD (Below.refl _ _)⟩
 case round =>
  obtain ⟨p, rfl, hp, hpf, HNO, HB⟩ := hrel
  obtain ⟨f, rfl⟩ : ∃ f, gk = f + 1 := ⟨gk - 1, by omega⟩
  by_cases hlt : p < i
  ·
   obtain ⟨t, ht⟩ : ∃ t, l[p]? = some t := ⟨l[p]'(Nat.lt_trans hlt HIL.out), List.getElem?_eq_getElem _⟩
   obtain ⟨At, ct, hvt⟩ := (HA.out.below HB.out).vw ht
   have hvs := HV.out.below HB.out
   have htl := (HBD.out.arg t (List.mem_of_getElem? ht)).1
   have p0 : (p : Int) < (i : Int) := by omega
   have p1 : (0 : Int) ≤ (p : Int) := by omega
   have p2 : (p : Int) < (n : Int) := by omega
   have hw := IntWalk.wrap64_in ((p : Int) + 1) (by omega)
   obtain ⟨z, hz⟩ := xE (Rf.equalL t s)
   have HZ : Hid (z = Rf.equalL (Oz.at_ l (p : Int)) (Oz.at_ l (i : Int))) := hD (by rw [kad ht, kad HSS.out, hz])
   have cE : ∀ dd os, Calls Tryz.prog 142 #[.agg #[.string ⟨t.op.toArray⟩, .slice At t.args.length ct, .int .i64 t.num, .string ⟨t.text.toArray⟩, .int .i64 t.ty], .agg #[.string ⟨s.op.toArray⟩, .slice As s.args.length cs, .int .i64 s.num, .string ⟨s.text.toArray⟩, .int .i64 s.ty]] (Go.Sort.grow (redrawn wr dd) os) fun e w'' => e = .returned (.bool z) ∧ ∃ p : Regrown, w'' = Go.Sort.grow (redrawn wr p.d) p.os :=
    fun dd os => Calls.regrown_of (by rw [hz]; exact kl1 t s At As ct cs _ ((hvt.rd.below (below_regrown wr dd os)).more (below_regrown wr dd os).size) ((hvs.rd.below (below_regrown wr dd os)).more (below_regrown wr dd os).size) (by omega))
   have k0 := cell_regrown hvt.x0
   have k1 := cell_regrown hvt.x1
   have k2 := cell_regrown hvt.x2
   have k3 := cell_regrown hvt.x3
   have k4 := cell_regrown hvt.x4
   have z0 := cell_regrown hvs.x0
   have z1 := cell_regrown hvs.x1
   have z2 := cell_regrown hvs.x2
   have z3 := cell_regrown hvs.x3
   have z4 := cell_regrown hvs.x4
   clear ht hvt hvs htl hz
   go_wp2_with fail
   refine wp_region_quiet_below (by kernel_rfl) (by kernel_rfl) ?_
   repeat (quiet_step (exact cE _ _))
   refine wpQuiet_nil ?_
   intro _ hw'
   obtain ⟨⟨dq, osq⟩, hw''⟩ := hw'
   subst hw''
   have hq := below_regrown wr dq osq
   simp only
   have HB2 := hD (HB.out.trans (hq.mono HB.out.size))
   clear hq cE k0 k1 k2 k3 k4 z0 z1 z2 z3 z4
   cases z with
   | false =>
    have HNO2 : Hid (∀ q : Nat, q < p + 1 → Rf.equalL (Oz.at_ l (q : Int)) (Oz.at_ l (i : Int)) = false) := hD (fun q hq => by
     by_cases e : q = p
     ·
      subst e
      exact HZ.out.symm
     ·
      exact HNO.out q (by omega))
    go_wp2_with fail
    go_roundg f
    case measure => omega
    case rel => exact ⟨p + 1, by go_num, by omega, by omega, HNO2, HB2⟩
   | true =>
    have HRN : Hid (R = Rf.replaceL l i p) := hD (by rw [HR.out, klA HNO.out hlt HZ.out.symm])
    have hrp := kbN (some ⟨b, o, none⟩) c l i p _ (HA.out.below HB2.out) HBD.out HCAP.out HIL.out hlt
    rw [← HRN.out, ← HN.out] at hrp
    have HRP := hD hrp
    clear hrp
    go_wp2_with fail
    refine HRP.out.mono ?_
    rintro e wz ⟨hbz, hz⟩
    have HBZ := hD (HB2.out.trans (hbz.mono HB2.out.size))
    clear hbz
    cases R with
    | none =>
     exact z23
    | some L =>
     exact z7
  ·
   have hpi : p = i := by omega
   subst hpi
   have p0 : ¬ ((p : Int) < (p : Int)) := by omega
   have HRN : Hid (R = none) := hD (by rw [HR.out, kkm HNO.out])
   go_wp2_with fail
   go_ret2
   unfold kal
   rw [HRN.out]
   exact ⟨HB.out, rfl⟩
end Go.Proofs.YtamhdmkolfmmdaaGreatDoor
