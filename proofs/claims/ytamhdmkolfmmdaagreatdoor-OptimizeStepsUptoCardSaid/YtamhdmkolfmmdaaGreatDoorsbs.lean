/- The walks of the document's number and wrong. The walks of the document's product, call and Apply at operations on two numbers (printed by gen_rvb.py). The walks of the document's call and Apply at operations on two numbers (printed by gen_rvc.py). -/
import Derived.Test.YtamhdmkolfmmdaaGreatDoorsbf
import Derived.Test.YtamhdmkolfmmdaaGreatDoorsbk
import Derived.Test.YtamhdmkolfmmdaaGreatDoorsaa
import Derived.Test.YtamhdmkolfmmdaaGreatDoorsan
import Derived.Test.YtamhdmkolfmmdaaGreatDoorsau
set_option linter.unusedVariables false
set_option linter.unusedSimpArgs false
namespace Go.Proofs.YtamhdmkolfmmdaaGreatDoor
open Go.RowKit
set_option maxRecDepth 100000
def valV (m : Int) : Value := .agg #[.int .i64 1, .int .i64 m, .bool false, .string ⟨#[]⟩, .slice none 0 0]
def ka4 : Value := .agg #[.int .i64 0, .int .i64 0, .bool false, .string ⟨#[]⟩, .slice none 0 0]
def resV : Option Int → Value
 | none => ka4
 | some m => valV m
def codeV : Option Int → Int
 | none => 2
 | some _ => 0
def kaY (w : World) (r : Option Int) (e : Ending) (w' : World) : Prop := Below w.heap.size w w' ∧ e = .returned (.tuple #[resV r, .int .i64 (codeV r), .bool true])
theorem kg1 (n : Int) (h : 1152921504606846976 < n) (w : World) : Calls Tryz.prog 79 #[.int .i64 n] w (kaY w none) := by
 have HB := hD (fun o : Obj => kaa w o)
 have h1 : ¬ (n < -1152921504606846976) := by omega
 go_enter Tryz.func79, Tryz.ntmps79
 go_wp2_with fail
 refine bodyPost_ret (v := .tuple #[ka4, .int .i64 2, .bool true]) (by simp [results, Tryz.results79, go_sem, ka4]) rfl ?_
 exact ⟨HB.out _, rfl⟩
theorem kbm (n : Int) (h1 : ¬ (n < -1152921504606846976)) (h2 : ¬ (1152921504606846976 < n)) (w : World) : Calls Tryz.prog 79 #[.int .i64 n] w (kaY w (some n)) := by
 have HB := hD (fun o : Obj => kaa w o)
 go_enter Tryz.func79, Tryz.ntmps79
 go_wp2_with fail
 refine bodyPost_ret (v := .tuple #[valV n, .int .i64 0, .bool true]) (by simp [results, Tryz.results79, go_sem, valV]) rfl ?_
 exact ⟨HB.out _, rfl⟩
theorem kim (k : Int) (w : World) : Calls Tryz.prog 81 #[.int .i64 k] w fun e w' => Below w.heap.size w w' ∧ e = .returned (.tuple #[ka4, .int .i64 k, .bool true]) := by
 have HB := hD (fun o : Obj => kaa w o)
 go_enter Tryz.func81, Tryz.ntmps81
 go_wp2_with fail
 refine bodyPost_ret (v := .tuple #[ka4, .int .i64 k, .bool true]) (by simp [results, Tryz.results81, go_sem, ka4]) rfl ?_
 exact ⟨HB.out _, rfl⟩
theorem kcI {n : Int} (h1 : ¬ (n < -1152921504606846976)) (h2 : ¬ (1152921504606846976 < n)) : Rf.numL n = some n := if_neg (fun e => e.elim h1 h2)
theorem numL_out {n : Int} (h2 : 1152921504606846976 < n) : Rf.numL n = none := if_pos (.inr h2)
set_option maxHeartbeats 8000000
theorem y84 {P : Prop} (h : P := by
 have HX1 := hD (Blk.new w 40 #[.int .i64 0, .int .i64 0, .bool false, .string ⟨#[]⟩, .slice none 0 0])
 have HB1 := hD (kaa w (.cells #[.int .i64 0, .int .i64 0, .bool false, .string ⟨#[]⟩, .slice none 0 0] 40))
 obtain ⟨w1, hw1⟩ := xE (w.alloc (.cells #[.int .i64 0, .int .i64 0, .bool false, .string ⟨#[]⟩, .slice none 0 0] 40))
 rw [← hw1] at HX1 HB1
 have HW1 := hD hw1
 clear hw1
 first
 | guard_hyp t527q0
   first
   | guard_hyp t500q0
     have e0 : (a == 0) = false := beq_eq_false_iff_ne.2 (by omega)
     have e1 : (b == 0) = false := beq_eq_false_iff_ne.2 (by omega)
     have e2 : (a != 0) = true := bne_iff_ne.2 (by omega)
     have e3 : (b != 0) = true := bne_iff_ne.2 (by omega)
     have e4 : ¬ (a = 0) := by omega
     have hma : max a (-a) = a := by omega
     have hmb : max b (-b) = b := by omega
     have hna := IntWalk.i64_in (-a) (by omega)
     have hnb := IntWalk.i64_in (-b) (by omega)
     have hq0 : 0 ≤ (1152921504606846976 : Int).tdiv a := Int.tdiv_nonneg (by decide) (by omega)
     have hq1 : (1152921504606846976 : Int).tdiv a ≤ 1152921504606846976 := by
      rw [Int.tdiv_eq_ediv_of_nonneg (by decide)]
      exact Int.ediv_le_self _ (by decide)
     have hqm := khH (b := b) ha
     obtain ⟨d, hd⟩ := xE ((1152921504606846976 : Int).tdiv a)
     rw [← hd] at hq0 hq1 hqm
     have hw := IntWalk.i64_in d (by omega)
     have q5 : (1152921504606846976 : Int).tdiv a = d := hd.symm
     first
     | guard_hyp t105q0
       have hlt : ¬ (d < b) := by have := hqm.2 h; omega
       have hmul : 0 ≤ a * b := Int.mul_nonneg (Int.le_of_lt ha) (Int.le_of_lt hb)
       have hwm := IntWalk.i64_in (a * b) (by omega)
       have HNM := hD (kbm (a * b) (by omega) (by omega) w1)
       clear ha ha' hb hb' hq0 hq1 hqm hd h hmul
     | have hlt : d < b := by
        rcases Int.lt_or_le d b with h' | h'
        ·
         exact h'
        ·
         exact absurd (hqm.1 h') h
       have HWR := hD (kim 2 w1)
       clear ha ha' hb hb' hq0 hq1 hqm hd h
     go_enter Tryz.func130, Tryz.ntmps130
     go_wp2_with fail
     rw [← HW1.out]
     first
     | guard_hyp t105q0
       refine HNM.out.mono ?_
     | refine HWR.out.mono ?_
     rintro e w2 ⟨hb2, he2⟩
     have HB2 := hD (HB1.out.trans (hb2.mono HB1.out.size))
     have hx2 := HX1.out.below hb2 HX1.out.lt
     obtain ⟨y0, y1, y2, y3, y4, n0, n1, n2, n3, n4⟩ := blk5 hx2
     first
     | guard_hyp t105q0
       have he2 : e = .returned (.tuple #[(valV (a * b)), .int .i64 0, .bool true]) := he2
     | have he2 : e = .returned (.tuple #[ka4, .int .i64 2, .bool true]) := he2
     subst he2
     clear hb2 hx2
     first
     | guard_hyp t105q0
       unfold valV
     | unfold ka4
     go_wp2_with fail
     first
     | guard_hyp t105q0
       refine bodyPost_ret (v := .tuple #[(valV (a * b)), .int .i64 0, .bool true]) (by simp [results, Tryz.results130, go_sem, valV, y0, y1, y2, y3, y4]) rfl ?_
     | refine bodyPost_ret (v := .tuple #[ka4, .int .i64 2, .bool true]) (by simp [results, Tryz.results130, go_sem, ka4, y0, y1, y2, y3, y4]) rfl ?_
     exact ⟨kba HB2.out _ _ _ _ _, rfl⟩
   | first
     | guard_hyp t138q5
       have HNM := hD (kbm 0 (by decide) (by decide) w1)
       go_enter Tryz.func130, Tryz.ntmps130
     | guard_hyp t138q6
       have HNM := hD (kbm 0 (by decide) (by decide) w1)
       have e0 : (a == 0) = false := beq_eq_false_iff_ne.2 h0
       have h0' : ¬ (a = 0) := h0
       clear h0
       go_enter Tryz.func130, Tryz.ntmps130
     | have HCL := hD (hp w1 HB1.out)
       clear hp
       go_enter Tryz.func45, Tryz.ntmps45
     go_wp2_with fail
     rw [← HW1.out]
     first
     | (first | guard_hyp t138q5 | guard_hyp t138q6)
       refine HNM.out.mono ?_
     | refine HCL.out.mono ?_
     rintro e w2 ⟨hb2, he2⟩
     have HB2 := hD (HB1.out.trans (hb2.mono HB1.out.size))
     have hx2 := HX1.out.below hb2 HX1.out.lt
     obtain ⟨y0, y1, y2, y3, y4, n0, n1, n2, n3, n4⟩ := blk5 hx2
     first
     | (first | guard_hyp t138q5 | guard_hyp t138q6)
       have he2 : e = .returned (.tuple #[(valV (0)), .int .i64 0, .bool true]) := he2
       subst he2
       clear hb2 hx2
       unfold valV
       go_wp2_with fail
       refine bodyPost_ret (v := .tuple #[(valV (0)), .int .i64 0, .bool true]) (by simp [results, Tryz.results130, go_sem, valV, y0, y1, y2, y3, y4]) rfl ?_
       exact ⟨kba HB2.out _ _ _ _ _, rfl⟩
     | clear hb2 hx2 HCL
       cases r with
       | none =>
        have he2 : e = .returned (.tuple #[ka4, .int .i64 2, .bool true]) := he2
        subst he2
        unfold ka4
        go_wp2_with fail
        refine bodyPost_ret (v := .tuple #[ka4, .int .i64 2, .bool true]) (by simp [results, Tryz.results45, go_sem, ka4, y0, y1, y2, y3, y4]) rfl ?_
        exact ⟨kba HB2.out _ _ _ _ _, rfl⟩
       | some m =>
        have he2 : e = .returned (.tuple #[(valV m), .int .i64 0, .bool true]) := he2
        subst he2
        unfold valV
        go_wp2_with fail
        refine bodyPost_ret (v := .tuple #[(valV m), .int .i64 0, .bool true]) (by simp [results, Tryz.results45, go_sem, valV, y0, y1, y2, y3, y4]) rfl ?_
        exact ⟨kba HB2.out _ _ _ _ _, rfl⟩
 | have HS : Hid (∀ w', Below w.heap.size w w' → w'.cell? ⟨g, 1, none⟩ = some (.int .i64 a) ∧ w'.cell? ⟨g, 6, none⟩ = some (.int .i64 b)) := hD (fun w' hb => ⟨(hb.cell (p := ⟨g, 1, none⟩) hg).trans h0, (hb.cell (p := ⟨g, 6, none⟩) hg).trans h1⟩)
   first
   | guard_hyp t59q0
     have HCL := hD hp
   | guard_hyp t59q1
     have hw := IntWalk.i64_in (a + b) (by omega)
     have HCL := hD (fun w' => kg1 (a + b) h w')
   | guard_hyp t59q2
     have l1 : ¬ (max a b < -1152921504606846976) := by omega
     have l2 : ¬ (1152921504606846976 < max a b) := by omega
     have HCL := hD (fun w' => kbm (max a b) l1 l2 w')
   | guard_hyp t59q3
     have l1 : ¬ (min a b < -1152921504606846976) := by omega
     have l2 : ¬ (1152921504606846976 < min a b) := by omega
     have HCL := hD (fun w' => kbm (min a b) l1 l2 w')
   | guard_hyp t59q4
     have hw := IntWalk.i64_in (a - b) (by omega)
     have l1 : ¬ (a - b < -1152921504606846976) := by omega
     have l2 : ¬ (1152921504606846976 < a - b) := by omega
     have HCL := hD (fun w' => kbm (a - b) l1 l2 w')
   | have hw := IntWalk.i64_in (a + b) (by omega)
     have l1 : ¬ (a + b < -1152921504606846976) := by omega
     have l2 : ¬ (1152921504606846976 < a + b) := by omega
     have HCL := hD (fun w' => kbm (a + b) l1 l2 w')
   have HBD := hD (show Below w.heap.size w w1.drew from HB1.out.drew)
   first
   | guard_hyp t59q0
     clear h0 h1 hp
   | guard_hyp t59q1
     clear h0 h1 ha ha' hb hb' h
   | guard_hyp t59q5
     clear h0 h1 ha ha' hb hb' l1 l2 h
   | clear h0 h1 ha ha' hb hb' l1 l2
   go_enter Tryz.func83, Tryz.ntmps83
   go_wp2_with fail
   rw [← HW1.out]
   refine wp_region_noPanic ?_
   refine wp_region_held_drew (S := (fun w' => w'.cell? ⟨g, 1, none⟩ = some (.int .i64 a) ∧ w'.cell? ⟨g, 6, none⟩ = some (.int .i64 b))) (by kernel_rfl) (HS.out _ HBD.out) (fun hHeld => ?_)
   have t493q0 := True.intro
   exact y50) : P := h
theorem y57 {P : Prop} (h : P := by
 have t527q0 := True.intro
 exact y84) : P := h
theorem y23 {P : Prop} (h : P := by
 have t500q0 := True.intro
 exact y57) : P := h
theorem y29 {P : Prop} (h : P := by
 exact y57) : P := h
theorem kba {w w1 : World} (hb : Below w.heap.size w w1) (a b c d e : Value) : Below w.heap.size w (((((w1.setCell ⟨w.heap.size, 0, none⟩ a).setCell ⟨w.heap.size, 1, none⟩ b).setCell ⟨w.heap.size, 2, none⟩ c).setCell ⟨w.heap.size, 3, none⟩ d).setCell ⟨w.heap.size, 4, none⟩ e) :=
 ((((hb.setCell (p := ⟨w.heap.size, 0, none⟩) (Nat.le_refl _) a).setCell (p := ⟨w.heap.size, 1, none⟩) (Nat.le_refl _) b).setCell (p := ⟨w.heap.size, 2, none⟩) (Nat.le_refl _) c).setCell (p := ⟨w.heap.size, 3, none⟩) (Nat.le_refl _) d).setCell (p := ⟨w.heap.size, 4, none⟩) (Nat.le_refl _) e
theorem kkn (b : Int) : Rf.prodL 0 b = Rf.numL 0 := by unfold Rf.prodL; rw [if_neg (fun e => e.1 rfl), Int.zero_mul]
theorem kiK (a : Int) : Rf.prodL a 0 = Rf.numL 0 := by unfold Rf.prodL; rw [if_neg (fun e => e.2.1 rfl), Int.mul_zero]
theorem khJ (b : Int) (w : World) : Calls Tryz.prog 130 #[.int .i64 0, .int .i64 b] w (kaY w (some 0)) := by
 have t138q5 := True.intro
 exact y29
theorem khI (a : Int) (h0 : a ≠ 0) (w : World) : Calls Tryz.prog 130 #[.int .i64 a, .int .i64 0] w (kaY w (some 0)) := by
 have t138q6 := True.intro
 exact y29
theorem khL (a b : Int) (ha : 0 < a) (ha' : a ≤ 1152921504606846976) (hb : 0 < b) (hb' : b ≤ 1152921504606846976) (h : ¬ (a * b ≤ 1152921504606846976)) (w : World) : Calls Tryz.prog 130 #[.int .i64 a, .int .i64 b] w (kaY w none) := by
 exact y23
theorem khK (a b : Int) (ha : 0 < a) (ha' : a ≤ 1152921504606846976) (hb : 0 < b) (hb' : b ≤ 1152921504606846976) (h : a * b ≤ 1152921504606846976) (w : World) : Calls Tryz.prog 130 #[.int .i64 a, .int .i64 b] w (kaY w (some (a * b))) := by
 have t105q0 := True.intro
 exact y23
theorem y91 {P : Prop} (h : P := by
 have hHeld3 := HS.out _ HB3.out
 refine hK.out _ _ hHeld3 ?_
 clear hK K
 try simp only [Act.put, gE, gF, gG]
 refine tkO (i := 13) (fun K hK => ?_)
 go_simp
 refine hK.out _ _ hHeld3 ?_
 clear hK K
 try simp only [Act.put, gE, gF, gG]
 refine tkO (i := 14) (fun K hK => ?_)
 go_simp
 refine hK.out _ _ hHeld3 ?_
 clear hK K
 try simp only [Act.put, gE, gF, gG]
 refine wpAnyH_done (by kernel_rfl) ?_ _
 refine NoPanic.normal ?_
 try simp only [Act.put, gE, gF, gG]
 go_wp2_with fail
 first
 | guard_hyp t534q0
   refine bodyPost_ret (v := .tuple #[ka4, .int .i64 2, .bool true]) (by simp [results, Tryz.results83, go_sem, ka4, y0, y1, y2, y3, y4]) rfl ?_
   exact ⟨HB3.out, rfl⟩
 | refine bodyPost_ret (v := .tuple #[(valV m), .int .i64 0, .bool true]) (by simp [results, Tryz.results83, go_sem, valV, y0, y1, y2, y3, y4]) rfl ?_
   exact ⟨HB3.out, rfl⟩) : P := h
theorem y94 {P : Prop} (h : P := by
 go_simp
 have HBF := hD (HBE.out.alloc HBE.out.size (.cells #[.string ⟨#[]⟩, .slice none 0 0, .int .i64 0, .string ⟨#[]⟩, .int .i64 0] 76))
 have HSF := hD (HSE.out.alloc (.cells #[.string ⟨#[]⟩, .slice none 0 0, .int .i64 0, .string ⟨#[]⟩, .int .i64 0] 76))
 have hHeldF := HSS _ HBF.out HSF.out
 refine hK.out _ _ hHeldF ?_
 clear hK K
 try simp only [Act.put, gE, gF, gG]
 refine tkO (i := 16) (fun K hK => ?_)
 go_simp
 first
 | guard_hyp t537q0
   have HT := two_a (t := 76) (ca := #[.string ⟨o0.toArray⟩, .slice A0 m0 c0, .int .i64 n0, .string ⟨x0.toArray⟩, .int .i64 y0]) (cb := #[.string ⟨o1.toArray⟩, .slice A1 m1 c1, .int .i64 n1, .string ⟨x1.toArray⟩, .int .i64 y1]) HB1.out HS1.out
   refine hK.out _ _ (HSC _ _ _ _ _ _ (two_a (t := 76) (ca := #[.string ⟨o0.toArray⟩, .slice A0 m0 c0, .int .i64 n0, .string ⟨x0.toArray⟩, .int .i64 y0]) (cb := #[.string ⟨#[]⟩, .slice none 0 0, .int .i64 0, .string ⟨#[]⟩, .int .i64 0]) HB1.out HS1.out)) ?_
   clear hK K
   try simp only [Act.put, gE, gF, gG]
   refine tkO (i := 17) (fun K hK => ?_)
   go_simp
   refine hK.out _ _ (HSC _ _ _ _ _ _ HT) ?_
   clear hK K
   try simp only [Act.put, gE, gF, gG]
   refine wpAnyH_done (by kernel_rfl) ?_ _
   refine NoPanic.normal ?_
   try simp only [Act.put, gE, gF, gG]
   go_wp2_with fail
   go_meet
   case rel => exact HT
 | have HT := two_b (t := 76) (ca := #[.string ⟨o0.toArray⟩, .slice A0 m0 c0, .int .i64 n0, .string ⟨x0.toArray⟩, .int .i64 y0]) (cb := #[.string ⟨o1.toArray⟩, .slice A1 m1 c1, .int .i64 n1, .string ⟨x1.toArray⟩, .int .i64 y1]) HB1.out HS1.out
   refine hK.out _ _ (HSC _ _ _ _ _ _ (two_b (t := 76) (ca := #[.string ⟨o0.toArray⟩, .slice A0 m0 c0, .int .i64 n0, .string ⟨x0.toArray⟩, .int .i64 y0]) (cb := #[.string ⟨#[]⟩, .slice none 0 0, .int .i64 0, .string ⟨#[]⟩, .int .i64 0]) HB1.out HS1.out)) ?_
   clear hK K
   try simp only [Act.put, gE, gF, gG]
   refine tkO (i := 17) (fun K hK => ?_)
   go_simp
   refine hK.out _ _ (HSC _ _ _ _ _ _ HT) ?_
   clear hK K
   try simp only [Act.put, gE, gF, gG]
   refine wpAnyH_done (by kernel_rfl) ?_ _
   refine NoPanic.normal ?_
   try simp only [Act.put, gE, gF, gG]
   go_wp2_with fail
   go_meet
   case rel => exact HT) : P := h
theorem y95 {P : Prop} (h : P := by
 go_simp
 have hH2 := HK.out _ ((((Below.refl wc.heap.size wc).alloc (Nat.le_refl _) (.cells #[.int .i64 0, .int .i64 0, .bool false, .string ⟨#[]⟩, .slice none 0 0] 40)).alloc (by simp) (.cells #[.int .i64 0, .int .i64 0, .bool false, .string ⟨#[]⟩, .slice none 0 0] 40)).drew)
 refine hK.out _ _ hH2 ?_
 clear hK K
 try simp only [Act.put, gE, gF, gG]
 refine tkO (i := 8) (fun K hK => ?_)
 go_simp
 first
 | guard_hyp t538q0
   have hH3 := HK.out _ ((((Below.refl wc.heap.size wc).alloc (Nat.le_refl _) (.cells #[.int .i64 1, .int .i64 n0, .bool false, .string ⟨#[]⟩, .slice none 0 0] 40)).alloc (by simp) (.cells #[.int .i64 0, .int .i64 0, .bool false, .string ⟨#[]⟩, .slice none 0 0] 40)).drew)
   refine hK.out _ _ hH3 ?_
   clear hK K
   try simp only [Act.put, gE, gF, gG]
   refine tkO (i := 9) (fun K hK => ?_)
   go_simp
   have HT := two_a (t := 40) (ca := #[.int .i64 1, .int .i64 n0, .bool false, .string ⟨#[]⟩, .slice none 0 0]) (cb := #[.int .i64 1, .int .i64 n1, .bool false, .string ⟨#[]⟩, .slice none 0 0]) HBc.out HSc.out
   have hH4 := HK.out _ ((((Below.refl wc.heap.size wc).alloc (Nat.le_refl _) (.cells #[.int .i64 1, .int .i64 n0, .bool false, .string ⟨#[]⟩, .slice none 0 0] 40)).alloc (by simp) (.cells #[.int .i64 1, .int .i64 n1, .bool false, .string ⟨#[]⟩, .slice none 0 0] 40)).drew)
   refine hK.out _ _ hH4 ?_
   clear hK K
   try simp only [Act.put, gE, gF, gG]
   refine wpAnyH_done (by kernel_rfl) ?_ _
   refine NoPanic.normal ?_
   try simp only [Act.put, gE, gF, gG]
   go_wp2_with fail
   go_meet
   case rel => exact HT
 | have hH3 := HK.out _ ((((Below.refl wc.heap.size wc).alloc (Nat.le_refl _) (.cells #[.int .i64 0, .int .i64 0, .bool false, .string ⟨#[]⟩, .slice none 0 0] 40)).alloc (by simp) (.cells #[.int .i64 1, .int .i64 n0, .bool false, .string ⟨#[]⟩, .slice none 0 0] 40)).drew)
   refine hK.out _ _ hH3 ?_
   clear hK K
   try simp only [Act.put, gE, gF, gG]
   refine tkO (i := 9) (fun K hK => ?_)
   go_simp
   have HT := two_b (t := 40) (ca := #[.int .i64 1, .int .i64 n0, .bool false, .string ⟨#[]⟩, .slice none 0 0]) (cb := #[.int .i64 1, .int .i64 n1, .bool false, .string ⟨#[]⟩, .slice none 0 0]) HBc.out HSc.out
   have hH4 := HK.out _ ((((Below.refl wc.heap.size wc).alloc (Nat.le_refl _) (.cells #[.int .i64 1, .int .i64 n1, .bool false, .string ⟨#[]⟩, .slice none 0 0] 40)).alloc (by simp) (.cells #[.int .i64 1, .int .i64 n0, .bool false, .string ⟨#[]⟩, .slice none 0 0] 40)).drew)
   refine hK.out _ _ hH4 ?_
   clear hK K
   try simp only [Act.put, gE, gF, gG]
   refine wpAnyH_done (by kernel_rfl) ?_ _
   refine NoPanic.normal ?_
   try simp only [Act.put, gE, gF, gG]
   go_wp2_with fail
   go_meet
   case rel => exact HT) : P := h
theorem y76 {P : Prop} (h : P := by
 exact y98) : P := h
theorem y50 {P : Prop} (h : P := by
 have t519q0 := True.intro
 exact y76) : P := h
theorem y18 {P : Prop} (h : P := by
 exact y84) : P := h
theorem call_min (g : Nat) (a b : Int) (ha : 0 ≤ a) (ha' : a ≤ 1152921504606846976) (hb : 0 ≤ b) (hb' : b ≤ 1152921504606846976) (w : World) (hg : g < w.heap.size) (h0 : w.cell? ⟨g, 1, none⟩ = some (.int .i64 a)) (h1 : w.cell? ⟨g, 6, none⟩ = some (.int .i64 b)) :
  Calls Tryz.prog 83 #[.string ⟨#[109, 105, 110]⟩, .slice (some ⟨g, 0, none⟩) 2 2] w (kaY w (some (min a b))) := by
 have t59q3 := True.intro
 exact y18
theorem call_max (g : Nat) (a b : Int) (ha : 0 ≤ a) (ha' : a ≤ 1152921504606846976) (hb : 0 ≤ b) (hb' : b ≤ 1152921504606846976) (w : World) (hg : g < w.heap.size) (h0 : w.cell? ⟨g, 1, none⟩ = some (.int .i64 a)) (h1 : w.cell? ⟨g, 6, none⟩ = some (.int .i64 b)) :
  Calls Tryz.prog 83 #[.string ⟨#[109, 97, 120]⟩, .slice (some ⟨g, 0, none⟩) 2 2] w (kaY w (some (max a b))) := by
 have t59q2 := True.intro
 exact y18
theorem call_add (g : Nat) (a b : Int) (ha : 0 ≤ a) (ha' : a ≤ 1152921504606846976) (hb : 0 ≤ b) (hb' : b ≤ 1152921504606846976) (h : a + b ≤ 1152921504606846976) (w : World) (hg : g < w.heap.size) (h0 : w.cell? ⟨g, 1, none⟩ = some (.int .i64 a)) (h1 : w.cell? ⟨g, 6, none⟩ = some (.int .i64 b)) :
  Calls Tryz.prog 83 #[.string ⟨#[43]⟩, .slice (some ⟨g, 0, none⟩) 2 2] w (kaY w (some (a + b))) := by
 have t59q5 := True.intro
 exact y18
theorem kma (g : Nat) (a b : Int) (ha : 0 ≤ a) (ha' : a ≤ 1152921504606846976) (hb : 0 ≤ b) (hb' : b ≤ 1152921504606846976) (h : 1152921504606846976 < a + b) (w : World) (hg : g < w.heap.size) (h0 : w.cell? ⟨g, 1, none⟩ = some (.int .i64 a)) (h1 : w.cell? ⟨g, 6, none⟩ = some (.int .i64 b)) :
  Calls Tryz.prog 83 #[.string ⟨#[43]⟩, .slice (some ⟨g, 0, none⟩) 2 2] w (kaY w none) := by
 have t59q1 := True.intro
 exact y18
theorem call_sub (g : Nat) (a b : Int) (ha : 0 ≤ a) (ha' : a ≤ 1152921504606846976) (hb : 0 ≤ b) (hb' : b ≤ 1152921504606846976) (w : World) (hg : g < w.heap.size) (h0 : w.cell? ⟨g, 1, none⟩ = some (.int .i64 a)) (h1 : w.cell? ⟨g, 6, none⟩ = some (.int .i64 b)) :
  Calls Tryz.prog 83 #[.string ⟨#[45]⟩, .slice (some ⟨g, 0, none⟩) 2 2] w (kaY w (some (a - b))) := by
 have t59q4 := True.intro
 exact y18
theorem call_mul (g : Nat) (a b : Int) (r : Option Int) (hp : ∀ w', Calls Tryz.prog 130 #[.int .i64 a, .int .i64 b] w' (kaY w' r)) (w : World) (hg : g < w.heap.size) (h0 : w.cell? ⟨g, 1, none⟩ = some (.int .i64 a)) (h1 : w.cell? ⟨g, 6, none⟩ = some (.int .i64 b)) :
  Calls Tryz.prog 83 #[.string ⟨#[42]⟩, .slice (some ⟨g, 0, none⟩) 2 2] w (kaY w r) := by
 have t59q0 := True.intro
 exact y18
end Go.Proofs.YtamhdmkolfmmdaaGreatDoor
