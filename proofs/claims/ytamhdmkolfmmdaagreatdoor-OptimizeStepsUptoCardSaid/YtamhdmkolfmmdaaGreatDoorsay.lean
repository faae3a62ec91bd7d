/- The walk of to of the laws on optimize: the program's plan of the steps that came in (printed by gen_ort.py out of XStp). The walk of from of the laws on optimize: the document's steps of a plan of the program (printed by gen_frm.py out of XOrT). The walk of optimize's rule negate at any step (printed by gen_ozn.py). -/
import Derived.Test.YtamhdmkolfmmdaaGreatDoorsas
import Derived.Deep.Cut
import Derived.Test.YtamhdmkolfmmdaaGreatDoorsaa
import Derived.Test.YtamhdmkolfmmdaaGreatDoorsax
set_option linter.unusedVariables false
set_option linter.unusedSimpArgs false
namespace Go.Proofs.YtamhdmkolfmmdaaGreatDoor
open Go.RowKit
set_option maxRecDepth 100000
set_option maxHeartbeats 4000000
theorem khv (A : Option Addr) (c : Nat) (l : List St) (w : World) (h : ArgPl w A l) (hn : l.length ≤ 100000) (ha : ∀ s ∈ l, s.args.length ≤ 2000000) :
  Calls Tryz.prog 9 #[.slice A l.length c] w (StpEnd w l) := by
 have HA := hD h
 have HM := hD ha
 have HR0 := hD ((Blk.new w 26 #[.slice none 0 0]).alloc (.cells #[.slice none 0 0] 26))
 have HP0 := hD (Blk.new (w.alloc (.cells #[.slice none 0 0] 26)) 26 #[.slice none 0 0])
 have hsz : (w.alloc (.cells #[.slice none 0 0] 26)).heap.size = w.heap.size + 1 := by simp
 rw [hsz] at HP0
 have HB0 := hD ((kaa w (.cells #[.slice none 0 0] 26)).alloc (by simp) (.cells #[.slice none 0 0] 26))
 clear h ha hsz
 go_enter Tryz.func9, Tryz.ntmps9
 go_wp2_with fail
 go_loopg [5, 8] (l.length + 1) (fun f _ i wr => SpRel w l f i wr)
 case atStart => exact ⟨0, none, 0, [], rfl, by omega, by omega, HP0, HR0, hD ⟨rfl, .inl ⟨rfl, rfl⟩⟩, hD rfl, HB0⟩
 case round =>
  clear HP0 HR0 HB0
  obtain ⟨k, Ap, cp, css, rfl, hk, hkf, HP, HR, HV, HT, HB⟩ := hrel
  obtain ⟨f, rfl⟩ : ∃ f, gk = f + 1 := ⟨gk - 1, by omega⟩
  have hgl := HP.out.lt
  have hzr := HB.out.size
  by_cases hlt : k < l.length
  ·
   obtain ⟨s, hs⟩ : ∃ s, l[k]? = some s := ⟨l[k], List.getElem?_eq_getElem hlt⟩
   obtain ⟨b0, o, As, cs, rfl, hbl0, x0, x1, x2, x3, x4, hrd⟩ := (HA.out.below HB.out) k s hs
   have hal := HM.out s (List.mem_of_getElem? hs)
   have HS := hD hs
   obtain ⟨op, args, num, text, ty⟩ := s
   dsimp only at x0 x1 x2 x3 x4 hrd hal
   have q0 : (k : Int) < (l.length : Int) := by omega
   have q1 : (0 : Int) ≤ (k : Int) := by omega
   go_upto_region 5 with (fail)
   obtain ⟨wq, hwq⟩ := xE (wr.alloc (.cells #[.string ⟨op.toArray⟩, .slice As args.length cs, .int .i64 num, .string ⟨text.toArray⟩, .int .i64 ty] 76))
   rw [← hwq]
   have hbq : Below wr.heap.size wr wq := by rw [hwq]; exact kaa _ _
   have hkb : Blk wq wr.heap.size 76 #[.string ⟨op.toArray⟩, .slice As args.length cs, .int .i64 num, .string ⟨text.toArray⟩, .int .i64 ty] := by rw [hwq]; exact Blk.new _ _ _
   have HPq := hD (HP.out.below hbq hgl)
   have HRq := hD (HR.out.below hbq HR.out.lt)
   have HVq := hD (kay HV.out hbq)
   have HTq := hD (StVs.keep_int HT.out (w' := wq) (fun i cur _ hb => hbq.block i hb.lt) hbq.size (fun i _ h => h))
   have HBq := hD (HB.out.trans (hbq.mono hzr))
   replace hrd := (hrd.below hbq).more hbq.size
   replace x0 := hkb.cell 0
   replace x1 := hkb.cell 1
   replace x2 := hkb.cell 2
   replace x3 := hkb.cell 3
   replace x4 := hkb.cell 4
   simp only [gA, gB, gC] at x0 x1 x2 x3 x4
   have hglq : w.heap.size + 1 < wq.heap.size := HPq.out.lt
   have hzrq := HBq.out.size
   have hbl := hkb.lt
   obtain ⟨b, hbb0⟩ := xE wr.heap.size
   rw [← hbb0] at x0 x1 x2 x3 x4 hbl ⊢
   have hblo : w.heap.size + 1 < b := by omega
   have hown : ∀ g, (Value.slice Ap k cp).ownBlock = some g → g ≠ b := fun g hg => by
    obtain ⟨_, cur, hc⟩ := kaq HV.out hg
    have := hc.lt
    omega
   have HOWN := hD hown
   clear hwq hbq hkb HP HR HV HT HB hgl hzr hbl0 hbb0 hown
   have p0 := HPq.out.cell 0
   have pf := HPq.out.frozen 0
   simp only [gA, gB] at p0
   obtain ⟨m, hm⟩ := xE args.length
   obtain ⟨zs, hzs⟩ := xE (args.map (Value.int .i64))
   rw [← hm, ← hzs] at hrd
   rw [← hm] at x1 hal
   have HRD := hD hrd
   have HZS := hD hzs
   have HMM := hD hm
   have hone1 : ∀ u ∈ zs, u.oneCell' = true := by rw [hzs]; intro u hu; obtain ⟨z, _, rfl⟩ := List.mem_map.1 hu; rfl
   have HO1 := hD hone1
   have ho1 := World.ownsRow_lit (base := w.heap.size + 1) (e := 3) (size := 1) wq #[] 0 (by omega) (by decide) rfl
   have hoo1 := kay ho1 ((Below.refl _ _).drew)
   have hrd1 : Reads (wq.alloc (.cells #[] 3)).drew wq.heap.size 1 As m zs := (hrd.alloc (Nat.le_refl _) _).drew
   have hq1 : 0 + m ≤ maxLen := by unfold maxLen; omega
   have hq2 : (0 + m) * 8 ≤ 140737488355328 := by omega
   have hq3 : w.heap.size + 1 ≤ (wq.alloc (.cells #[] 3)).drew.heap.size := by have := ((kaa wq (.cells #[] 3)).drew).size; omega
   have hq4 : k + 1 ≤ maxLen := by unfold maxLen; omega
   have hq5 : (k + 1) * 72 ≤ 140737488355328 := by omega
   have K1 := hD (show ∀ W, Below wq.heap.size wq W → W.cell? ⟨w.heap.size + 1, 0, none⟩ = some (.slice Ap k cp) ∧ W.cell? ⟨b, 0, none⟩ = some (.string ⟨op.toArray⟩) ∧ W.cell? ⟨b, 1, none⟩ = some (.slice As m cs) ∧ W.cell? ⟨b, 2, none⟩ = some (.int .i64 num) ∧ W.cell? ⟨b, 3, none⟩ = some (.string ⟨text.toArray⟩) ∧ W.cell? ⟨b, 4, none⟩ = some (.int .i64 ty) from
    fun W hW => ⟨(hW.cell (p := ⟨w.heap.size + 1, 0, none⟩) hglq).trans p0, (hW.cell (p := ⟨b, _, none⟩) hbl).trans x0, (hW.cell (p := ⟨b, _, none⟩) hbl).trans x1, (hW.cell (p := ⟨b, _, none⟩) hbl).trans x2, (hW.cell (p := ⟨b, _, none⟩) hbl).trans x3, (hW.cell (p := ⟨b, _, none⟩) hbl).trans x4⟩)
   have K2 := hD (show ∀ W, Below wq.heap.size wq W → W.ownsRow (w.heap.size + 1) 77 5 (.slice Ap k cp) k css from fun W hW => kay HVq.out hW)
   have K3 := hD (show ∀ W W7, Below wq.heap.size wq W → W.grownBy W7 (Value.slice Ap k cp).ownBlock → Blk W7 (w.heap.size + 1) 26 #[.slice Ap k cp] from fun W W7 hW hg => (HPq.out.below hW HPq.out.lt).grown hg (fun e => kan HVq.out HPq.out (by decide) e.symm))
   have K4 := hD (show ∀ W W7, Below wq.heap.size wq W → W.grownBy W7 (Value.slice Ap k cp).ownBlock → W7.cell? ⟨b, 0, none⟩ = some (.string ⟨op.toArray⟩) ∧ W7.cell? ⟨b, 1, none⟩ = some (.slice As m cs) ∧ W7.cell? ⟨b, 2, none⟩ = some (.int .i64 num) ∧ W7.cell? ⟨b, 3, none⟩ = some (.string ⟨text.toArray⟩) ∧ W7.cell? ⟨b, 4, none⟩ = some (.int .i64 ty) from fun W W7 hW hg => by
    have hc : ∀ i, W7.cell? ⟨b, i, none⟩ = wq.cell? ⟨b, i, none⟩ := fun i => (World.cell?_of_block (a := ⟨b, i, none⟩) (hg.block b (Nat.lt_of_lt_of_le hbl hW.size) (fun e => HOWN.out b e.symm rfl))).trans (hW.cell (p := ⟨b, i, none⟩) hbl)
    exact ⟨(hc _).trans x0, (hc _).trans x1, (hc _).trans x2, (hc _).trans x3, (hc _).trans x4⟩)
   obtain ⟨pa, _, _, _, _, _⟩ := K1.out _ (kaa wq (.cells #[] 3)).drew
   obtain ⟨pb, _, _, _, _, _⟩ := K1.out _ (kaa wq (.cells #[] 3))
   have hwb : ¬ (w.heap.size + 1 = wq.heap.size) := by omega
   have hbg1 : ¬ (b = w.heap.size + 1) := by omega
   have hbg2 : ¬ (w.heap.size + 1 = b) := by omega
   have hbb : ¬ (b = wq.heap.size) := by omega
   have hwb' : ¬ (wq.heap.size = w.heap.size + 1) := by omega
   have hbb' : ¬ (wq.heap.size = b) := by omega
   clear hs hrd hzs hm ho1
   go_wp2_with fail
   obtain ⟨i1, hinf1, hz10, hz11, hz12⟩ := info_parts kcK
   obtain ⟨i0, hinf0, hz00, hz01, hz02⟩ := info_parts klW
   refine wp_region_noPanic ?_
   refine kin (z := 18) (S := (fun w' => w'.cell? ⟨w.heap.size + 1, 0, none⟩ = some (.slice Ap k cp) ∧ w'.cell? ⟨b, 0, none⟩ = some (.string ⟨op.toArray⟩) ∧ w'.cell? ⟨b, 1, none⟩ = some (.slice As m cs) ∧ w'.cell? ⟨b, 2, none⟩ = some (.int .i64 num) ∧ w'.cell? ⟨b, 3, none⟩ = some (.string ⟨text.toArray⟩) ∧ w'.cell? ⟨b, 4, none⟩ = some (.int .i64 ty))) (by kernel_rfl) (K1.out _ (Below.refl _ _).drew) (fun hHeld => ?_)
   refine tkZ (i := 0) hHeld ?_
   try simp only [Act.put, gE, gF, gG]
   refine tkZ (i := 1) hHeld ?_
   try simp only [Act.put, gE, gF, gG]
   refine tkZ (i := 2) hHeld ?_
   try simp only [Act.put, gE, gF, gG]
   refine tkZ (i := 3) hHeld ?_
   try simp only [Act.put, gE, gF, gG]
   refine tkZ (i := 5) hHeld ?_
   try simp only [Act.put, gE, gF, gG]
   refine tkZ (i := 6) hHeld ?_
   try simp only [Act.put, gE, gF, gG]
   refine tkZ (i := 8) hHeld ?_
   try simp only [Act.put, gE, gF, gG]
   refine tkZ (i := 9) hHeld ?_
   try simp only [Act.put, gE, gF, gG]
   refine tkZ (i := 10) hHeld ?_
   try simp only [Act.put, gE, gF, gG]
   refine tkZ (i := 11) hHeld ?_
   try simp only [Act.put, gE, gF, gG]
   refine tkZ (i := 12) hHeld ?_
   try simp only [Act.put, gE, gF, gG]
   refine tkZ (i := 13) hHeld ?_
   try simp only [Act.put, gE, gF, gG]
   clear hHeld
   refine tkP (i := 4) (fun K hK => ?_)
   go_simp
   refine hK.out _ _ (fun _ => K1.out _ (kaa wq (.cells #[] 3)).drew) ?_
   clear hK K
   try simp only [Act.put, gE, gF, gG]
   refine tkP (i := 7) (fun K hK => ?_)
   refine kdD _ rfl (.tmp 16) (.tmp 18) 47 rfl (w.heap.size + 1) 3 i1 (.int .i64 0) 1 8 Tryz.underlying47 hinf1 hz10 hz11 hz12 rfl (by decide) (.slice (some ⟨wq.heap.size, 0, none⟩) 0 0) 0 [] rfl hoo1 wq.heap.size As m cs zs rfl hrd1 HO1.out hq1 hq2 hq3 ?_
   intro v5 w5 hown5 hg5 hv5
   rw [Nat.zero_add] at hown5
   obtain ⟨A5, c5, rfl⟩ := kak hown5
   have hb5 : Below wq.heap.size wq w5 := ((kaa wq (.cells #[] 3)).drew).grown hg5 (by simp) (fun j e => by have e : some wq.heap.size = some j := e; injection e with e; omega)
   obtain ⟨p5, y0, y1, y2, y3, y4⟩ := K1.out w5 hb5
   obtain ⟨p6, _, _, _, _, _⟩ := K1.out _ (hb5.alloc hb5.size (.cells #[.string ⟨op.toArray⟩, .slice A5 m c5, .int .i64 num, .string ⟨text.toArray⟩, .int .i64 ty] 77))
   have ho6 := K2.out _ (hb5.alloc hb5.size (.cells #[.string ⟨op.toArray⟩, .slice A5 m c5, .int .i64 num, .string ⟨text.toArray⟩, .int .i64 ty] 77))
   have hr6 := kfO w5 (.string ⟨op.toArray⟩) (.slice A5 m c5) (.int .i64 num) (.string ⟨text.toArray⟩) (.int .i64 ty) 77
   have hq6 : w.heap.size + 1 ≤ (w5.alloc (.cells #[.string ⟨op.toArray⟩, .slice A5 m c5, .int .i64 num, .string ⟨text.toArray⟩, .int .i64 ty] 77)).heap.size := Nat.le_trans (show w.heap.size + 1 ≤ w5.heap.size by (have := hb5.size; omega)) (kaa w5 _).size
   have HB5 := hD hb5
   have HO5 := hD hown5
   have hz5 := hb5.size
   have hHeld := K1.out w5 hb5
   clear hb5 hown5 hg5 hv5
   refine hK.out _ _ (fun _ => hHeld) ?_
   clear hK K
   try simp only [Act.put, gE, gF, gG]
   refine tkZ (i := 14) hHeld ?_
   try simp only [Act.put, gE, gF, gG]
   clear hHeld
   refine tkP (i := 15) (fun K hK => ?_)
   go_simp
   refine hK.out _ _ (fun _ => K1.out _ (HB5.out.alloc HB5.out.size (.cells #[.string ⟨op.toArray⟩, .slice A5 m c5, .int .i64 num, .string ⟨text.toArray⟩, .int .i64 ty] 77))) ?_
   clear hK K
   try simp only [Act.put, gE, gF, gG]
   refine tkP (i := 16) (fun K hK => ?_)
   refine kdD _ rfl (.tmp 13) (.tmp 27) 24 rfl (w.heap.size + 1) 77 i0 (.agg #[.string ⟨#[]⟩, .slice none 0 0, .int .i64 0, .string ⟨#[]⟩, .int .i64 0]) 5 72 Tryz.underlying24 hinf0 hz00 hz01 hz02 rfl (by decide) (.slice Ap k cp) k css rfl ho6 (w5.heap.size + 1) (some ⟨w5.heap.size, 0, none⟩) 1 1 [.string ⟨op.toArray⟩, .slice A5 m c5, .int .i64 num, .string ⟨text.toArray⟩, .int .i64 ty] rfl hr6 (by simp [Value.oneCell']) hq4 hq5 hq6 ?_
   intro v7 w7 hown7 hg7 hv7
   obtain ⟨A7, c7, rfl⟩ := kak hown7
   have HB6 := hD (HB5.out.alloc HB5.out.size (.cells #[.string ⟨op.toArray⟩, .slice A5 m c5, .int .i64 num, .string ⟨text.toArray⟩, .int .i64 ty] 77))
   have hp7 := K3.out _ w7 HB6.out hg7
   have p7 := hp7.cell 0
   have f7 := hp7.frozen 0
   obtain ⟨t0, t1, t2, t3, t4⟩ := K4.out _ w7 HB6.out hg7
   have HP7 := hD hp7
   have HO7 := hD hown7
   have HG7 := hD hg7
   have hHeld7 := And.intro p7 (And.intro t0 (And.intro t1 (And.intro t2 (And.intro t3 t4))))
   clear hp7 hown7 hg7 hv7
   refine hK.out _ _ (fun _ => hHeld7) ?_
   clear hK K
   try simp only [Act.put, gE, gF, gG]
   refine tkZ (i := 17) hHeld7 ?_
   try simp only [Act.put, gE, gF, gG]
   clear hHeld7
   refine tkP (i := 18) (fun K hK => ?_)
   go_simp
   refine hK.out _ _ (fun h => absurd rfl h) ?_
   refine kip (by kernel_rfl) ?_ _
   refine NoPanic.normal ?_
   clear hK K
   try simp only [Act.put, gE, gF, gG]
   all_goals
    have hg2 : wq.grownBy w7 (Value.slice Ap k cp).ownBlock := (kaP HB6.out _).trans HG7.out
    have hI7 : w7.ownsRow (w.heap.size + 1) 3 1 (.slice A5 m c5) m zs := kaA (kay HO5.out (kaa w5 _)) (fun g hg => by
     obtain ⟨_, cur, hc⟩ := kaq HO5.out hg
     exact HG7.out.block g (hc.alloc _).lt (fun e => kan (kay HVq.out HB6.out) (hc.alloc _) (by decide) e.symm))
    have hI8 := kbe (p := ⟨w.heap.size + 1, 0, none⟩) hI7 (kan hI7 HP7.out (by decide)) (.slice A7 (k + 1) c7)
    have HP8 := hD (HP7.out.set_ 0 (.slice A7 (k + 1) c7))
    have HR8 := hD ((HRq.out.grown hg2 (fun e => by have := (kaq HVq.out e.symm).1; omega)).far (p := ⟨w.heap.size + 1, 0, none⟩) (by show w.heap.size ≠ w.heap.size + 1; omega) (.slice A7 (k + 1) c7))
    have HV8 := hD (kbe (p := ⟨w.heap.size + 1, 0, none⟩) HO7.out (kan HO7.out HP7.out (by decide)) (.slice A7 (k + 1) c7))
    have HB8 := hD ((HBq.out.grown hg2 hzrq (fun j e => by have := (kaq HVq.out e).1; omega)).setCell (p := ⟨w.heap.size + 1, 0, none⟩) (by show w.heap.size ≤ w.heap.size + 1; omega) (.slice A7 (k + 1) c7))
    have HT8 : Hid (StVs (w7.setCell ⟨w.heap.size + 1, 0, none⟩ (.slice A7 (k + 1) c7)) (stF (w7.setCell ⟨w.heap.size + 1, 0, none⟩ (.slice A7 (k + 1) c7)) (w.heap.size + 1) []) (l.take (k + 1)) (css ++ [.string ⟨op.toArray⟩, .slice A5 m c5, .int .i64 num, .string ⟨text.toArray⟩, .int .i64 ty])) := hD (by
     have hk : ∀ i cur, Blk wq i 3 cur → (w7.setCell ⟨w.heap.size + 1, 0, none⟩ (.slice A7 (k + 1) c7)).heap[i]? = wq.heap[i]? := fun i cur hb =>
      (Below.heap_setCell w7 ⟨w.heap.size + 1, 0, none⟩ _ i (Blk.ne_ hb HPq.out (by decide))).trans (hg2.block i hb.lt (fun e => kan HVq.out hb (by decide) e.symm))
     rw [List.take_add_one, HS.out]
     have hmm := HMM.out
     rw [HZS.out] at hI8
     refine StVs.append (StVs.keep_int HTq.out (fun i cur _ hb => hk i cur hb) (by have := hg2.size; simpa using this) (fun i _ h => h)) (StVs.one ⟨A5, c5, by rw [hmm], ?_⟩)
     show RdF _ _ 1 A5 args.length (args.map (Value.int .i64))
     rw [hmm] at hI8
     refine ⟨hI8.1, fun hn => ?_⟩
     obtain ⟨gi, c', hvi, _, hbg, hglq, hc⟩ := ka8 hI8 hn
     injection hvi with hA
     subst hA
     obtain ⟨_, cur, hb⟩ := kaq hI8 (g := gi) rfl
     exact ⟨gi, 0, rfl, ⟨hbg, hglq, by simp, cur, hb⟩, hglq, fun j u hj => by rw [Nat.zero_add]; exact hc j u hj⟩)
    clear hg2 hI7 hI8 HB6 HG7 HO7 HP7 HO5 HB5 K1 K2 K3 K4 HPq HRq HVq HTq HBq ho6 hr6 hoo1 hrd1 HO1 HRD HZS HMM HS p0 pf pa pb p5 p6 p7 f7 x0 x1 x2 x3 x4 y0 y1 y2 y3 y4 t0 t1 t2 t3 t4 hinf1 hz10 hz11 hz12 hinf0 hz00 hz01 hz02
    generalize w7.setCell ⟨w.heap.size + 1, 0, none⟩ (.slice A7 (k + 1) c7) = wz at *
    go_wp2_with fail
    go_roundg f
    case measure => omega
    case rel => exact ⟨k + 1, A7, c7, _, by go_num, by omega, by omega, HP8, HR8, HV8, HT8, HB8⟩
  ·
   have hkl : k = l.length := by omega
   subst hkl
   have q0 : ¬ ((l.length : Int) < (l.length : Int)) := by omega
   have p0 := HP.out.cell 0
   have r0 := HR.out.cell 0
   have rf := HR.out.frozen 0
   have hrl := HR.out.lt
   simp only [gA, gB] at p0 r0
   have hT := HT.out
   rw [List.take_length] at hT
   have HPA := hD (show PlAt wr (fun i => w.heap.size + 1 ≤ i ∧ i < wr.heap.size) Ap l from ⟨css, kf8 HV.out (fun g h1 h2 => ⟨h1, h2⟩), hT.keep (w' := wr) (fun _ _ _ => rfl) (Nat.le_refl _) (fun i hi _ => ⟨hi.1, hi.2.1⟩)⟩)
   go_wp2_with fail
   refine bodyPost_ret (v := .agg #[.slice Ap l.length cp]) (by simp [results, Tryz.results9, go_sem, r0]) rfl ?_
   refine ⟨HB.out.setCell (p := ⟨w.heap.size, 0, none⟩) (Nat.le_refl _) _, Ap, cp, rfl, ?_⟩
   exact PlAt.keep (fun i hi _ => Below.heap_setCell wr ⟨w.heap.size, 0, none⟩ _ i (by have := hi.1; show i ≠ w.heap.size; omega)) (by simp) (fun i hi _ => ⟨by have := hi.1; omega, by simpa using hi.2⟩) HPA.out
theorem PlAt.arg {w : World} {A : Option Addr} {l : List St} (h : PlAt w (fun i => i < w.heap.size) A l) : ArgPl w A l := fun i s hs => by
 obtain ⟨b, o, A', c, e, _, hb, x0, x1, x2, x3, x4, hr⟩ := h.step hs
 exact ⟨b, o, A', c, e, hb, x0, x1, x2, x3, x4, hr.reads⟩
theorem kc2 : (Tryz.prog.info? 76).map (fun i => (i.zero, i.size, i.bytes)) = some (some (.agg #[.string ⟨#[]⟩, .slice none 0 0, .int .i64 0, .string ⟨#[]⟩, .int .i64 0]), 5, 72) := by kernel_rfl
set_option maxHeartbeats 8000000
theorem y40 {P : Prop} (h : P := by
 have hil := (gH hs).1
 have hjl := (gH ht).1
 have hcap := h.cap
 have hbase := h.base_le
 have x0 := h.ed.cell 0
 have x1 := h.ed.cell 1
 simp only [gA, gB, gC] at x0 x1
 obtain ⟨v, hv, ⟨y0, y1, y2, y3, y4⟩, ho⟩ := h.at_ hs
 obtain ⟨A, c, rfl⟩ := kak ho
 obtain ⟨v2, hv2, ⟨z0, z1, z2, z3, z4⟩, ho2⟩ := h.at_ ht
 obtain ⟨A2, c2, rfl⟩ := kak ho2
 have hul : (kag l).length = l.length := kb4 l _
 have y6 : w.cell? ⟨gu, j, none⟩ = some (.int .i64 ((kag l).getD j 0)) := by rw [hu.cell]; exact kco (by omega)
 obtain ⟨q, c', hvq, _, hbq, hql, hc⟩ := ka8 ho (by omega)
 injection hvq with hA hkk hcc
 clear hkk
 subst hA hcc
 have a0 : w.cell? ⟨q, 0, none⟩ = some (.int .i64 j) := hc 0 _ (by rw [List.getElem?_map, hj]; rfl)
 obtain ⟨R, hR⟩ := xE (Oz.negateR l i)
 rw [← hR]
 unfold Oz.negateR at hR
 have haj : Oz.arg s 0 = (j : Int) := by unfold Oz.arg; rw [List.getD_eq_getElem?_getD, hj]; rfl
 rw [kad hs] at hR
 dsimp only at hR
 rw [haj, Int.toNat_natCast, kad ht] at hR
 obtain ⟨u, hue⟩ := xE ((kag l).getD j 0)
 rw [← hue] at y6 hR
 obtain ⟨n, hn⟩ := xE l.length
 rw [← hn] at hil hjl hcap x0 x1
 have HH := hD h
 have HN := hD hn
 have HBB := hD hb
 have q0 : (i : Int) < (n : Int) := by omega
 have q1 : (0 : Int) ≤ (i : Int) := by omega
 have q2 : (j : Int) < (n : Int) := by omega
 have q3 : (0 : Int) ≤ (j : Int) := by omega
 have q4 : j < n := by omega
 have q5 : i < n := by omega
 have hgl := h.ed.lt
 have hgsl := h.gs_lt
 have hgul := hu.lt
 obtain ⟨k, hk⟩ := xE s.args.length
 have p0 : (0 : Int) < (k : Int) := by omega
 have p2 : 0 < k := by omega
 rw [← hk] at y1
 obtain ⟨k2, hk2⟩ := xE t.args.length
 have HK2 := hD hk2
 rw [← hk2] at z1
 first
 | guard_hyp t260q0
   have ea : Oz.arg t 0 = a := by unfold Oz.arg; rw [List.getD_eq_getElem?_getD, ht2]; rfl
   have eb : Oz.arg t 1 = b := by unfold Oz.arg; rw [List.getD_eq_getElem?_getD, ht3]; rfl
   have hk3 : 2 ≤ k2 := by have := (gH ht3).1; omega
   have p3 : (0 : Int) < (k2 : Int) := by omega
   have p4 : (1 : Int) < (k2 : Int) := by omega
   have p5 : 0 < k2 := by omega
   have p6 : 1 < k2 := by omega
   obtain ⟨r, c3, hvr, _, hbr, hrl, hcr⟩ := ka8 ho2 (by omega)
   injection hvr with hA hkk hcc
   clear hkk
   subst hA hcc
   have b0 : w.cell? ⟨r, 0, none⟩ = some (.int .i64 a) := hcr 0 _ (by rw [List.getElem?_map, ht2]; rfl)
   have b1 : w.cell? ⟨r, 1, none⟩ = some (.int .i64 b) := hcr 1 _ (by rw [List.getElem?_map, ht3]; rfl)
   clear hcr
   have hone' : u = 1 := hue.trans hone
   rw [hop, hone'] at hR
   rw [ht0] at z0
   rw [hop] at y0
   rw [hone'] at y6
   first
   | guard_hyp t32q0
     unfold Oz.oEq at z0
   | guard_hyp t32q1
     unfold Oz.oNe at z0
   | guard_hyp t32q2
     unfold Oz.oLe at z0
   | unfold Oz.oLt at z0
   unfold Oz.oNot at y0
   rw [ea, eb, ht0] at hR
   first
   | guard_hyp t32q0
     have HRN : Hid (R = some (Oz.removeR (l.set i (Oz.mk Oz.oNe [a, b] 0 [] 2)) j)) := hD (by rw [hR, if_neg (by simp)]; rfl)
   | guard_hyp t32q1
     have HRN : Hid (R = some (Oz.removeR (l.set i (Oz.mk Oz.oEq [a, b] 0 [] 2)) j)) := hD (by rw [hR, if_neg (by simp)]; rfl)
   | guard_hyp t32q2
     have HRN : Hid (R = some (Oz.removeR (l.set i (Oz.mk Oz.oLt [b, a] 0 [] 2)) j)) := hD (by rw [hR, if_neg (by simp)]; rfl)
   | have HRN : Hid (R = some (Oz.removeR (l.set i (Oz.mk Oz.oLe [b, a] 0 [] 2)) j)) := hD (by rw [hR, if_neg (by simp)]; rfl)
   have HI : Hid (i < l.length) := hD (by omega)
   have HJ : Hid (j + 1 < l.length) := hD (by omega)
   first
   | guard_hyp t32q0
     have HMB : Hid (∀ s ∈ l.set i (Oz.mk Oz.oNe [a, b] 0 [] 2), s.args.length ≤ 3 ∧ ∀ a ∈ s.args, 0 ≤ a ∧ a ≤ 100000) := hD (fun s' hs' => by
      rcases List.mem_or_eq_of_mem_set hs' with h1 | rfl
      ·
       exact hb s' h1
      ·
       refine ⟨by show 2 ≤ 3; decide, fun x hx => ?_⟩
       have h2 := (hb t (List.mem_of_getElem? ht)).2
       have h3 := h2 a (List.mem_of_getElem? ht2)
       have h4 := h2 b (List.mem_of_getElem? ht3)
       simp only [Oz.mk, List.mem_cons, List.not_mem_nil, or_false] at hx
       rcases hx with rfl | rfl <;> assumption)
   | guard_hyp t32q1
     have HMB : Hid (∀ s ∈ l.set i (Oz.mk Oz.oEq [a, b] 0 [] 2), s.args.length ≤ 3 ∧ ∀ a ∈ s.args, 0 ≤ a ∧ a ≤ 100000) := hD (fun s' hs' => by
      rcases List.mem_or_eq_of_mem_set hs' with h1 | rfl
      ·
       exact hb s' h1
      ·
       refine ⟨by show 2 ≤ 3; decide, fun x hx => ?_⟩
       have h2 := (hb t (List.mem_of_getElem? ht)).2
       have h3 := h2 a (List.mem_of_getElem? ht2)
       have h4 := h2 b (List.mem_of_getElem? ht3)
       simp only [Oz.mk, List.mem_cons, List.not_mem_nil, or_false] at hx
       rcases hx with rfl | rfl <;> assumption)
   | guard_hyp t32q2
     have HMB : Hid (∀ s ∈ l.set i (Oz.mk Oz.oLt [b, a] 0 [] 2), s.args.length ≤ 3 ∧ ∀ a ∈ s.args, 0 ≤ a ∧ a ≤ 100000) := hD (fun s' hs' => by
      rcases List.mem_or_eq_of_mem_set hs' with h1 | rfl
      ·
       exact hb s' h1
      ·
       refine ⟨by show 2 ≤ 3; decide, fun x hx => ?_⟩
       have h2 := (hb t (List.mem_of_getElem? ht)).2
       have h3 := h2 a (List.mem_of_getElem? ht2)
       have h4 := h2 b (List.mem_of_getElem? ht3)
       simp only [Oz.mk, List.mem_cons, List.not_mem_nil, or_false] at hx
       rcases hx with rfl | rfl <;> assumption)
   | have HMB : Hid (∀ s ∈ l.set i (Oz.mk Oz.oLe [b, a] 0 [] 2), s.args.length ≤ 3 ∧ ∀ a ∈ s.args, 0 ≤ a ∧ a ≤ 100000) := hD (fun s' hs' => by
      rcases List.mem_or_eq_of_mem_set hs' with h1 | rfl
      ·
       exact hb s' h1
      ·
       refine ⟨by show 2 ≤ 3; decide, fun x hx => ?_⟩
       have h2 := (hb t (List.mem_of_getElem? ht)).2
       have h3 := h2 a (List.mem_of_getElem? ht2)
       have h4 := h2 b (List.mem_of_getElem? ht3)
       simp only [Oz.mk, List.mem_cons, List.not_mem_nil, or_false] at hx
       rcases hx with rfl | rfl <;> assumption)
   clear h hs ht hb hv ho hv2 ho2 hue hn hj haj hc hk hk2 hop hone hone' ha ht2 ht3 hR ea eb ht0 hul hu
   go_enter Tryz.func70, Tryz.ntmps70
   go_wp2_with fail
   first
   | guard_hyp t32q0
     obtain ⟨w1, hw1⟩ := xE (w.alloc (.cells #[.string ⟨#[33, 61]⟩, .slice none 0 0, .int .i64 0, .string ⟨#[]⟩, .int .i64 2] 77))
   | guard_hyp t32q1
     obtain ⟨w1, hw1⟩ := xE (w.alloc (.cells #[.string ⟨#[61, 61]⟩, .slice none 0 0, .int .i64 0, .string ⟨#[]⟩, .int .i64 2] 77))
   | guard_hyp t32q2
     obtain ⟨w1, hw1⟩ := xE (w.alloc (.cells #[.string ⟨#[60]⟩, .slice none 0 0, .int .i64 0, .string ⟨#[]⟩, .int .i64 2] 77))
   | obtain ⟨w1, hw1⟩ := xE (w.alloc (.cells #[.string ⟨#[60, 61]⟩, .slice none 0 0, .int .i64 0, .string ⟨#[]⟩, .int .i64 2] 77))
   rw [← hw1]
   have hb1 : Below w.heap.size w w1 := by rw [hw1]; exact kaa _ _
   first
   | guard_hyp t32q0
     have hblk : Blk w1 w.heap.size 77 #[.string ⟨#[33, 61]⟩, .slice none 0 0, .int .i64 0, .string ⟨#[]⟩, .int .i64 2] := by rw [hw1]; exact Blk.new _ _ _
   | guard_hyp t32q1
     have hblk : Blk w1 w.heap.size 77 #[.string ⟨#[61, 61]⟩, .slice none 0 0, .int .i64 0, .string ⟨#[]⟩, .int .i64 2] := by rw [hw1]; exact Blk.new _ _ _
   | guard_hyp t32q2
     have hblk : Blk w1 w.heap.size 77 #[.string ⟨#[60]⟩, .slice none 0 0, .int .i64 0, .string ⟨#[]⟩, .int .i64 2] := by rw [hw1]; exact Blk.new _ _ _
   | have hblk : Blk w1 w.heap.size 77 #[.string ⟨#[60, 61]⟩, .slice none 0 0, .int .i64 0, .string ⟨#[]⟩, .int .i64 2] := by rw [hw1]; exact Blk.new _ _ _
   have t1 := hblk.cell 1
   simp only [gA, gB, gC] at t1
   have t2 := hblk.frozen 1
   have e0 := (hb1.cell (p := ⟨r, 0, none⟩) hrl).trans b0
   have e1 := (hb1.cell (p := ⟨r, 1, none⟩) hrl).trans b1
   have hg1 := hblk.lt
   have hg2 : r < w1.heap.size := by omega
   have hne : ¬ (r = w.heap.size) := by omega
   have hne' : ¬ (w.heap.size = r) := by omega
   have HB1 := hD hb1
   have HBK := hD hblk
   have HX0 := hD x0
   have HY : Hid (w.cell? ⟨gs, i * 5, none⟩ = some (.string ⟨#[110, 111, 116]⟩) ∧ w.cell? ⟨gs, i * 5 + 1, none⟩ = some (.slice (some ⟨q, 0, none⟩) k c) ∧ w.cell? ⟨gs, i * 5 + 2, none⟩ = some (.int .i64 s.num) ∧ w.cell? ⟨gs, i * 5 + 3, none⟩ = some (.string ⟨s.text.toArray⟩) ∧ w.cell? ⟨gs, i * 5 + 4, none⟩ = some (.int .i64 s.ty)) := hD ⟨y0, y1, y2, y3, y4⟩
   clear hw1 hb1 hblk x0 x1 y0 y1 y2 y3 y4 y6 z0 z1 z2 z3 z4 a0 b0 b1
   first
   | (first | guard_hyp t32q0 | guard_hyp t32q1)
     have ho2 : ((w1.setCell ⟨w.heap.size, 1, none⟩ (.slice (some ⟨w1.heap.size, 0, none⟩) 2 2)).alloc (.cells #[.int .i64 a, .int .i64 b] 3)).drew.ownsRow w.heap.size 3 1 (.slice (some ⟨w1.heap.size, 0, none⟩) 2 2) 2 [.int .i64 a, .int .i64 b] := by
      have h := kd1 (w1.setCell ⟨w.heap.size, 1, none⟩ (.slice (some ⟨w1.heap.size, 0, none⟩) 2 2)) [a, b] (by show 2 ≤ 100; decide)
      have hz : (w1.setCell ⟨w.heap.size, 1, none⟩ (.slice (some ⟨w1.heap.size, 0, none⟩) 2 2)).heap.size = w1.heap.size := by simp
      rw [hz] at h
      exact (h.mono HB1.out.size).drew
     have hb2 : Below w.heap.size w ((w1.setCell ⟨w.heap.size, 1, none⟩ (.slice (some ⟨w1.heap.size, 0, none⟩) 2 2)).alloc (.cells #[.int .i64 a, .int .i64 b] 3)).drew := ((HB1.out.setCell (p := ⟨w.heap.size, 1, none⟩) (Nat.le_refl _) _).alloc (by have := HB1.out.size; simpa using this) _).drew
     have hbk2 := ((HBK.out.set_ 1 (.slice (some ⟨w1.heap.size, 0, none⟩) 2 2)).alloc (.cells #[.int .i64 a, .int .i64 b] 3)).drew
   | have ho2 : ((w1.setCell ⟨w.heap.size, 1, none⟩ (.slice (some ⟨w1.heap.size, 0, none⟩) 2 2)).alloc (.cells #[.int .i64 b, .int .i64 a] 3)).drew.ownsRow w.heap.size 3 1 (.slice (some ⟨w1.heap.size, 0, none⟩) 2 2) 2 [.int .i64 b, .int .i64 a] := by
      have h := kd1 (w1.setCell ⟨w.heap.size, 1, none⟩ (.slice (some ⟨w1.heap.size, 0, none⟩) 2 2)) [b, a] (by show 2 ≤ 100; decide)
      have hz : (w1.setCell ⟨w.heap.size, 1, none⟩ (.slice (some ⟨w1.heap.size, 0, none⟩) 2 2)).heap.size = w1.heap.size := by simp
      rw [hz] at h
      exact (h.mono HB1.out.size).drew
     have hb2 : Below w.heap.size w ((w1.setCell ⟨w.heap.size, 1, none⟩ (.slice (some ⟨w1.heap.size, 0, none⟩) 2 2)).alloc (.cells #[.int .i64 b, .int .i64 a] 3)).drew := ((HB1.out.setCell (p := ⟨w.heap.size, 1, none⟩) (Nat.le_refl _) _).alloc (by have := HB1.out.size; simpa using this) _).drew
     have hbk2 := ((HBK.out.set_ 1 (.slice (some ⟨w1.heap.size, 0, none⟩) 2 2)).alloc (.cells #[.int .i64 b, .int .i64 a] 3)).drew
   have HO2 := hD ho2
   have HB2 := hD hb2
   have HBK2 := hD hbk2
   clear ho2 hb2 hbk2
   go_region
   first
   | (first | guard_hyp t32q0 | guard_hyp t32q1)
     obtain ⟨w2, hw2⟩ := xE (((w1.setCell ⟨w.heap.size, 1, none⟩ (.slice (some ⟨w1.heap.size, 0, none⟩) 2 2)).alloc (.cells #[.int .i64 a, .int .i64 b] 3)).drew)
   | obtain ⟨w2, hw2⟩ := xE (((w1.setCell ⟨w.heap.size, 1, none⟩ (.slice (some ⟨w1.heap.size, 0, none⟩) 2 2)).alloc (.cells #[.int .i64 b, .int .i64 a] 3)).drew)
   rw [← hw2] at HO2 HB2 HBK2 ⊢
   have c0 := (HB2.out.cell (p := ⟨g, 0, none⟩) hgl).trans HX0.out
   have hc2 := fun m => HB2.out.cell (p := ⟨gs, m, none⟩) hgsl
   have d0 := (hc2 _).trans HY.out.1
   have d1 := (hc2 _).trans HY.out.2.1
   have d2 := (hc2 _).trans HY.out.2.2.1
   have d3 := (hc2 _).trans HY.out.2.2.2.1
   have d4 := (hc2 _).trans HY.out.2.2.2.2
   have m0 := HBK2.out.cell 0
   have m1 := HBK2.out.cell 1
   have m2 := HBK2.out.cell 2
   have m3 := HBK2.out.cell 3
   have m4 := HBK2.out.cell 4
   simp only [gE, gF, gG, gA, gB, gC] at m0 m1 m2 m3 m4
   obtain ⟨f0, f1, f2, f3, f4⟩ : w2.frozen? ⟨gs, i * 5, none⟩ = false ∧ w2.frozen? ⟨gs, i * 5 + 1, none⟩ = false ∧ w2.frozen? ⟨gs, i * 5 + 2, none⟩ = false ∧ w2.frozen? ⟨gs, i * 5 + 3, none⟩ = false ∧ w2.frozen? ⟨gs, i * 5 + 4, none⟩ = false := by
    obtain ⟨cs, e1, _⟩ := (HH.out.below HB2.out).blk
    exact ⟨e1.frozen _, e1.frozen _, e1.frozen _, e1.frozen _, e1.frozen _⟩
   first
   | guard_hyp t32q0
     have hp := HH.out.putFresh HB2.out HI.out (Oz.mk Oz.oNe [a, b] 0 [] 2) _ HO2.out
   | guard_hyp t32q1
     have hp := HH.out.putFresh HB2.out HI.out (Oz.mk Oz.oEq [a, b] 0 [] 2) _ HO2.out
   | guard_hyp t32q2
     have hp := HH.out.putFresh HB2.out HI.out (Oz.mk Oz.oLt [b, a] 0 [] 2) _ HO2.out
   | have hp := HH.out.putFresh HB2.out HI.out (Oz.mk Oz.oLe [b, a] 0 [] 2) _ HO2.out
   have HP := hD hp.1
   have HF := hD hp.2
   clear hp hc2 hw2 e0 e1 t1 t2
   go_wp2_with fail
   go_region
   have HRM := hD (kde base g gs cap j _ _ _ _ (HP.out.below (Below.refl _ _).drew) (by rw [List.length_set]; exact HJ.out) HMB.out)
   have HF3 := hD (HF.out.below (Below.refl _ _).drew HP.out.base_le)
   clear HP HF d0 d1 d2 d3 d4 m0 m1 m2 m3 m4 f0 f1 f2 f3 f4 c0
   go_wp2_with fail
   refine HRM.out.mono ?_
   rintro e w3 ⟨rfl, he3, hf3⟩
   have HE3 := hD he3
   have HF4 := hD (HF3.out.trans hf3)
   clear he3 hf3 HRM
   go_wp2_with fail
   go_ret
   unfold RepEnd
   rw [HRN.out]
   exact ⟨rfl, ⟨_, HE3.out⟩, HF4.out⟩
 | first
   | guard_hyp t98q0
     have hone' : u = 1 := hue.trans hone
     rw [hop, hone'] at hR
   | have hone' : u ≠ 1 := fun e => hone (hue.symm.trans e)
   rw [hop] at y0
   first
   | guard_hyp t98q0
     rw [hone'] at y6
   | skip
   unfold Oz.oNot at y0
   first
   | guard_hyp t98q0
     have HRN : Hid (R = none) := hD (by rw [hR, if_neg (by simp)]; unfold Oz.negR; rw [if_neg h0, if_neg h1, if_neg h2, if_neg h3]; rfl)
     have e0 : (t.op == [61, 61]) = false := beq_eq_false_iff_ne.2 h0
     have e1 : (t.op == [33, 61]) = false := beq_eq_false_iff_ne.2 h1
     have e2 : (t.op == [60]) = false := beq_eq_false_iff_ne.2 h2
     have e3 : (t.op == [60, 61]) = false := beq_eq_false_iff_ne.2 h3
     clear h hs ht hb hv ho hv2 ho2 hue hn hj haj hc hk hk2 hop hone hone' ha hR h0 h1 h2 h3 hul hu
   | have HRN : Hid (R = none) := hD (by rw [hR, if_pos (.inr hone')])
     have e0 : (u == 1) = false := beq_eq_false_iff_ne.2 hone'
     clear h hs ht hb hv ho hv2 ho2 hue hn hj haj hc hk hk2 hop hone hone' ha hR hul hu
   go_enter Tryz.func70, Tryz.ntmps70
   go_wp2_with fail
   go_ret
   unfold RepEnd
   rw [HRN.out]
   first
   | guard_hyp t98q0
     exact ⟨rfl, kaa _ _⟩
   | exact ⟨rfl, Below.refl _ _⟩) : P := h
theorem y11 {P : Prop} (h : P := by
 have t260q0 := True.intro
 exact y40) : P := h
theorem y22 {P : Prop} (h : P := by
 exact y40) : P := h
theorem negate_0 (base g gs gu cap i j : Nat) (l : List St) (vs : List Value) (s t : St) (w : World) (h : EdX w base g gs cap l vs (.slice (some ⟨gu, 0, none⟩) l.length l.length)) (hu : Blk w gu 3 (uarr (kag l))) (hs : l[i]? = some s) (ht : l[j]? = some t) (hj : s.args[0]? = some (j : Int)) (hji : j < i) (ha : 0 < s.args.length) (hb : ∀ s ∈ l, s.args.length ≤ 3 ∧ ∀ a ∈ s.args, 0 ≤ a ∧ a ≤ 100000) (hop : s.op = Oz.oNot) (hone : (kag l).getD j 0 = 1) (a b : Int) (ht0 : t.op = Oz.oEq) (ht2 : t.args[0]? = some a) (ht3 : t.args[1]? = some b) :
  Calls Tryz.prog 70 #[.pointer (some ⟨g, 0, none⟩), .int .i64 i] w (RepEnd base g gs cap l vs (.slice (some ⟨gu, 0, none⟩) l.length l.length) (Oz.negateR l i) w) := by
 have t32q0 := True.intro
 exact y11
theorem negate_1 (base g gs gu cap i j : Nat) (l : List St) (vs : List Value) (s t : St) (w : World) (h : EdX w base g gs cap l vs (.slice (some ⟨gu, 0, none⟩) l.length l.length)) (hu : Blk w gu 3 (uarr (kag l))) (hs : l[i]? = some s) (ht : l[j]? = some t) (hj : s.args[0]? = some (j : Int)) (hji : j < i) (ha : 0 < s.args.length) (hb : ∀ s ∈ l, s.args.length ≤ 3 ∧ ∀ a ∈ s.args, 0 ≤ a ∧ a ≤ 100000) (hop : s.op = Oz.oNot) (hone : (kag l).getD j 0 = 1) (a b : Int) (ht0 : t.op = Oz.oNe) (ht2 : t.args[0]? = some a) (ht3 : t.args[1]? = some b) :
  Calls Tryz.prog 70 #[.pointer (some ⟨g, 0, none⟩), .int .i64 i] w (RepEnd base g gs cap l vs (.slice (some ⟨gu, 0, none⟩) l.length l.length) (Oz.negateR l i) w) := by
 have t32q1 := True.intro
 exact y11
theorem negate_2 (base g gs gu cap i j : Nat) (l : List St) (vs : List Value) (s t : St) (w : World) (h : EdX w base g gs cap l vs (.slice (some ⟨gu, 0, none⟩) l.length l.length)) (hu : Blk w gu 3 (uarr (kag l))) (hs : l[i]? = some s) (ht : l[j]? = some t) (hj : s.args[0]? = some (j : Int)) (hji : j < i) (ha : 0 < s.args.length) (hb : ∀ s ∈ l, s.args.length ≤ 3 ∧ ∀ a ∈ s.args, 0 ≤ a ∧ a ≤ 100000) (hop : s.op = Oz.oNot) (hone : (kag l).getD j 0 = 1) (a b : Int) (ht0 : t.op = Oz.oLt) (ht2 : t.args[0]? = some a) (ht3 : t.args[1]? = some b) :
  Calls Tryz.prog 70 #[.pointer (some ⟨g, 0, none⟩), .int .i64 i] w (RepEnd base g gs cap l vs (.slice (some ⟨gu, 0, none⟩) l.length l.length) (Oz.negateR l i) w) := by
 exact y11
theorem negate_3 (base g gs gu cap i j : Nat) (l : List St) (vs : List Value) (s t : St) (w : World) (h : EdX w base g gs cap l vs (.slice (some ⟨gu, 0, none⟩) l.length l.length)) (hu : Blk w gu 3 (uarr (kag l))) (hs : l[i]? = some s) (ht : l[j]? = some t) (hj : s.args[0]? = some (j : Int)) (hji : j < i) (ha : 0 < s.args.length) (hb : ∀ s ∈ l, s.args.length ≤ 3 ∧ ∀ a ∈ s.args, 0 ≤ a ∧ a ≤ 100000) (hop : s.op = Oz.oNot) (hone : (kag l).getD j 0 = 1) (a b : Int) (ht0 : t.op = Oz.oLe) (ht2 : t.args[0]? = some a) (ht3 : t.args[1]? = some b) :
  Calls Tryz.prog 70 #[.pointer (some ⟨g, 0, none⟩), .int .i64 i] w (RepEnd base g gs cap l vs (.slice (some ⟨gu, 0, none⟩) l.length l.length) (Oz.negateR l i) w) := by
 have t32q2 := True.intro
 exact y11
theorem khW (base g gs gu cap i j : Nat) (l : List St) (vs : List Value) (s t : St) (w : World) (h : EdX w base g gs cap l vs (.slice (some ⟨gu, 0, none⟩) l.length l.length)) (hu : Blk w gu 3 (uarr (kag l))) (hs : l[i]? = some s) (ht : l[j]? = some t) (hj : s.args[0]? = some (j : Int)) (hji : j < i) (ha : 0 < s.args.length) (hb : ∀ s ∈ l, s.args.length ≤ 3 ∧ ∀ a ∈ s.args, 0 ≤ a ∧ a ≤ 100000) (hop : s.op = Oz.oNot) (hone : (kag l).getD j 0 = 1) (h0 : t.op ≠ Oz.oEq) (h1 : t.op ≠ Oz.oNe) (h2 : t.op ≠ Oz.oLt) (h3 : t.op ≠ Oz.oLe) :
  Calls Tryz.prog 70 #[.pointer (some ⟨g, 0, none⟩), .int .i64 i] w (RepEnd base g gs cap l vs (.slice (some ⟨gu, 0, none⟩) l.length l.length) (Oz.negateR l i) w) := by
 have t98q0 := True.intro
 exact y22
theorem kiY (base g gs gu cap i j : Nat) (l : List St) (vs : List Value) (s t : St) (w : World) (h : EdX w base g gs cap l vs (.slice (some ⟨gu, 0, none⟩) l.length l.length)) (hu : Blk w gu 3 (uarr (kag l))) (hs : l[i]? = some s) (ht : l[j]? = some t) (hj : s.args[0]? = some (j : Int)) (hji : j < i) (ha : 0 < s.args.length) (hb : ∀ s ∈ l, s.args.length ≤ 3 ∧ ∀ a ∈ s.args, 0 ≤ a ∧ a ≤ 100000) (hop : s.op = Oz.oNot) (hone : (kag l).getD j 0 ≠ 1) :
  Calls Tryz.prog 70 #[.pointer (some ⟨g, 0, none⟩), .int .i64 i] w (RepEnd base g gs cap l vs (.slice (some ⟨gu, 0, none⟩) l.length l.length) (Oz.negateR l i) w) := by
 exact y22
theorem klJ (base g gs cap i : Nat) (l : List St) (vs : List Value) (V : Value) (s : St) (w : World) (h : EdX w base g gs cap l vs V) (hs : l[i]? = some s) (hop : s.op ≠ Oz.oNot) :
  Calls Tryz.prog 70 #[.pointer (some ⟨g, 0, none⟩), .int .i64 i] w (RepEnd base g gs cap l vs V (Oz.negateR l i) w) := by
 have t121q1 := True.intro
 exact y26
theorem kkv (base g gs gu cap i : Nat) (l : List St) (vs : List Value) (s : St) (w : World) (h : EdX w base g gs cap l vs (.slice (some ⟨gu, 0, none⟩) l.length l.length)) (hu : Blk w gu 3 (uarr (kag l))) (hs : l[i]? = some s) (hc : kac l = 0) :
  Calls Tryz.prog 70 #[.pointer (some ⟨g, 0, none⟩), .int .i64 i] w (RepEnd base g gs cap l vs (.slice (some ⟨gu, 0, none⟩) l.length l.length) (Oz.negateR l i) w) := by
 by_cases hop : s.op = Oz.oNot
 ·
  have hal := kae hc hs 1 (by rw [hop]; kernel_rfl)
  obtain ⟨j, t, hj, hji, ht, _, _⟩ := kah hc hs (k := 0) (by omega)
  have hb := kcc hc
  by_cases hone : (kag l).getD j 0 = 1
  ·
   by_cases h0 : t.op = Oz.oEq ∨ t.op = Oz.oNe ∨ t.op = Oz.oLt ∨ t.op = Oz.oLe
   ·
    have ht2 : t.args.length = 2 := kae hc ht 2 (by rcases h0 with e | e | e | e <;> rw [e] <;> kernel_rfl)
    obtain ⟨a, _, ha, _⟩ := kah hc ht (k := 0) (by omega)
    obtain ⟨b, _, hb2, _⟩ := kah hc ht (k := 1) (by omega)
    rcases h0 with e | e | e | e
    ·
     exact negate_0 base g gs gu cap i j l vs s t w h hu hs ht hj hji (by omega) hb hop hone a b e ha hb2
    ·
     exact negate_1 base g gs gu cap i j l vs s t w h hu hs ht hj hji (by omega) hb hop hone a b e ha hb2
    ·
     exact negate_2 base g gs gu cap i j l vs s t w h hu hs ht hj hji (by omega) hb hop hone a b e ha hb2
    ·
     exact negate_3 base g gs gu cap i j l vs s t w h hu hs ht hj hji (by omega) hb hop hone a b e ha hb2
   ·
    simp only [not_or] at h0
    exact khW base g gs gu cap i j l vs s t w h hu hs ht hj hji (by omega) hb hop hone h0.1 h0.2.1 h0.2.2.1 h0.2.2.2
  ·
   exact kiY base g gs gu cap i j l vs s t w h hu hs ht hj hji (by omega) hb hop hone
 ·
  exact klJ base g gs cap i l vs _ s w h hs hop
end Go.Proofs.YtamhdmkolfmmdaaGreatDoor
