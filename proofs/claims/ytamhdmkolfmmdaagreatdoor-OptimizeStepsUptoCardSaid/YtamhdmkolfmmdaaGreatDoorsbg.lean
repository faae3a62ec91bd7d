/- The walk of the document's remove (printed by gen_rwr.py). -/
import Derived.Test.YtamhdmkolfmmdaaGreatDoorsbf
import Derived.Test.YtamhdmkolfmmdaaGreatDoorsaa
set_option linter.unusedVariables false
set_option linter.unusedSimpArgs false
namespace Go.Proofs.YtamhdmkolfmmdaaGreatDoor
open Go.RowKit
set_option maxRecDepth 100000
set_option maxHeartbeats 8000000
theorem y96 {P : Prop} (h : P := by
 obtain ⟨wq, hwq⟩ := xE (wo.alloc (.cells #[.string ⟨op.toArray⟩, .slice As args.length cs, .int .i64 num, .string ⟨text.toArray⟩, .int .i64 ty] 76))
 rw [← hwq]
 have hbq : Below wo.heap.size wo wq := by rw [hwq]; exact kaa _ _
 have hkb : Blk wq wo.heap.size 76 #[.string ⟨op.toArray⟩, .slice As args.length cs, .int .i64 num, .string ⟨text.toArray⟩, .int .i64 ty] := by rw [hwq]; exact Blk.new _ _ _
 obtain ⟨b, hbb0⟩ := xE wo.heap.size
 rw [← hbb0] at hkb ⊢
 have HRQ := hD ((HRD.out.below hbq).more hbq.size)
 have HBQ := hD hbq
 have HKB := hD hkb
 have HBB := hD hbb0
 have hbl := hkb.lt
 have y1 := hkb.cell 1
 simp only [gA, gB, gC] at y1
 first
 | guard_hyp t539q0
   have HOW0 : Hid (wq.ownsRow wq.heap.size 3 1 (.slice none 0 0) 0 ((args.take 0).map fun a => Value.int .i64 ((fRm i) a))) := hD (World.ownsRow_nil _ _ _ _)
   clear hwq hbq hkb hbb0 x0 x1 x2 x3 x4 HRD
   go_wp2_with fail
   clear y1
   go_loopg [8, 10, 26] (args.length + 1) (fun f v _ ix wr => RaRel wq args (fRm i) b #[.string ⟨op.toArray⟩, .slice As args.length cs, .int .i64 num, .string ⟨text.toArray⟩, .int .i64 ty] f v ix wr)
   case atStart => exact ⟨0, none, 0, rfl, rfl, by omega, by omega, HOW0, HKB, hD (Below.refl _ _)⟩
   case round =>
    clear HOW0
    obtain ⟨j', Aa, ca, rfl, rfl, hj, hjf, HOW, HK, HBI⟩ := hrel
    obtain ⟨f2, rfl⟩ : ∃ f2, gk = f2 + 1 := ⟨gk - 1, by omega⟩
    have hzi := HBI.out.size
    by_cases hjl : j' < args.length
    ·
     have t532q0 := True.intro
     exact y89
    ·
     have hjs : j' = args.length := by omega
     subst hjs
     have p0 : ¬ ((args.length : Int) < (args.length : Int)) := by omega
     have how : wr.ownsRow wq.heap.size 3 1 (.slice Aa args.length ca) args.length (args.map fun a => .int .i64 ((fRm i) a)) := by have := HOW.out; rwa [List.take_length] at this
     have hk5 := HK.out
     have hbw := HK.out.lt
     have HK5 := hD (hk5.set_ 1 (.slice Aa args.length ca))
     have z2 := hk5.frozen 1
     have z1 := hk5.cell 1
     simp only [gA, gB, gC] at z1
     have HO5 := hD how
     clear hk5 how
     go_upto_region 16 with (fail)
     obtain ⟨w6, hw6⟩ := xE (wr.setCell ⟨b, 1, none⟩ (.slice Aa args.length ca))
     rw [← hw6]
     have hk6 : Blk w6 b 76 #[.string ⟨op.toArray⟩, .slice Aa args.length ca, .int .i64 num, .string ⟨text.toArray⟩, .int .i64 ty] := by rw [hw6]; exact HK5.out
     have hb6 : Below wo.heap.size wo w6 := by rw [hw6]; exact (HBQ.out.trans (HBI.out.mono HBQ.out.size)).setCell (p := ⟨b, 1, none⟩) (by rw [← HBB.out]; exact Nat.le_refl _) _
     have ho6 : w6.ownsRow wq.heap.size 3 1 (.slice Aa args.length ca) args.length (args.map fun a => .int .i64 ((fRm i) a)) := by rw [hw6]; exact kbe HO5.out (fun e => by have h0 : wq.heap.size ≤ b := (kaq HO5.out e).1; omega) _
     obtain ⟨y0, y1, y2, y3, y4, _⟩ := blk5 hk6
     have hv6 := kay HV.out hb6
     have t499q0 := True.intro
     exact y56
 | have HOW0 : Hid (wq.ownsRow wq.heap.size 3 1 (.slice none 0 0) 0 ((args.take 0).map fun a => Value.int .i64 ((fIn j) a))) := hD (World.ownsRow_nil _ _ _ _)
   clear hwq hbq hkb hbb0 x0 x1 x2 x3 x4 HRD
   go_wp2_with fail
   clear y1
   go_loopg [10, 12, 32] (args.length + 1) (fun f v _ ix wr => RaRel wq args (fIn j) b #[.string ⟨op.toArray⟩, .slice As args.length cs, .int .i64 num, .string ⟨text.toArray⟩, .int .i64 ty] f v ix wr)
   case atStart => exact ⟨0, none, 0, rfl, rfl, by omega, by omega, HOW0, HKB, hD (Below.refl _ _)⟩
   case round =>
    clear HOW0
    obtain ⟨j', Aa, ca, rfl, rfl, hj, hjf, HOW, HK, HBI⟩ := hrel
    obtain ⟨f2, rfl⟩ : ∃ f2, gk = f2 + 1 := ⟨gk - 1, by omega⟩
    have hzi := HBI.out.size
    by_cases hjl : j' < args.length
    ·
     have t532q1 := True.intro
     exact y89
    ·
     have hjs : j' = args.length := by omega
     subst hjs
     have p0 : ¬ ((args.length : Int) < (args.length : Int)) := by omega
     have how : wr.ownsRow wq.heap.size 3 1 (.slice Aa args.length ca) args.length (args.map fun a => .int .i64 ((fIn j) a)) := by have := HOW.out; rwa [List.take_length] at this
     have t525q0 := True.intro
     exact y82) : P := h
theorem y89 {P : Prop} (h : P := by
 obtain ⟨a, ha⟩ : ∃ a, args[j']? = some a := ⟨args[j'], List.getElem?_eq_getElem hjl⟩
 have hab := HAG.out a (List.mem_of_getElem? ha)
 obtain ⟨ba, oa, rfl, hba, hca⟩ := (HRQ.out.below HBI.out).form (by omega)
 have y2 := hca j' (.int .i64 a) (by rw [List.getElem?_map, ha]; rfl)
 have p0 : (j' : Int) < (args.length : Int) := by omega
 have p1 : (0 : Int) ≤ (j' : Int) := by omega
 first
 | guard_hyp t532q0
   obtain ⟨x, hx⟩ := xE ((fRm i) a)
   have HTK : Hid ((args.take (j' + 1)).map (fun a => Value.int .i64 ((fRm i) a)) = (args.take j').map (fun a => Value.int .i64 ((fRm i) a)) ++ [.int .i64 x]) := hD (by rw [List.take_add_one, ha, hx]; simp)
   have t513q0 := True.intro
   exact y70
 | guard_hyp t532q1
   obtain ⟨x, hx⟩ := xE ((fIn j) a)
   have HTK : Hid ((args.take (j' + 1)).map (fun a => Value.int .i64 ((fIn j) a)) = (args.take j').map (fun a => Value.int .i64 ((fIn j) a)) ++ [.int .i64 x]) := hD (by rw [List.take_add_one, ha, hx]; simp)
   have t513q1 := True.intro
   exact y70
 | obtain ⟨x, hx⟩ := xE ((fIn k) a)
   have HTK : Hid ((args.take (j' + 1)).map (fun a => Value.int .i64 ((fIn k) a)) = (args.take j').map (fun a => Value.int .i64 ((fIn k) a)) ++ [.int .i64 x]) := hD (by rw [List.take_add_one, ha, hx]; simp)
   exact y70) : P := h
theorem y70 {P : Prop} (h : P := by
 have ho4 := HOW.out.alloc (.cells #[.int .i64 x] 3)
 have hrr : Reads (wr.alloc (.cells #[.int .i64 x] 3)) (wr.heap.size + 1) 1 (some ⟨wr.heap.size, 0, none⟩) 1 [.int .i64 x] := Reads.of_alloc wr #[.int .i64 x] 3 (by omega) rfl
 have hone : ∀ u ∈ ([.int .i64 x] : List Value), u.oneCell' = true := by simp [Value.oneCell']
 have hq1 : j' + 1 ≤ maxLen := by unfold maxLen; omega
 have hq2 : (j' + 1) * 8 ≤ 140737488355328 := by omega
 have hq3 : wq.heap.size ≤ (wr.alloc (.cells #[.int .i64 x] 3)).heap.size := by have := (kaa wr (.cells #[.int .i64 x] 3)).size; omega
 obtain ⟨i1, hinf1, hz10, hz11, hz12⟩ := info_parts kcK
 first
 | guard_hyp t513q0
   have hw := IntWalk.wrap64_in (a - 1) (by omega)
   clear ha hca
   by_cases hgt : (i : Int) < a
   ·
    have hgx : (fRm i) a = a - 1 := if_pos hgt
    have hxa : a - 1 = x := (hx.trans hgx).symm
    clear hx hgx
    subst hxa
    have hgt' : (i : Int) < a := hgt
    go_wp2_with (at_builtin; refine kam _ rfl (.tmp 35) (.tmp 37) 47 rfl wq.heap.size 3 i1 (.int .i64 0) 1 8 Tryz.underlying47 hinf1 hz10 hz11 hz12 rfl (by decide) (.slice Aa j' ca) j' _ rfl ho4 _ _ _ _ [.int .i64 (a - 1)] rfl hrr hone hq1 hq2 hq3 ?_)
    intro v5 w5 hown5 hg5 hv5
    obtain ⟨A5, c5, rfl⟩ := kak hown5
    have HO5 : Hid (w5.ownsRow wq.heap.size 3 1 (.slice A5 (j' + 1) c5) (j' + 1) ((args.take (j' + 1)).map fun a => .int .i64 ((fRm i) a))) := hD (by rw [HTK.out]; first | exact hown5 | (rw [List.map_take]; exact hown5))
    have hbi := kaa wr (.cells #[.int .i64 (a - 1)] 3)
    exact y53
   ·
    have hgx : (fRm i) a = a := if_neg hgt
    have hxa : a = x := (hx.trans hgx).symm
    clear hx hgx
    subst hxa
    have hgt' : ¬ ((i : Int) < a) := hgt
    go_wp2_with (at_builtin; refine kam _ rfl (.tmp 35) (.tmp 37) 47 rfl wq.heap.size 3 i1 (.int .i64 0) 1 8 Tryz.underlying47 hinf1 hz10 hz11 hz12 rfl (by decide) (.slice Aa j' ca) j' _ rfl ho4 _ _ _ _ [.int .i64 (a)] rfl hrr hone hq1 hq2 hq3 ?_)
    intro v5 w5 hown5 hg5 hv5
    obtain ⟨A5, c5, rfl⟩ := kak hown5
    have HO5 : Hid (w5.ownsRow wq.heap.size 3 1 (.slice A5 (j' + 1) c5) (j' + 1) ((args.take (j' + 1)).map fun a => .int .i64 ((fRm i) a))) := hD (by rw [HTK.out]; first | exact hown5 | (rw [List.map_take]; exact hown5))
    have hbi := kaa wr (.cells #[.int .i64 (a)] 3)
    exact y53
 | guard_hyp t513q1
   have hw := IntWalk.wrap64_in (a + 1) (by omega)
   clear ha hca
   by_cases hgt : (j : Int) ≤ a
   ·
    have hgx : (fIn j) a = a + 1 := if_pos hgt
    have hxa : a + 1 = x := (hx.trans hgx).symm
    clear hx hgx
    subst hxa
    have hgt' : (j : Int) ≤ a := hgt
    go_wp2_with (at_builtin; refine kam _ rfl (.tmp 41) (.tmp 43) 47 rfl wq.heap.size 3 i1 (.int .i64 0) 1 8 Tryz.underlying47 hinf1 hz10 hz11 hz12 rfl (by decide) (.slice Aa j' ca) j' _ rfl ho4 _ _ _ _ [.int .i64 (a + 1)] rfl hrr hone hq1 hq2 hq3 ?_)
    intro v5 w5 hown5 hg5 hv5
    obtain ⟨A5, c5, rfl⟩ := kak hown5
    have HO5 : Hid (w5.ownsRow wq.heap.size 3 1 (.slice A5 (j' + 1) c5) (j' + 1) ((args.take (j' + 1)).map fun a => .int .i64 ((fIn j) a))) := hD (by rw [HTK.out]; first | exact hown5 | (rw [List.map_take]; exact hown5))
    have hbi := kaa wr (.cells #[.int .i64 (a + 1)] 3)
    exact y53
   ·
    have hgx : (fIn j) a = a := if_neg hgt
    have hxa : a = x := (hx.trans hgx).symm
    clear hx hgx
    subst hxa
    have hgt' : ¬ ((j : Int) ≤ a) := hgt
    go_wp2_with (at_builtin; refine kam _ rfl (.tmp 41) (.tmp 43) 47 rfl wq.heap.size 3 i1 (.int .i64 0) 1 8 Tryz.underlying47 hinf1 hz10 hz11 hz12 rfl (by decide) (.slice Aa j' ca) j' _ rfl ho4 _ _ _ _ [.int .i64 (a)] rfl hrr hone hq1 hq2 hq3 ?_)
    intro v5 w5 hown5 hg5 hv5
    obtain ⟨A5, c5, rfl⟩ := kak hown5
    have HO5 : Hid (w5.ownsRow wq.heap.size 3 1 (.slice A5 (j' + 1) c5) (j' + 1) ((args.take (j' + 1)).map fun a => .int .i64 ((fIn j) a))) := hD (by rw [HTK.out]; first | exact hown5 | (rw [List.map_take]; exact hown5))
    have hbi := kaa wr (.cells #[.int .i64 (a)] 3)
    exact y53
 | have hw := IntWalk.wrap64_in (a + 1) (by omega)
   clear ha hca
   by_cases hgt : (k : Int) ≤ a
   ·
    have hgx : (fIn k) a = a + 1 := if_pos hgt
    have hxa : a + 1 = x := (hx.trans hgx).symm
    clear hx hgx
    subst hxa
    have hgt' : (k : Int) ≤ a := hgt
    go_wp2_with (at_builtin; refine kam _ rfl (.tmp 41) (.tmp 43) 47 rfl wq.heap.size 3 i1 (.int .i64 0) 1 8 Tryz.underlying47 hinf1 hz10 hz11 hz12 rfl (by decide) (.slice Aa j' ca) j' _ rfl ho4 _ _ _ _ [.int .i64 (a + 1)] rfl hrr hone hq1 hq2 hq3 ?_)
    intro v5 w5 hown5 hg5 hv5
    obtain ⟨A5, c5, rfl⟩ := kak hown5
    have HO5 : Hid (w5.ownsRow wq.heap.size 3 1 (.slice A5 (j' + 1) c5) (j' + 1) ((args.take (j' + 1)).map fun a => .int .i64 ((fIn k) a))) := hD (by rw [HTK.out]; first | exact hown5 | (rw [List.map_take]; exact hown5))
    have hbi := kaa wr (.cells #[.int .i64 (a + 1)] 3)
    exact y53
   ·
    have hgx : (fIn k) a = a := if_neg hgt
    have hxa : a = x := (hx.trans hgx).symm
    clear hx hgx
    subst hxa
    have hgt' : ¬ ((k : Int) ≤ a) := hgt
    go_wp2_with (at_builtin; refine kam _ rfl (.tmp 41) (.tmp 43) 47 rfl wq.heap.size 3 i1 (.int .i64 0) 1 8 Tryz.underlying47 hinf1 hz10 hz11 hz12 rfl (by decide) (.slice Aa j' ca) j' _ rfl ho4 _ _ _ _ [.int .i64 (a)] rfl hrr hone hq1 hq2 hq3 ?_)
    intro v5 w5 hown5 hg5 hv5
    obtain ⟨A5, c5, rfl⟩ := kak hown5
    have HO5 : Hid (w5.ownsRow wq.heap.size 3 1 (.slice A5 (j' + 1) c5) (j' + 1) ((args.take (j' + 1)).map fun a => .int .i64 ((fIn k) a))) := hD (by rw [HTK.out]; first | exact hown5 | (rw [List.map_take]; exact hown5))
    have hbi := kaa wr (.cells #[.int .i64 (a)] 3)
    exact y53) : P := h
theorem y53 {P : Prop} (h : P := by
 have hg2 : wr.grownBy w5 (Value.slice Aa j' ca).ownBlock := (kaP hbi _).trans hg5
 have HB5 := hD (HBI.out.grown hg2 hzi (fun j e => (kaq HOW.out e).1))
 have HK5 := hD (HK.out.grown hg2 (fun e => kan HOW.out HK.out (by decide) e.symm))
 clear hown5 hg5 hv5 hbi hg2 ho4 hrr hone hq1 hq2 hq3 hinf1 hz10 hz11 hz12 y2
 go_wp2_with fail
 go_roundg f2
 case measure => omega
 case rel => exact ⟨j' + 1, A5, c5, by go_num, rfl, by omega, by omega, HO5, HK5, HB5⟩) : P := h
theorem y56 {P : Prop} (h : P := by
 have hov := hv6.alloc (.cells #[.string ⟨op.toArray⟩, .slice Aa args.length ca, .int .i64 num, .string ⟨text.toArray⟩, .int .i64 ty] 76)
 have hr6 := kfO w6 (.string ⟨op.toArray⟩) (.slice Aa args.length ca) (.int .i64 num) (.string ⟨text.toArray⟩) (.int .i64 ty) 76
 have hone : ∀ u ∈ ([.string ⟨op.toArray⟩, .slice Aa args.length ca, .int .i64 num, .string ⟨text.toArray⟩, .int .i64 ty] : List Value), u.oneCell' = true := by simp [Value.oneCell']
 first
 | guard_hyp t499q0
   have hq1 : n + 1 ≤ maxLen := by unfold maxLen; omega
   have hq2 : (n + 1) * 72 ≤ 140737488355328 := by omega
   have hz6 := hb6.size
   have hq3 : w.heap.size ≤ (w6.alloc (.cells #[.string ⟨op.toArray⟩, .slice Aa args.length ca, .int .i64 num, .string ⟨text.toArray⟩, .int .i64 ty] 76)).heap.size := by have := (kaa w6 (.cells #[.string ⟨op.toArray⟩, .slice Aa args.length ca, .int .i64 num, .string ⟨text.toArray⟩, .int .i64 ty] 76)).size; omega
   obtain ⟨i0, hinf0, hz00, hz01, hz02⟩ := info_parts kc2
   have HB6 := hD hb6
   have HI6 := hD ho6
   have HOV := hD hov
   clear hw6 hk6 hb6 ho6 hv6 z1 z2
   go_wp2_with (at_builtin; refine kam _ rfl (.tmp 42) (.tmp 44) 22 rfl (w.heap.size) 76 i0 (.agg #[.string ⟨#[]⟩, .slice none 0 0, .int .i64 0, .string ⟨#[]⟩, .int .i64 0]) 5 72 Tryz.underlying22 hinf0 hz00 hz01 hz02 rfl (by decide) (.slice Ap n cp) n css rfl hov (w6.heap.size + 1) (some ⟨w6.heap.size, 0, none⟩) 1 1 [.string ⟨op.toArray⟩, .slice Aa args.length ca, .int .i64 num, .string ⟨text.toArray⟩, .int .i64 ty] rfl hr6 hone hq1 hq2 hq3 ?_)
   intro v7 w7 hown7 hg7 hv7
   obtain ⟨A7, c7, rfl⟩ := kak hown7
   have hg2 : wo.grownBy w7 (Value.slice Ap n cp).ownBlock := (kaP (HB6.out.alloc HB6.out.size _) _).trans hg7
   have hki : ∀ i cur, Blk wo i 3 cur → w7.heap[i]? = wo.heap[i]? := fun i cur hb => hg2.block i hb.lt (fun e => kan HV.out hb (by decide) e.symm)
   have hI7 : w7.ownsRow wq.heap.size 3 1 (.slice Aa args.length ca) args.length (args.map fun a => .int .i64 ((fRm i) a)) := kaA (HI6.out.alloc _) (fun g' hg => by
    obtain ⟨_, cur, hc⟩ := kaq (HI6.out.alloc (.cells #[.string ⟨op.toArray⟩, .slice Aa args.length ca, .int .i64 num, .string ⟨text.toArray⟩, .int .i64 ty] 76)) hg
    exact hg7.block g' hc.lt (fun e => kan HOV.out hc (by decide) e.symm))
   have HLK := hD (Rf.remK_succ (f := fRm i) HS.out hki0)
   have HT7 : Hid (StVs w7 (fmF w7 w.heap.size) ((Rf.remK (fRm i) l i) (k + 1)) (css ++ [.string ⟨op.toArray⟩, .slice Aa args.length ca, .int .i64 num, .string ⟨text.toArray⟩, .int .i64 ty])) := hD (by
    rw [HLK.out]
    refine StVs.append (HT.out.keep_fm (fun i h1 h2 => hg2.block i h2 (fun e => by have := (kaq HV.out e.symm).1; omega)) hki hg2.size) (StVs.one ⟨Aa, ca, by unfold Oz.mapA; simp, ?_⟩)
    unfold Oz.mapA
    rw [List.length_map, List.map_map]
    exact kbA hI7)
   have HN7 : Hid (n + 1 = ((Rf.remK (fRm i) l i) (k + 1)).length) := hD (by rw [HLK.out, List.length_append, List.length_singleton, HN.out])
   have HV7 := hD hown7
   have HB7 := hD (HB.out.grown hg2 hzr (fun j e => by have := (kaq HV.out e).1; omega))
   have hz7 : w.heap.size ≤ w7.heap.size := Nat.le_trans hBr hg2.size
   clear hown7 hg7 hv7 hg2 hki hI7 hov hr6 hone hq1 hq2 hq3 hinf0 hz00 hz01 hz02 y0 y1 y2 y3 y4
   go_wp2_with fail
   go_roundg f
   case measure => omega
   case rel => exact ⟨k + 1, n + 1, A7, c7, _, by go_num, rfl, by omega, by omega, hz7, HN7, HV7, HT7, HB7⟩
 | guard_hyp t499q1
   have hq1 : n + 1 ≤ maxLen := by unfold maxLen; omega
   have hq2 : (n + 1) * 72 ≤ 140737488355328 := by omega
   have hz6 := hb6.size
   have hq3 : w.heap.size + 1 ≤ (w6.alloc (.cells #[.string ⟨op.toArray⟩, .slice Aa args.length ca, .int .i64 num, .string ⟨text.toArray⟩, .int .i64 ty] 76)).heap.size := by have := (kaa w6 (.cells #[.string ⟨op.toArray⟩, .slice Aa args.length ca, .int .i64 num, .string ⟨text.toArray⟩, .int .i64 ty] 76)).size; omega
   obtain ⟨i0, hinf0, hz00, hz01, hz02⟩ := info_parts kc2
   have HB6 := hD hb6
   have HI6 := hD ho6
   have HOV := hD hov
   clear hw6 hk6 hb6 ho6 hv6 z1 z2
   go_wp2_with (at_builtin; refine kam _ rfl (.tmp 48) (.tmp 50) 22 rfl (w.heap.size + 1) 76 i0 (.agg #[.string ⟨#[]⟩, .slice none 0 0, .int .i64 0, .string ⟨#[]⟩, .int .i64 0]) 5 72 Tryz.underlying22 hinf0 hz00 hz01 hz02 rfl (by decide) (.slice Ap n cp) n css rfl hov (w6.heap.size + 1) (some ⟨w6.heap.size, 0, none⟩) 1 1 [.string ⟨op.toArray⟩, .slice Aa args.length ca, .int .i64 num, .string ⟨text.toArray⟩, .int .i64 ty] rfl hr6 hone hq1 hq2 hq3 ?_)
   intro v7 w7 hown7 hg7 hv7
   obtain ⟨A7, c7, rfl⟩ := kak hown7
   have hg2 : wo.grownBy w7 (Value.slice Ap n cp).ownBlock := (kaP (HB6.out.alloc HB6.out.size _) _).trans hg7
   have hki : ∀ i cur, Blk wo i 3 cur → w7.heap[i]? = wo.heap[i]? := fun i cur hb => hg2.block i hb.lt (fun e => kan HV.out hb (by decide) e.symm)
   have hI7 : w7.ownsRow wq.heap.size 3 1 (.slice Aa args.length ca) args.length (args.map fun a => .int .i64 ((fIn j) a)) := kaA (HI6.out.alloc _) (fun g' hg => by
    obtain ⟨_, cur, hc⟩ := kaq (HI6.out.alloc (.cells #[.string ⟨op.toArray⟩, .slice Aa args.length ca, .int .i64 num, .string ⟨text.toArray⟩, .int .i64 ty] 76)) hg
    exact hg7.block g' hc.lt (fun e => kan HOV.out hc (by decide) e.symm))
   have HLK := hD (Rf.insK_succ (f := fIn j) (x := x) HS.out hki0)
   have HT7 : Hid (StVs w7 (fmF w7 w.heap.size) ((Rf.insK (fIn j) l j x) (k + 1)) (css ++ [.string ⟨op.toArray⟩, .slice Aa args.length ca, .int .i64 num, .string ⟨text.toArray⟩, .int .i64 ty])) := hD (by
    rw [HLK.out]
    refine StVs.append (HT.out.keep_fm (fun i h1 h2 => hg2.block i h2 (fun e => by have := (kaq HV.out e.symm).1; omega)) hki hg2.size) (StVs.one ⟨Aa, ca, by unfold Oz.mapA; simp, ?_⟩)
    unfold Oz.mapA
    rw [List.length_map, List.map_map]
    exact kbA hI7)
   have HN7 : Hid (n + 1 = ((Rf.insK (fIn j) l j x) (k + 1)).length) := hD (by rw [HLK.out, List.length_append, List.length_singleton, HN.out])
   have HV7 := hD hown7
   have HB7 := hD (HB.out.grown hg2 hzr (fun j e => by have := (kaq HV.out e).1; omega))
   have hz7 : w.heap.size + 1 ≤ w7.heap.size := Nat.le_trans hBr hg2.size
   have HX7 := hD (HX.out.grown hg2 (fun e => by have := (kaq HV.out e.symm).1; omega))
   clear hown7 hg7 hv7 hg2 hki hI7 hov hr6 hone hq1 hq2 hq3 hinf0 hz00 hz01 hz02 y0 y1 y2 y3 y4
   go_wp2_with fail
   go_roundg f
   case measure => omega
   case rel => exact ⟨⟨k + 1, n + 1, A7, c7, _, by go_num, rfl, by omega, by omega, hz7, HN7, HV7, HT7, HB7⟩, HX7⟩
 | have hq1 : n3 + 1 ≤ maxLen := by unfold maxLen; omega
   have hq2 : (n3 + 1) * 72 ≤ 140737488355328 := by omega
   have hz6 := hb6.size
   have hq3 : w.heap.size + 1 ≤ (w6.alloc (.cells #[.string ⟨op.toArray⟩, .slice Aa args.length ca, .int .i64 num, .string ⟨text.toArray⟩, .int .i64 ty] 76)).heap.size := by have := (kaa w6 (.cells #[.string ⟨op.toArray⟩, .slice Aa args.length ca, .int .i64 num, .string ⟨text.toArray⟩, .int .i64 ty] 76)).size; omega
   obtain ⟨i0, hinf0, hz00, hz01, hz02⟩ := info_parts kc2
   have HB6 := hD hb6
   have HI6 := hD ho6
   have HOV := hD hov
   clear hw6 hk6 hb6 ho6 hv6 z1 z2
   go_wp2_with (at_builtin; refine kam _ rfl (.tmp 48) (.tmp 50) 22 rfl (w.heap.size + 1) 76 i0 (.agg #[.string ⟨#[]⟩, .slice none 0 0, .int .i64 0, .string ⟨#[]⟩, .int .i64 0]) 5 72 Tryz.underlying22 hinf0 hz00 hz01 hz02 rfl (by decide) (.slice A3 n3 c3) n3 css3 rfl hov (w6.heap.size + 1) (some ⟨w6.heap.size, 0, none⟩) 1 1 [.string ⟨op.toArray⟩, .slice Aa args.length ca, .int .i64 num, .string ⟨text.toArray⟩, .int .i64 ty] rfl hr6 hone hq1 hq2 hq3 ?_)
   intro v7 w7 hown7 hg7 hv7
   obtain ⟨A7, c7, rfl⟩ := kak hown7
   have hg2 : w3.grownBy w7 (Value.slice A3 n3 c3).ownBlock := (kaP (HB6.out.alloc HB6.out.size _) _).trans hg7
   have hki : ∀ i cur, Blk w3 i 3 cur → w7.heap[i]? = w3.heap[i]? := fun i cur hb => hg2.block i hb.lt (fun e => kan HV3.out hb (by decide) e.symm)
   have hI7 : w7.ownsRow wq.heap.size 3 1 (.slice Aa args.length ca) args.length (args.map fun a => .int .i64 ((fIn k) a)) := kaA (HI6.out.alloc _) (fun g' hg => by
    obtain ⟨_, cur, hc⟩ := kaq (HI6.out.alloc (.cells #[.string ⟨op.toArray⟩, .slice Aa args.length ca, .int .i64 num, .string ⟨text.toArray⟩, .int .i64 ty] 76)) hg
    exact hg7.block g' hc.lt (fun e => kan HOV.out hc (by decide) e.symm))
   have HLK := hD (Rf.insK_at (f := fIn k) (x := x) HS.out)
   have HT7 : Hid (StVs w7 (fmF w7 w.heap.size) ((Rf.insK (fIn k) l k x) (k + 1)) (css3 ++ [.string ⟨op.toArray⟩, .slice Aa args.length ca, .int .i64 num, .string ⟨text.toArray⟩, .int .i64 ty])) := hD (by
    rw [HLK.out]
    refine StVs.append (HT3.out.keep_fm (fun i h1 h2 => hg2.block i h2 (fun e => by have := (kaq HV3.out e.symm).1; omega)) hki hg2.size) (StVs.one ⟨Aa, ca, by unfold Oz.mapA; simp, ?_⟩)
    unfold Oz.mapA
    rw [List.length_map, List.map_map]
    exact kbA hI7)
   have HN7 : Hid (n3 + 1 = ((Rf.insK (fIn k) l k x) (k + 1)).length) := hD (by rw [HLK.out, List.length_append, List.length_singleton, HN3.out])
   have HV7 := hD hown7
   have HB7 := hD (HB3.out.grown hg2 hzr3 (fun j e => by have := (kaq HV3.out e).1; omega))
   have hz7 : w.heap.size + 1 ≤ w7.heap.size := Nat.le_trans hBr3 hg2.size
   have HX7 := hD (HX3.out.grown hg2 (fun e => by have := (kaq HV3.out e.symm).1; omega))
   clear hown7 hg7 hv7 hg2 hki hI7 hov hr6 hone hq1 hq2 hq3 hinf0 hz00 hz01 hz02 y0 y1 y2 y3 y4
   go_wp2_with fail
   go_roundg f
   case measure => omega
   case rel => exact ⟨⟨k + 1, n3 + 1, A7, c7, _, by go_num, rfl, by omega, by omega, hz7, HN7, HV7, HT7, HB7⟩, HX7⟩) : P := h
def RvRel (w : World) (B : Nat) (L : Nat → List St) (N f : Nat) (v i : Value) (wr : World) : Prop := ∃ (k n : Nat) (A : Option Addr) (c : Nat) (css : List Value), i = .int .i64 k ∧ v = .slice A n c ∧ k ≤ N ∧ N - k < f ∧ B ≤ wr.heap.size ∧ Hid (n = (L k).length) ∧
 Hid (wr.ownsRow B 76 5 (.slice A n c) n css) ∧ Hid (StVs wr (fmF wr w.heap.size) (L k) css) ∧ Hid (Below w.heap.size w wr)
def RaRel (wq : World) (args : List Int) (g : Int → Int) (b : Nat) (cells : Array Value) (f : Nat) (v i : Value) (wi : World) : Prop := ∃ (j : Nat) (A : Option Addr) (c : Nat), i = .int .i64 j ∧ v = .slice A j c ∧ j ≤ args.length ∧ args.length - j < f ∧ Hid (wi.ownsRow wq.heap.size 3 1 (.slice A j c) j ((args.take j).map fun a => .int .i64 (g a))) ∧ Hid (Blk wi b 76 cells) ∧ Hid (Below wq.heap.size wq wi)
theorem kcR (A : Option Addr) (c : Nat) (l : List St) (w : World) (h : ArgPl w A l) (hb : BdL l) (i : Nat) (hi : i < l.length) :
  Calls Tryz.prog 148 #[.slice A l.length c, .int .i64 i] w (kbd w (Rf.removeL l i)) := by
 have HA := hD h
 have HM := hD hb
 have hn := hb.len
 have HALL := hD (Rf.remK_all hi)
 have HB0 := hD (Below.refl w.heap.size w)
 have HZ : Hid (0 = (Rf.remK (fRm i) l i 0).length) := hD (by rw [Rf.remK_zero]; rfl)
 have HZ0 := hD (show StVs w (fmF w w.heap.size) (Rf.remK (fRm i) l i 0) [] by rw [Rf.remK_zero]; rfl)
 obtain ⟨N, hN⟩ := xE l.length
 have HNN := hD hN
 rw [← hN] at hn hi ⊢
 clear h hb hN
 go_enter Tryz.func148, Tryz.ntmps148
 go_wp2_with fail
 go_loopg [5, 6, 7, 8, 10, 13] (N + 1) (fun f v _ _ _ _ ix wr => RvRel w w.heap.size (Rf.remK (fRm i) l i) N f v ix wr)
 case atStart => exact ⟨0, 0, none, 0, [], rfl, rfl, by omega, by omega, Nat.le_refl _, HZ, hD (World.ownsRow_nil _ _ _ _), HZ0, HB0⟩
 case round =>
  clear HB0 HZ HZ0
  obtain ⟨k, n, Ap, cp, css, rfl, rfl, hk, hkf, hBr, HN, HV, HT, HB⟩ := hrel
  obtain ⟨wo, hwo⟩ := xE wr
  subst hwo
  have hnk : n ≤ k + 1 := by rw [HN.out]; exact Nat.le_succ_of_le Rf.remK_len
  obtain ⟨f, rfl⟩ : ∃ f, gk = f + 1 := ⟨gk - 1, by omega⟩
  have hzr := HB.out.size
  by_cases hlt : k < N
  ·
   have q0 : (k : Int) < (N : Int) := by omega
   have q1 : (0 : Int) ≤ (k : Int) := by omega
   by_cases hki0 : k = i
   ·
    subst hki0
    have HT7 : Hid (StVs wo (fmF wo w.heap.size) (Rf.remK (fRm k) l k (k + 1)) css) := hD (by rw [Rf.remK_skip]; exact HT.out)
    have HN7 : Hid (n = (Rf.remK (fRm k) l k (k + 1)).length) := hD (by rw [Rf.remK_skip]; exact HN.out)
    go_wp2_with fail
    go_roundg f
    case measure => omega
    case rel => exact ⟨k + 1, n, Ap, cp, css, by go_num, rfl, by omega, by omega, hBr, HN7, HV, HT7, HB⟩
   have hke : ((k : Int) == (i : Int)) = false := beq_eq_false_iff_ne.2 (by omega)
   have hke' : ¬ ((k : Int) = (i : Int)) := by omega
   obtain ⟨s, hs⟩ : ∃ s, l[k]? = some s := ⟨l[k]'(by rw [← HNN.out]; exact hlt), List.getElem?_eq_getElem _⟩
   have HS := hD hs
   clear hs
   obtain ⟨op, args, num, text, ty⟩ := s
   obtain ⟨b0, o, As, cs, rfl, hbl0, x0, x1, x2, x3, x4, hrd⟩ := (HA.out.below HB.out) k _ HS.out
   dsimp only at x0 x1 x2 x3 x4 hrd
   have hag := HM.out.arg _ (List.mem_of_getElem? HS.out)
   dsimp only at hag
   have hal := hag.1
   have HAG := hD hag.2
   have HRD := hD hrd
   clear hag hrd
   go_upto_region 7 with (fail)
   have t539q0 := True.intro
   exact y96
  ·
   have hkl : k = N := by omega
   subst hkl
   have q0 : ¬ ((k : Int) < (k : Int)) := by omega
   have HAP : Hid (ArgPl wo Ap (Rf.removeL l i)) := hD (by
    have ht := HT.out
    have hv := HV.out
    rw [HN.out] at hv
    rw [HNN.out, HALL.out] at ht hv
    exact ArgPl.of_rows hv ht)
   have HCAP : Hid ((Rf.removeL l i).length ≤ cp) := hD (by have h1 := kjA HV.out; have h2 := HN.out; rw [HNN.out, HALL.out] at h2; omega)
   have HLN : Hid (n = (Rf.removeL l i).length) := hD (by rw [HN.out, HNN.out, HALL.out])
   go_wp2_with fail
   go_ret
   exact ⟨HB.out, Ap, cp, by rw [HLN.out]; rfl, HCAP.out, HAP.out⟩
end Go.Proofs.YtamhdmkolfmmdaaGreatDoor
