/- The walks of plan.Uses of a plan that is right, and of the document's Uses and Cost. The walk of is of the laws on plans: a plan has exactly the steps that came in. -/
import Derived.Test.YtoegklpomlhneaaGreatDoorqPpP
import Derived.Test.YtoegklpomlhneaaGreatDoorqCkW
import Derived.Test.YtoegklpomlhneaaGreatDoorqStp
import Derived.Test.YtoegklpomlhneaaGreatDoorqRq
import Derived.Lib.QuietBelow
namespace Go.Proofs.YtoegklpomlhneaaGreatDoor
open Go.RowKit
def uarr (z : List Int) : Array Value := (z.map (Value.int .i64)).toArray
theorem uarr_get {z : List Int} {a : Nat} (h : a < z.length) : (uarr z)[a]? = some (.int .i64 (z.getD a 0)) := by
  unfold uarr
  rw [List.getElem?_toArray, List.getElem?_map, List.getElem?_eq_getElem h, List.getD_eq_getElem?_getD, List.getElem?_eq_getElem h]
  rfl
theorem uarr_set (z : List Int) (a : Nat) : (uarr z).setIfInBounds a (.int .i64 (z.getD a 0 + 1)) = uarr (bump z (a : Int)) := by
  unfold uarr bump
  rw [List.setIfInBounds_toArray, ← List.map_set, Int.toNat_natCast]
theorem uses_small {l : List St} (hc : checkR l = 0) : ∀ s ∈ l, s.args.length ≤ 3 := fun s hs => by
  obtain ⟨i, hi⟩ := List.getElem?_of_mem hs
  obtain ⟨o, ho⟩ := stepE_zero ((checkR_zero hc).2.2 i s hi)
  rw [ho.len]; exact opR_small ho.op
def UsRel (w : World) (l : List St) (G f : Nat) (i : Value) (wr : World) : Prop := ∃ k : Nat, i = .int .i64 k ∧ k ≤ l.length ∧ l.length - k < f ∧ Hid (Blk wr G 3 (uarr (usesK l k))) ∧ Hid (Below w.heap.size w wr)
def UiRel (w : World) (z args : List Int) (G f : Nat) (i : Value) (wr : World) : Prop := ∃ j : Nat, i = .int .i64 j ∧ j ≤ args.length ∧ args.length - j < f ∧ Hid (Blk wr G 3 (uarr (bumps z (args.take j)))) ∧ Hid (Below w.heap.size w wr)
set_option maxRecDepth 100000 in
set_option maxHeartbeats 8000000 in
theorem rUses_ok (A : Option Addr) (c : Nat) (l : List St) (w : World) (h : ArgPl w A l) (hc : checkR l = 0) :
    Calls Tryz.prog 15 #[.slice A l.length c] w fun e w' => e = .returned (.slice (some ⟨w.heap.size, 0, none⟩) l.length l.length) ∧ Blk w' w.heap.size 3 (uarr (usesR l)) ∧ Below w.heap.size w w' := by
  have hz := checkR_zero hc
  have hn : l.length ≤ 4096 := hz.2.1
  obtain ⟨i0, hinf, hz0, hz1, hz2⟩ := info_parts infoInt
  have hmk : ∀ W : World, (Instr.makeSlice 25 (.int .i64 (l.length : Int)) (.int .i64 (l.length : Int))).run Tryz.prog W = .ok (.slice (some ⟨W.heap.size, 0, none⟩) l.length l.length) (W.alloc (.cells (uarr (usesK l 0)) 3)) := fun W => by
    have h := run_make_rowN (P := Tryz.prog) 25 3 i0 (.int .i64 0) Tryz.underlying25 hinf hz0 .i64 .i64 l.length l.length (Nat.le_refl _) (by rw [hz2]; omega) (by omega) W
    rw [hz1, made_ints] at h
    rw [usesK_zero]
    exact h
  have HA := Lib.hid h
  have HC := Lib.hid hc
  have HM := Lib.hid hmk
  have HSM := Lib.hid (uses_small hc)
  have HUB := Lib.hid (usesK_bd (uses_small hc) (by omega : l.length ≤ 100000))
  clear h hc hz hinf hz0 hz1 hz2 hmk
  have hmk := HM.out
  go_enter Tryz.func15, Tryz.ntmps15
  go_wp2_with fail
  clear hmk
  go_loopg [4, 5] (l.length + 1) (fun f i _ wr => UsRel w l w.heap.size f i wr)
  case atStart => exact ⟨0, rfl, by omega, by omega, Lib.hid (Blk.new w _ _), Lib.hid (below_alloc w _)⟩
  case round =>
    obtain ⟨k, rfl, hk, hkf, HG, HB⟩ := hrel
    obtain ⟨f, rfl⟩ : ∃ f, gk = f + 1 := ⟨gk - 1, by omega⟩
    have hgl := HG.out.lt
    by_cases hlt : k < l.length
    · obtain ⟨s, hs⟩ : ∃ s, l[k]? = some s := ⟨l[k], List.getElem?_eq_getElem hlt⟩
      obtain ⟨b, ob, As, cs, rfl, hbl, x0, x1, x2, x3, x4, har⟩ := HA.out k s hs
      have hal := HSM.out s (List.mem_of_getElem? hs)
      obtain ⟨o, ho⟩ := stepE_zero ((checkR_zero HC.out).2.2 k s hs)
      have HBK := Lib.hid ho.back
      have HU := Lib.hid (usesK_succ hs)
      have HAR := Lib.hid har
      have hbd := HUB.out k
      have hzl := usesK_len l k
      generalize usesK l k = z at *
      have HBD := Lib.hid hbd
      have HZL := Lib.hid hzl
      have q0 : (k : Int) < (l.length : Int) := by omega
      have q1 : (0 : Int) ≤ (k : Int) := by omega
      obtain ⟨op, args, num, text, ty⟩ := s
      dsimp only at x0 x1 x2 x3 x4 hal HBK HU HAR
      have HX1 := Lib.hid x1
      have HGz := Lib.hid (show Blk wr w.heap.size 3 (uarr (bumps z (args.take 0))) from by simpa [bumps] using HG.out)
      clear hs ho har x0 x1 x2 x3 x4 hbd hzl HG
      go_wp2_with fail
      go_loopg [5] (args.length + 1) (fun f i wr => UiRel w z args w.heap.size f i wr)
      case atStart => exact ⟨0, rfl, by omega, by omega, HGz, HB⟩
      case round =>
        clear HGz HB hgl
        obtain ⟨j, rfl, hj, hjf, HG, HB⟩ := hrel
        obtain ⟨f2, rfl⟩ : ∃ f2, gk = f2 + 1 := ⟨gk - 1, by omega⟩
        have hgl := HG.out.lt
        have y1 := (HB.out.cell (p := ⟨b, ob + k * 5 + 1, none⟩) hbl).trans HX1.out
        by_cases hjl : j < args.length
        · obtain ⟨a, ha⟩ : ∃ a, args[j]? = some a := ⟨args[j], List.getElem?_eq_getElem hjl⟩
          have hbk := HBK.out a (List.mem_of_getElem? ha)
          obtain ⟨m, rfl⟩ := natInt hbk.1
          obtain ⟨ba, oa, rfl, hba, hca⟩ := (HAR.out.below HB.out).form (by omega)
          have y2 := hca j (.int .i64 m) (by rw [List.getElem?_map, ha]; rfl)
          have hzz : (bumps z (args.take j)).length = l.length := (bumps_len _ _).trans HZL.out
          have hup := HBD.out.bumps (args.take j) (by omega)
          have hlj : (args.take j).length ≤ 3 := by have := List.length_take_le j args; omega
          have hx := hup.get (by omega) m
          have HSN : Hid (bumps z (args.take (j + 1)) = bump (bumps z (args.take j)) (m : Int)) := Lib.hid (by rw [List.take_add_one, ha, Option.toList_some]; exact bumps_snoc _ _ _)
          generalize bumps z (args.take j) = zz at *
          have y3 : wr.cell? ⟨w.heap.size, m, none⟩ = some (.int .i64 (zz.getD m 0)) := by rw [HG.out.cell]; exact uarr_get (by omega)
          have y4 := HG.out.frozen m
          have HGS := Lib.hid (HG.out.set_ m (.int .i64 (zz.getD m 0 + 1)))
          rw [uarr_set, ← HSN.out] at HGS
          generalize zz.getD m 0 = u at *
          have p0 : (j : Int) < (args.length : Int) := by omega
          have p1 : (0 : Int) ≤ (j : Int) := by omega
          have p2 : (m : Int) < (l.length : Int) := by omega
          have p3 : (0 : Int) ≤ (m : Int) := by omega
          have hw := IntWalk.wrap64_in (u + 1) (by omega)
          clear ha hbk hca hup
          go_wp2_with fail
          go_roundg f2
          case measure => omega
          case rel => exact ⟨j + 1, by go_num, by omega, by omega, HGS, Lib.hid (HB.out.setCell (p := ⟨w.heap.size, m, none⟩) (Nat.le_refl _) _)⟩
        · have hjs : j = args.length := by omega
          subst hjs
          have p0 : ¬ ((args.length : Int) < (args.length : Int)) := by omega
          have hgg := HG.out
          rw [List.take_length, ← HU.out] at hgg
          have HGG := Lib.hid hgg
          clear hgg
          go_wp2_with fail
          go_roundg f
          case measure => omega
          case rel => exact ⟨k + 1, by go_num, by omega, by omega, HGG, HB⟩
    · have hkl : k = l.length := by omega
      subst hkl
      have q0 : ¬ ((l.length : Int) < (l.length : Int)) := by omega
      go_wp2_with fail
      go_ret
      exact ⟨rfl, HG.out, HB.out⟩
/-- The costs that the document's table gives. -/
theorem first_cost {l : List St} (hc : checkR l = 0) {k : Nat} {s : St} (hs : l[k]? = some s) : ∃ r, firstR s.op = some r ∧ r.cost = costR s.op ∧ r.op = s.op ∧ textsR r = hasText s.op ∧
    (1 + (if r.regex = true then 1 else 0) + (if s.op = nMatches ∨ s.op = nFirstfind ∨ s.op = nLencut then 1 else 0) : Int) = baseN s.op := by
  obtain ⟨o, ho⟩ := stepE_zero ((checkR_zero hc).2.2 k s hs)
  obtain ⟨r, h1, h2, h3⟩ := name_cost (opR_name ho.op)
  obtain ⟨o', r', h4, h5, N⟩ := name_ok (opR_name ho.op)
  rw [h1] at h5
  injection h5 with h5
  subst h5
  refine ⟨r, h1, h2, (firstR_name h1).1, ?_, h3⟩
  rw [N.text]
  unfold hasText
  rw [h4]
def RcRel (w : World) (l : List St) (f : Nat) (v i : Value) (wr : World) : Prop := ∃ k : Nat, i = .int .i64 k ∧ k ≤ l.length ∧ l.length - k < f ∧ v = .int .i64 (costL (l.take k)) ∧ Hid (Below w.heap.size w wr)
set_option maxRecDepth 100000 in
set_option maxHeartbeats 8000000 in
theorem rCost_ok (A : Option Addr) (c : Nat) (l : List St) (w : World) (h : ArgPl w A l) (hc : checkR l = 0) :
    Calls Tryz.prog 13 #[.slice A l.length c] w fun e w' => e = .returned (.int .i64 (costL l)) ∧ Below w.heap.size w w' := by
  have hn : l.length ≤ 4096 := (checkR_zero hc).2.1
  have HA := Lib.hid h
  have HC := Lib.hid hc
  clear h hc
  go_enter Tryz.func13, Tryz.ntmps13
  go_wp2_with fail
  go_loopg [3, 4, 5, 6] (l.length + 1) (fun f v i _ _ wr => RcRel w l f v i wr)
  case atStart => exact ⟨0, rfl, by omega, by omega, rfl, Lib.hid (Below.refl _ _)⟩
  case round =>
    obtain ⟨k, rfl, hk, hkf, rfl, HB⟩ := hrel
    obtain ⟨f, rfl⟩ : ∃ f, gk = f + 1 := ⟨gk - 1, by omega⟩
    by_cases hlt : k < l.length
    · obtain ⟨s, hs⟩ : ∃ s, l[k]? = some s := ⟨l[k], List.getElem?_eq_getElem hlt⟩
      obtain ⟨b, ob, As, cs, rfl, hbl, x0, x1, x2, x3, x4, har⟩ := (HA.out.below HB.out) k s hs
      obtain ⟨r, hr, hrc, _⟩ := first_cost HC.out hs
      have htk : l.take (k + 1) = l.take k ++ [s] := by rw [List.take_add_one, hs]; rfl
      have HTK := Lib.hid htk
      have h1 := costL_bd (l.take k)
      have h2 := costR_bd s.op
      have hlk : (l.take k).length ≤ k := List.length_take_le _ _
      have HFI := Lib.hid (first_any s.op wr)
      have HR := Lib.hid hr
      have HRC := Lib.hid hrc
      have q0 : (k : Int) < (l.length : Int) := by omega
      have q1 : (0 : Int) ≤ (k : Int) := by omega
      have hw := IntWalk.wrap64_in (costL (l.take k) + costR s.op) (by omega)
      have HW := Lib.hid hw
      clear hs hr hrc htk har hlk hw x1 x2 x3 x4
      go_wp2_with fail
      refine HFI.out.mono ?_
      rintro e w2 ⟨hb2, he⟩
      rw [HR.out] at he
      subst he
      rw [HRC.out]
      have hw := HW.out
      have HB2 := Lib.hid (fun o : Obj => (HB.out.trans (hb2.mono HB.out.size)).alloc (Nat.le_trans HB.out.size hb2.size) o)
      clear hb2
      go_wp2_with fail
      go_roundg f
      case measure => omega
      case rel => exact ⟨k + 1, by go_num, by omega, by omega, by rw [HTK.out, costL_snoc, HW.out], Lib.hid (HB2.out _)⟩
    · have hkl : k = l.length := by omega
      subst hkl
      have q0 : ¬ ((l.length : Int) < (l.length : Int)) := by omega
      go_wp2_with fail
      go_ret
      exact ⟨rfl, HB.out⟩
set_option maxRecDepth 100000 in
set_option maxHeartbeats 8000000 in
theorem Uses_ok (A : Option Addr) (c : Nat) (l : List St) (w : World) (hP : PlAt w (fun i => i < w.heap.size) A l) (hm : Modest l) (hc : checkR l = 0) :
    Calls Tryz.prog 10 #[.agg #[.slice A l.length c]] w fun e w' => ∃ G, e = .returned (.tuple #[.slice (some ⟨G, 0, none⟩) l.length l.length, .nilIface]) ∧ Blk w' G 3 (uarr (usesR l)) ∧ Below w.heap.size w w' := by
  have hz := checkR_zero hc
  have hn : l.length ≤ 4096 := hz.2.1
  obtain ⟨i0, hinf, hz0, hz1, hz2⟩ := info_parts infoInt
  have hmk : ∀ W : World, (Instr.makeSlice 25 (.int .i64 (l.length : Int)) (.int .i64 (l.length : Int))).run Tryz.prog W = .ok (.slice (some ⟨W.heap.size, 0, none⟩) l.length l.length) (W.alloc (.cells (uarr (usesK l 0)) 3)) := fun W => by
    have h := run_make_rowN (P := Tryz.prog) 25 3 i0 (.int .i64 0) Tryz.underlying25 hinf hz0 .i64 .i64 l.length l.length (Nat.le_refl _) (by rw [hz2]; omega) (by omega) W
    rw [hz1, made_ints] at h
    rw [usesK_zero]
    exact h
  have HP := Lib.hid hP
  have HC := Lib.hid hc
  have HM := Lib.hid hmk
  have HSM := Lib.hid (uses_small hc)
  have HUB := Lib.hid (usesK_bd (uses_small hc) (by omega : l.length ≤ 100000))
  have HBB := Lib.hid (Blk.new w 29 #[.slice A l.length c])
  have hck := Check_any A c l (w.alloc (.cells #[.slice A l.length c] 29)) (hP.below (below_alloc w _)) hm
  have HCK := Lib.hid hck
  have hv : errV (checkR l) = .nilIface := by rw [hc]; rfl
  have HV0 := Lib.hid hv
  clear hP hc hz hinf hz0 hz1 hz2 hmk hck hv hm
  go_enter Tryz.func10, Tryz.ntmps10
  go_wp2_with fail
  refine HCK.out.mono ?_
  rintro e w1 ⟨rfl, hb1⟩
  rw [HV0.out]
  have HB1 := Lib.hid ((below_alloc w (.cells #[.slice A l.length c] 29)).trans (hb1.mono (by simp)))
  have HX1 := Lib.hid (HBB.out.below hb1 (by simp))
  have s0 := HX1.out.cell 0
  simp only [List.getElem?_toArray, List.getElem?_cons_zero] at s0
  have hl0 := HX1.out.lt
  have hmk := HM.out
  clear hb1
  have s1 : (w1.alloc (.cells (uarr (usesK l 0)) 3)).cell? ⟨w.heap.size, 0, none⟩ = some (.slice A l.length c) := ((below_alloc w1 _).cell (p := ⟨w.heap.size, 0, none⟩) hl0).trans s0
  go_wp2_with fail
  clear hmk s0 s1
  go_loopg [7, 9, 22, 29] (l.length + 1) (fun f _ _ i _ wr => UsRel w l w1.heap.size f i wr)
  case atStart => exact ⟨0, rfl, by omega, by omega, Lib.hid (Blk.new w1 _ _), Lib.hid (HB1.out.alloc HB1.out.size _)⟩
  case round =>
    obtain ⟨k, rfl, hk, hkf, HG, HB⟩ := hrel
    obtain ⟨f, rfl⟩ : ∃ f, gk = f + 1 := ⟨gk - 1, by omega⟩
    have hgl := HG.out.lt
    have hz1 := HB1.out.size
    by_cases hlt : k < l.length
    · obtain ⟨s, hs⟩ : ∃ s, l[k]? = some s := ⟨l[k], List.getElem?_eq_getElem hlt⟩
      obtain ⟨b, ob, As, cs, rfl, hbF, hbl, x0, x1, x2, x3, x4, har⟩ := (HP.out.at_ HB.out).step hs
      have hal := HSM.out s (List.mem_of_getElem? hs)
      obtain ⟨o, ho⟩ := stepE_zero ((checkR_zero HC.out).2.2 k s hs)
      have HBK := Lib.hid ho.back
      have HU := Lib.hid (usesK_succ hs)
      have HAR := Lib.hid har
      have hbd := HUB.out k
      have hzl := usesK_len l k
      generalize usesK l k = z at *
      have HBD := Lib.hid hbd
      have HZL := Lib.hid hzl
      have q0 : (k : Int) < (l.length : Int) := by omega
      have q1 : (0 : Int) ≤ (k : Int) := by omega
      obtain ⟨op, args, num, text, ty⟩ := s
      dsimp only at x0 x1 x2 x3 x4 hal HBK HU HAR
      have HGz := Lib.hid (fun o => show Blk (wr.alloc o) w1.heap.size 3 (uarr (bumps z (args.take 0))) from by simpa [bumps] using HG.out.alloc o)
      have HBz := Lib.hid (fun o => HB.out.alloc HB.out.size o)
      clear hs ho har hbd hzl HG
      go_wp2_with fail
      go_loopg [9, 29] (args.length + 1) (fun f _ i wi => UiRel w z args w1.heap.size f i wi)
      case atStart => exact ⟨0, rfl, by omega, by omega, Lib.hid (HGz.out _), Lib.hid (HBz.out _)⟩
      case round =>
        clear HGz HBz hgl x0 x1 x2 x3 x4
        obtain ⟨j, rfl, hj, hjf, HG, HBi⟩ := hrel
        rename_i wi
        obtain ⟨f2, rfl⟩ : ∃ f2, gk = f2 + 1 := ⟨gk - 1, by omega⟩
        have hgl := HG.out.lt
        by_cases hjl : j < args.length
        · obtain ⟨a, ha⟩ : ∃ a, args[j]? = some a := ⟨args[j], List.getElem?_eq_getElem hjl⟩
          have hbk := HBK.out a (List.mem_of_getElem? ha)
          obtain ⟨m, rfl⟩ := natInt hbk.1
          obtain ⟨ba, oa, rfl, hba', hba, hca⟩ := RdF.int HAR.out ha
          have hbw : ba < w.heap.size := hba'
          have y2 := (HBi.out.cell (p := ⟨ba, oa + j, none⟩) hbw).trans ((HB.out.cell (p := ⟨ba, oa + j, none⟩) hbw).symm.trans hca)
          have hzz : (bumps z (args.take j)).length = l.length := (bumps_len _ _).trans HZL.out
          have hup := HBD.out.bumps (args.take j) (by omega)
          have hlj : (args.take j).length ≤ 3 := by have := List.length_take_le j args; omega
          have hx := hup.get (by omega) m
          have HSN : Hid (bumps z (args.take (j + 1)) = bump (bumps z (args.take j)) (m : Int)) := Lib.hid (by rw [List.take_add_one, ha, Option.toList_some]; exact bumps_snoc _ _ _)
          generalize bumps z (args.take j) = zz at *
          have y3 := HG.out.cell m
          rw [uarr_get (by omega)] at y3
          have y4 := HG.out.frozen m
          have HGS := Lib.hid (HG.out.set_ m (.int .i64 (zz.getD m 0 + 1)))
          rw [uarr_set, ← HSN.out] at HGS
          have HBS := Lib.hid (HBi.out.setCell (p := ⟨w1.heap.size, m, none⟩) (by show w.heap.size ≤ w1.heap.size; omega) (.int .i64 (zz.getD m 0 + 1)))
          generalize zz.getD m 0 = u at *
          have p0 : (j : Int) < (args.length : Int) := by omega
          have p1 : (0 : Int) ≤ (j : Int) := by omega
          have p2 : (m : Int) < (l.length : Int) := by omega
          have p3 : (0 : Int) ≤ (m : Int) := by omega
          have hw := IntWalk.wrap64_in (u + 1) (by omega)
          clear ha hbk hca hup
          go_wp2_with fail
          go_roundg f2
          case measure => omega
          case rel => exact ⟨j + 1, by go_num, by omega, by omega, HGS, HBS⟩
        · have hjs : j = args.length := by omega
          subst hjs
          have p0 : ¬ ((args.length : Int) < (args.length : Int)) := by omega
          have hgg := HG.out
          rw [List.take_length, ← HU.out] at hgg
          have HGG := Lib.hid hgg
          clear hgg
          go_wp2_with fail
          go_roundg f
          case measure => omega
          case rel => exact ⟨k + 1, by go_num, by omega, by omega, HGG, HBi⟩
    · have hkl : k = l.length := by omega
      subst hkl
      have q0 : ¬ ((l.length : Int) < (l.length : Int)) := by omega
      go_wp2_with fail
      go_ret2
      exact ⟨_, rfl, HG.out, HB.out⟩
end Go.Proofs.YtoegklpomlhneaaGreatDoor
namespace Go.Proofs.YtoegklpomlhneaaGreatDoor
open Go.RowKit
def IsRel (w : World) (l : List St) (A : Option Addr) (c f : Nat) (i : Value) (wr : World) : Prop := ∃ k : Nat, i = .int .i64 k ∧ k ≤ l.length ∧ l.length - k < f ∧ Hid (Blk wr w.heap.size 29 #[.slice A l.length c]) ∧ Hid (Below w.heap.size w wr)
set_option maxRecDepth 100000 in
set_option maxHeartbeats 8000000 in
theorem is_ok (A B : Option Addr) (c d : Nat) (l : List St) (w : World) (hP : PlAt w (fun i => i < w.heap.size) A l) (hA : ArgPl w B l) (hn : l.length ≤ 100000) (ha : ∀ s ∈ l, s.args.length ≤ 100000) :
    Calls Tryz.prog 16 #[.agg #[.slice A l.length c], .slice B l.length d] w (AwEnd w) := by
  have HP := Lib.hid hP
  have HA := Lib.hid hA
  have HS := Lib.hid ha
  have HX0 := Lib.hid (Blk.new w 29 #[.slice A l.length c])
  have HB0 := Lib.hid (below_alloc w (.cells #[.slice A l.length c] 29))
  clear hP hA ha
  go_enter Tryz.func16, Tryz.ntmps16
  go_wp2_with fail
  go_loopg [5, 6] (l.length + 1) (fun f i _ wr => IsRel w l A c f i wr)
  case atStart => exact ⟨0, rfl, by omega, by omega, HX0, HB0⟩
  case round =>
    clear HX0 HB0
    obtain ⟨k, rfl, hk, hkf, HX, HB⟩ := hrel
    obtain ⟨f, rfl⟩ : ∃ f, gk = f + 1 := ⟨gk - 1, by omega⟩
    have hzr := HB.out.size
    have hxl := HX.out.lt
    by_cases hlt : k < l.length
    · obtain ⟨s, hs⟩ : ∃ s, l[k]? = some s := ⟨l[k], List.getElem?_eq_getElem hlt⟩
      have hsa := HS.out s (List.mem_of_getElem? hs)
      have s0 := HX.out.cell 0
      simp only [List.getElem?_toArray, List.getElem?_cons_zero] at s0
      obtain ⟨b, ob, As, cs, rfl, hbF, hbl, x0, x1, x2, x3, x4, har⟩ := (HP.out.at_ HB.out).step hs
      obtain ⟨b2, ob2, As2, cs2, rfl, hbl2, y0, y1, y2, y3, y4, har2⟩ := (HA.out.below HB.out) k s hs
      have q0 : (k : Int) < (l.length : Int) := by omega
      have q1 : (0 : Int) ≤ (k : Int) := by omega
      obtain ⟨op, args, num, text, ty⟩ := s
      dsimp only at x0 x1 x2 x3 x4 y0 y1 y2 y3 y4 har har2 hsa
      have HAR := Lib.hid har
      have HAR2 := Lib.hid har2
      clear hs har har2
      go_upto_region 7 with (fail)
      obtain ⟨w2, hw2⟩ : ∃ w2, w2 = wr.alloc (.cells #[.string ⟨op.toArray⟩, .slice As args.length cs, .int .i64 num, .string ⟨text.toArray⟩, .int .i64 ty] 74) := ⟨_, rfl⟩
      rw [← hw2]
      have hb2 : Below wr.heap.size wr w2 := by rw [hw2]; exact below_alloc _ _
      have HB2 := Lib.hid (HB.out.trans (hb2.mono hzr))
      have HX2 := Lib.hid (HX.out.below hb2 hxl)
      have HST := Lib.hid (show Blk w2 wr.heap.size 74 #[.string ⟨op.toArray⟩, .slice As args.length cs, .int .i64 num, .string ⟨text.toArray⟩, .int .i64 ty] by rw [hw2]; exact Blk.new _ _ _)
      have p0 := HST.out.cell 0
      have p1 := HST.out.cell 1
      have p2 := HST.out.cell 2
      have p3 := HST.out.cell 3
      have p4 := HST.out.cell 4
      simp only [List.getElem?_toArray, List.getElem?_cons_zero, List.getElem?_cons_succ] at p0 p1 p2 p3 p4
      have k0 := cell_regrown p0
      have k1 := cell_regrown p1
      have k2 := cell_regrown p2
      have k3 := cell_regrown p3
      have k4 := cell_regrown p4
      have z0 := cell_regrown ((hb2.cell (p := ⟨b2, _, none⟩) hbl2).trans y0)
      have z1 := cell_regrown ((hb2.cell (p := ⟨b2, _, none⟩) hbl2).trans y1)
      have z2 := cell_regrown ((hb2.cell (p := ⟨b2, _, none⟩) hbl2).trans y2)
      have z3 := cell_regrown ((hb2.cell (p := ⟨b2, _, none⟩) hbl2).trans y3)
      have z4 := cell_regrown ((hb2.cell (p := ⟨b2, _, none⟩) hbl2).trans y4)
      have hr1 : Reads w2 w2.heap.size 1 As args.length (args.map (Value.int .i64)) := ⟨by simp, fun hn0 => by
        obtain ⟨g, o', e1, e2, e3, e4⟩ := HAR.out.form (by simpa using hn0)
        refine ⟨⟨g, o', none⟩, e1, Nat.lt_of_lt_of_le e3 hb2.size, fun j u hj => ?_⟩
        rw [addr_add]
        exact (hb2.cell (p := ⟨g, o' + j, none⟩) e3).trans (e4 j u hj)⟩
      have hr2 : Reads w2 w2.heap.size 1 As2 args.length (args.map (Value.int .i64)) := (HAR2.out.below hb2).more hb2.size
      have cI : ∀ dd os, Calls Tryz.prog 14 #[.slice As args.length cs, .slice As2 args.length cs2] (Go.Sort.grow (redrawn w2 dd) os) fun e w'' => e = .returned (.bool true) ∧ ∃ p : Regrown, w'' = Go.Sort.grow (redrawn w2 p.d) p.os :=
        fun dd os => Calls.regrown_of (ints_any As As2 cs cs2 args _ hsa ((hr1.below (below_regrown w2 dd os)).more (below_regrown w2 dd os).size) ((hr2.below (below_regrown w2 dd os)).more (below_regrown w2 dd os).size))
      have HW2 := Lib.hid hw2
      clear hw2 hb2 p0 p1 p2 p3 p4 x0 x1 x2 x3 x4 y0 y1 y2 y3 y4 s0 hr1 hr2
      refine wp_region_quiet_below (by kernel_rfl) (by kernel_rfl) ?_
      repeat (quiet_step (exact cI _ _))
      refine wpQuiet_nil ?_
      intro _ hw'
      obtain ⟨⟨dq, osq⟩, hw''⟩ := hw'
      subst hw''
      have hq := below_regrown w2 dq osq
      simp only
      have HB3 := Lib.hid (HB2.out.trans (hq.mono HB2.out.size))
      have HX3 := Lib.hid (HX2.out.below hq HX2.out.lt)
      clear hq cI k0 k1 k2 k3 k4 z0 z1 z2 z3 z4
      go_wp2_with fail
      go_roundg f
      case measure => omega
      case rel => exact ⟨k + 1, by go_num, by omega, by omega, HX3, HB3⟩
    · have hkl : k = l.length := by omega
      subst hkl
      have q0 : ¬ ((l.length : Int) < (l.length : Int)) := by omega
      go_wp2_with fail
      go_ret
      exact ⟨rfl, HB.out⟩
end Go.Proofs.YtoegklpomlhneaaGreatDoor
