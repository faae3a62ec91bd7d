/- The walk of the document's sizes of a plan's trees (printed by gen_ppk.py). The walks of the document's call, tree and Tree of a plan that is right (printed by gen_ppr.py). The walk of the document's Tree of a plan that is right (printed by gen_ppr.py). -/
import Derived.Test.YtoegklpomlhneaaGreatDoorqRs
import Derived.Test.YtoegklpomlhneaaGreatDoorqRx1
namespace Go.Proofs.YtoegklpomlhneaaGreatDoor
open Go.RowKit
def narr (l : List St) (k : Nat) : Array Value := ((nk l k ++ List.replicate (l.length - k) 0).map (Value.int .i64)).toArray
theorem narr_zero (l : List St) : narr l 0 = ((List.replicate l.length (0 : Int)).map (Value.int .i64)).toArray := by unfold narr nk; simp [nodF]
theorem narr_get {l : List St} {k a : Nat} (hk : k ≤ l.length) (ha : a < k) : (narr l k)[a]? = some (.int .i64 ((nk l k).getD a 0)) := by
  have hl := nk_length hk
  unfold narr
  rw [List.getElem?_toArray, List.getElem?_map, List.getElem?_append_left (by omega), List.getD_eq_getElem?_getD, List.getElem?_eq_getElem (by omega)]
  rfl
theorem narr_at {l : List St} {k : Nat} (hk : k < l.length) : (narr l k)[k]? = some (.int .i64 0) := by
  have hl := nk_length (Nat.le_of_lt hk)
  unfold narr
  rw [List.getElem?_toArray, List.getElem?_map, List.getElem?_append_right (by omega), hl, Nat.sub_self, List.getElem?_replicate, if_pos (by omega)]
  rfl
theorem narr_set {l : List St} {k : Nat} {s : St} (hs : l[k]? = some s) : (narr l k).setIfInBounds k (.int .i64 (min (baseN s.op + sumAt (nk l k) s.args) 5000)) = narr l (k + 1) := by
  have hk := (List.getElem?_eq_some_iff.1 hs).1
  have hl := nk_length (Nat.le_of_lt hk)
  unfold narr
  rw [nk_succ hs]
  obtain ⟨m, hm⟩ : ∃ m, l.length - k = m + 1 := ⟨l.length - k - 1, by omega⟩
  rw [hm, show l.length - (k + 1) = m by omega, List.replicate_succ, List.setIfInBounds_toArray]
  congr 1
  rw [List.map_append, List.set_append_right _ _ (by simp; omega), List.length_map, hl, Nat.sub_self]
  simp
def PkRel (w : World) (l : List St) (G f : Nat) (i : Value) (wr : World) : Prop := ∃ k : Nat, i = .int .i64 k ∧ k ≤ l.length ∧ l.length - k < f ∧ Hid (Blk wr G 3 (narr l k)) ∧ Hid (Below w.heap.size w wr)
set_option maxRecDepth 100000 in
set_option maxHeartbeats 16000000 in
theorem nodes_ok (A : Option Addr) (c : Nat) (l : List St) (w : World) (h : ArgPl w A l) (hc : checkR l = 0) :
    Calls Tryz.prog 34 #[.slice A l.length c] w fun e w' => e = .returned (.slice (some ⟨w.heap.size, 0, none⟩) l.length l.length) ∧ Blk w' w.heap.size 3 (narr l l.length) ∧ Below w.heap.size w w' := by
  have hz := checkR_zero hc
  have hn : l.length ≤ 4096 := hz.2.1
  obtain ⟨i0, hinf, hz0, hz1, hz2⟩ := info_parts infoInt
  have hmk : ∀ W : World, (Instr.makeSlice 25 (.int .i64 (l.length : Int)) (.int .i64 (l.length : Int))).run Tryz.prog W = .ok (.slice (some ⟨W.heap.size, 0, none⟩) l.length l.length) (W.alloc (.cells (narr l 0) 3)) := fun W => by
    have h := run_make_rowN (P := Tryz.prog) 25 3 i0 (.int .i64 0) Tryz.underlying25 hinf hz0 .i64 .i64 l.length l.length (Nat.le_refl _) (by rw [hz2]; omega) (by omega) W
    rw [hz1, made_ints] at h
    rw [narr_zero]
    exact h
  have HA := Lib.hid h
  have HC := Lib.hid hc
  have HM := Lib.hid hmk
  have HSM := Lib.hid (uses_small hc)
  clear h hc hz hinf hz0 hz1 hz2 hmk
  have hmk := HM.out
  go_enter Tryz.func34, Tryz.ntmps34
  go_wp2_with fail
  clear hmk
  go_loopg [4, 5, 6, 7, 8] (l.length + 1) (fun f i _ _ _ _ wr => PkRel w l w.heap.size f i wr)
  case atStart => exact ⟨0, rfl, by omega, by omega, Lib.hid (Blk.new w _ _), Lib.hid (below_alloc w _)⟩
  case round =>
    obtain ⟨k, rfl, hk, hkf, HG, HB⟩ := hrel
    obtain ⟨f, rfl⟩ : ∃ f, gk = f + 1 := ⟨gk - 1, by omega⟩
    by_cases hlt : k < l.length
    · obtain ⟨s, hs⟩ : ∃ s, l[k]? = some s := ⟨l[k], List.getElem?_eq_getElem hlt⟩
      obtain ⟨b, ob, As, cs, rfl, hbl, x0, x1, x2, x3, x4, har⟩ := HA.out k s hs
      obtain ⟨o, ho⟩ := stepE_zero ((checkR_zero HC.out).2.2 k s hs)
      obtain ⟨r, hr, hrc, hro, hrt, hbn⟩ := first_cost HC.out hs
      clear hrc hrt
      have hal := HSM.out s (List.mem_of_getElem? hs)
      have hbk := ho.back
      have hset := narr_set hs
      have hbs := baseN_bd s.op
      obtain ⟨op, args, num, text, ty⟩ := s
      dsimp only at x0 x1 hal hbs hbk hset hr hbn har
      obtain ⟨ro, ra, rt, rc, rx⟩ := r
      dsimp only at hbn
      obtain ⟨B, hBB⟩ : ∃ B, B = baseN op := ⟨_, rfl⟩
      rw [← hBB] at hbs hset hbn
      have hgl := HG.out.lt
      have HFI := Lib.hid (first_any op wr)
      have HR := Lib.hid hr
      have HBN := Lib.hid hbn
      have HAR := Lib.hid har
      have HX0 := Lib.hid x0
      have HX1 := Lib.hid x1
      have HBK := Lib.hid hbk
      have HSET := Lib.hid hset
      have HBD := Lib.hid (nk_bd l k)
      have x0r := (HB.out.cell (p := ⟨b, ob + k * 5, none⟩) hbl).trans x0
      have q0 : (k : Int) < (l.length : Int) := by omega
      have q1 : (0 : Int) ≤ (k : Int) := by omega
      clear hs ho hr hro hbn hbk hset hBB har x0 x1 x2 x3 x4
      go_wp2_with fail
      refine HFI.out.mono ?_
      rintro e w2 ⟨hb2, he⟩
      rw [HR.out] at he
      subst he
      have hwz := HB.out.size
      have HG2 := Lib.hid (HG.out.below hb2 hgl)
      have HB2 := Lib.hid (HB.out.trans (hb2.mono hwz))
      clear hb2 HFI x0r HB HG hgl
      go_upto_region 6 with (fail)
      obtain ⟨w3, hw3⟩ : ∃ w3, w3 = w2.alloc (.cells #[.string ⟨ro.toArray⟩, .string ⟨ra.toArray⟩, .int .i64 rt, .int .i64 rc, .bool rx] 59) := ⟨_, rfl⟩
      rw [← hw3]
      have HB3 : Hid (Below w.heap.size w w3) := Lib.hid (by rw [hw3]; exact HB2.out.alloc HB2.out.size _)
      have HG3 : Hid (Blk w3 w.heap.size 3 (narr l k)) := Lib.hid (by rw [hw3]; exact HG2.out.alloc _)
      obtain ⟨v0, v1, v2, v3, v4, _, _, _, _, _⟩ := blk5 (show Blk w3 w2.heap.size 59 #[.string ⟨ro.toArray⟩, .string ⟨ra.toArray⟩, .int .i64 rt, .int .i64 rc, .bool rx] by rw [hw3]; exact Blk.new _ _ _)
      have y0 := (HB3.out.cell (p := ⟨b, ob + k * 5, none⟩) hbl).trans HX0.out
      have y1 := (HB3.out.cell (p := ⟨b, ob + k * 5 + 1, none⟩) hbl).trans HX1.out
      clear hw3 HB2 HG2
      by_cases dmas : op = [109, 97, 116, 99, 104, 101, 115]
      · subst dmas
        cases rx with
        | true =>
          have HB0 : Hid (B = 3) := Lib.hid (by have h := HBN.out; rw [if_pos (show [109, 97, 116, 99, 104, 101, 115] = nMatches ∨ [109, 97, 116, 99, 104, 101, 115] = nFirstfind ∨ [109, 97, 116, 99, 104, 101, 115] = nLencut by decide)] at h; simp at h; omega)
          go_wp2_with fail
          clear v0 v1 v2 v3 v4
          go_loopg [7, 8] (args.length + 1) (fun f v i wr => InRel w3 (nk l k) args B f i v wr)
          case atStart => exact ⟨0, rfl, by omega, by omega, by rw [List.take_zero, HB0.out]; rfl, rfl⟩
          case round =>
            obtain ⟨j, rfl, hj, hjf, rfl, rfl⟩ := hrel
            obtain ⟨f2, rfl⟩ : ∃ f2, gk = f2 + 1 := ⟨gk - 1, by omega⟩
            have hsj := sumAt_bdM (by omega) HBD.out (args.take j)
            have hlj : (args.take j).length ≤ j := List.length_take_le _ _
            by_cases hjl : j < args.length
            · obtain ⟨a, ha⟩ : ∃ a, args[j]? = some a := ⟨args[j], List.getElem?_eq_getElem hjl⟩
              have hbk := HBK.out a (List.mem_of_getElem? ha)
              obtain ⟨m, rfl⟩ := natInt hbk.1
              obtain ⟨ba, oa, rfl, hba, hca⟩ := (HAR.out.below HB3.out).form (by omega)
              have y5 := hca j (.int .i64 m) (by rw [List.getElem?_map, ha]; rfl)
              have hm : m < k := by omega
              have y6 : w3.cell? ⟨w.heap.size, m, none⟩ = some (.int .i64 ((nk l k).getD m 0)) := by rw [HG3.out.cell]; exact narr_get hk hm
              have hx : 0 ≤ (nk l k).getD m 0 ∧ (nk l k).getD m 0 ≤ 5000 := by
                rw [List.getD_eq_getElem?_getD]
                cases h : (nk l k)[m]? with
                | none => simp
                | some x => exact HBD.out x (List.mem_of_getElem? h)
              have htk : sumAt (nk l k) (args.take (j + 1)) = sumAt (nk l k) (args.take j) + (nk l k).getD m 0 := by rw [List.take_add_one, ha]; exact sumAt_snoc _ _ _
              have HTK := Lib.hid htk
              generalize (nk l k).getD m 0 = x at *
              generalize sumAt (nk l k) (args.take j) = sj at *
              have w1' := IntWalk.i64_in (B + sj + x) (by omega)
              have w2' := IntWalk.wrap64_in (B + sj + x) (by omega)
              have p0 : (j : Int) < (args.length : Int) := by omega
              have p1 : (0 : Int) ≤ (j : Int) := by omega
              have p2 : (m : Int) < (l.length : Int) := by omega
              have p3 : (0 : Int) ≤ (m : Int) := by omega
              clear ha hbk hca hx htk
              go_wp2_with fail
              go_roundg f2
              case measure => omega
              case rel => exact ⟨j + 1, by go_num, by omega, by omega, by rw [HTK.out, ← Int.add_assoc], rfl⟩
            · have hjs : j = args.length := by omega
              subst hjs
              rw [List.take_length] at hsj ⊢
              have y6 : w3.cell? ⟨w.heap.size, k, none⟩ = some (.int .i64 0) := by rw [HG3.out.cell]; exact narr_at hlt
              have y7 := HG3.out.frozen k
              have HGS := Lib.hid (HG3.out.set_ k (.int .i64 (min (B + sumAt (nk l k) args) 5000)))
              rw [HSET.out] at HGS
              have p0 : ¬ ((args.length : Int) < (args.length : Int)) := by omega
              generalize sumAt (nk l k) args = sj at *
              go_wp2_with fail
              go_roundg f
              case measure => omega
              case rel => exact ⟨k + 1, by go_num, by omega, by omega, HGS, Lib.hid (HB3.out.setCell (p := ⟨w.heap.size, k, none⟩) (Nat.le_refl _) _)⟩
        | false =>
          have HB0 : Hid (B = 2) := Lib.hid (by have h := HBN.out; rw [if_pos (show [109, 97, 116, 99, 104, 101, 115] = nMatches ∨ [109, 97, 116, 99, 104, 101, 115] = nFirstfind ∨ [109, 97, 116, 99, 104, 101, 115] = nLencut by decide)] at h; simp at h; omega)
          go_wp2_with fail
          clear v0 v1 v2 v3 v4
          go_loopg [7, 8] (args.length + 1) (fun f v i wr => InRel w3 (nk l k) args B f i v wr)
          case atStart => exact ⟨0, rfl, by omega, by omega, by rw [List.take_zero, HB0.out]; rfl, rfl⟩
          case round =>
            obtain ⟨j, rfl, hj, hjf, rfl, rfl⟩ := hrel
            obtain ⟨f2, rfl⟩ : ∃ f2, gk = f2 + 1 := ⟨gk - 1, by omega⟩
            have hsj := sumAt_bdM (by omega) HBD.out (args.take j)
            have hlj : (args.take j).length ≤ j := List.length_take_le _ _
            by_cases hjl : j < args.length
            · obtain ⟨a, ha⟩ : ∃ a, args[j]? = some a := ⟨args[j], List.getElem?_eq_getElem hjl⟩
              have hbk := HBK.out a (List.mem_of_getElem? ha)
              obtain ⟨m, rfl⟩ := natInt hbk.1
              obtain ⟨ba, oa, rfl, hba, hca⟩ := (HAR.out.below HB3.out).form (by omega)
              have y5 := hca j (.int .i64 m) (by rw [List.getElem?_map, ha]; rfl)
              have hm : m < k := by omega
              have y6 : w3.cell? ⟨w.heap.size, m, none⟩ = some (.int .i64 ((nk l k).getD m 0)) := by rw [HG3.out.cell]; exact narr_get hk hm
              have hx : 0 ≤ (nk l k).getD m 0 ∧ (nk l k).getD m 0 ≤ 5000 := by
                rw [List.getD_eq_getElem?_getD]
                cases h : (nk l k)[m]? with
                | none => simp
                | some x => exact HBD.out x (List.mem_of_getElem? h)
              have htk : sumAt (nk l k) (args.take (j + 1)) = sumAt (nk l k) (args.take j) + (nk l k).getD m 0 := by rw [List.take_add_one, ha]; exact sumAt_snoc _ _ _
              have HTK := Lib.hid htk
              generalize (nk l k).getD m 0 = x at *
              generalize sumAt (nk l k) (args.take j) = sj at *
              have w1' := IntWalk.i64_in (B + sj + x) (by omega)
              have w2' := IntWalk.wrap64_in (B + sj + x) (by omega)
              have p0 : (j : Int) < (args.length : Int) := by omega
              have p1 : (0 : Int) ≤ (j : Int) := by omega
              have p2 : (m : Int) < (l.length : Int) := by omega
              have p3 : (0 : Int) ≤ (m : Int) := by omega
              clear ha hbk hca hx htk
              go_wp2_with fail
              go_roundg f2
              case measure => omega
              case rel => exact ⟨j + 1, by go_num, by omega, by omega, by rw [HTK.out, ← Int.add_assoc], rfl⟩
            · have hjs : j = args.length := by omega
              subst hjs
              rw [List.take_length] at hsj ⊢
              have y6 : w3.cell? ⟨w.heap.size, k, none⟩ = some (.int .i64 0) := by rw [HG3.out.cell]; exact narr_at hlt
              have y7 := HG3.out.frozen k
              have HGS := Lib.hid (HG3.out.set_ k (.int .i64 (min (B + sumAt (nk l k) args) 5000)))
              rw [HSET.out] at HGS
              have p0 : ¬ ((args.length : Int) < (args.length : Int)) := by omega
              generalize sumAt (nk l k) args = sj at *
              go_wp2_with fail
              go_roundg f
              case measure => omega
              case rel => exact ⟨k + 1, by go_num, by omega, by omega, HGS, Lib.hid (HB3.out.setCell (p := ⟨w.heap.size, k, none⟩) (Nat.le_refl _) _)⟩
      have edmas : (op == [109, 97, 116, 99, 104, 101, 115]) = false := beq_eq_false_iff_ne.2 dmas
      by_cases dfid : op = [102, 105, 114, 115, 116, 102, 105, 110, 100]
      · subst dfid
        cases rx with
        | true =>
          have HB0 : Hid (B = 3) := Lib.hid (by have h := HBN.out; rw [if_pos (show [102, 105, 114, 115, 116, 102, 105, 110, 100] = nMatches ∨ [102, 105, 114, 115, 116, 102, 105, 110, 100] = nFirstfind ∨ [102, 105, 114, 115, 116, 102, 105, 110, 100] = nLencut by decide)] at h; simp at h; omega)
          go_wp2_with fail
          clear v0 v1 v2 v3 v4
          go_loopg [7, 8] (args.length + 1) (fun f v i wr => InRel w3 (nk l k) args B f i v wr)
          case atStart => exact ⟨0, rfl, by omega, by omega, by rw [List.take_zero, HB0.out]; rfl, rfl⟩
          case round =>
            obtain ⟨j, rfl, hj, hjf, rfl, rfl⟩ := hrel
            obtain ⟨f2, rfl⟩ : ∃ f2, gk = f2 + 1 := ⟨gk - 1, by omega⟩
            have hsj := sumAt_bdM (by omega) HBD.out (args.take j)
            have hlj : (args.take j).length ≤ j := List.length_take_le _ _
            by_cases hjl : j < args.length
            · obtain ⟨a, ha⟩ : ∃ a, args[j]? = some a := ⟨args[j], List.getElem?_eq_getElem hjl⟩
              have hbk := HBK.out a (List.mem_of_getElem? ha)
              obtain ⟨m, rfl⟩ := natInt hbk.1
              obtain ⟨ba, oa, rfl, hba, hca⟩ := (HAR.out.below HB3.out).form (by omega)
              have y5 := hca j (.int .i64 m) (by rw [List.getElem?_map, ha]; rfl)
              have hm : m < k := by omega
              have y6 : w3.cell? ⟨w.heap.size, m, none⟩ = some (.int .i64 ((nk l k).getD m 0)) := by rw [HG3.out.cell]; exact narr_get hk hm
              have hx : 0 ≤ (nk l k).getD m 0 ∧ (nk l k).getD m 0 ≤ 5000 := by
                rw [List.getD_eq_getElem?_getD]
                cases h : (nk l k)[m]? with
                | none => simp
                | some x => exact HBD.out x (List.mem_of_getElem? h)
              have htk : sumAt (nk l k) (args.take (j + 1)) = sumAt (nk l k) (args.take j) + (nk l k).getD m 0 := by rw [List.take_add_one, ha]; exact sumAt_snoc _ _ _
              have HTK := Lib.hid htk
              generalize (nk l k).getD m 0 = x at *
              generalize sumAt (nk l k) (args.take j) = sj at *
              have w1' := IntWalk.i64_in (B + sj + x) (by omega)
              have w2' := IntWalk.wrap64_in (B + sj + x) (by omega)
              have p0 : (j : Int) < (args.length : Int) := by omega
              have p1 : (0 : Int) ≤ (j : Int) := by omega
              have p2 : (m : Int) < (l.length : Int) := by omega
              have p3 : (0 : Int) ≤ (m : Int) := by omega
              clear ha hbk hca hx htk
              go_wp2_with fail
              go_roundg f2
              case measure => omega
              case rel => exact ⟨j + 1, by go_num, by omega, by omega, by rw [HTK.out, ← Int.add_assoc], rfl⟩
            · have hjs : j = args.length := by omega
              subst hjs
              rw [List.take_length] at hsj ⊢
              have y6 : w3.cell? ⟨w.heap.size, k, none⟩ = some (.int .i64 0) := by rw [HG3.out.cell]; exact narr_at hlt
              have y7 := HG3.out.frozen k
              have HGS := Lib.hid (HG3.out.set_ k (.int .i64 (min (B + sumAt (nk l k) args) 5000)))
              rw [HSET.out] at HGS
              have p0 : ¬ ((args.length : Int) < (args.length : Int)) := by omega
              generalize sumAt (nk l k) args = sj at *
              go_wp2_with fail
              go_roundg f
              case measure => omega
              case rel => exact ⟨k + 1, by go_num, by omega, by omega, HGS, Lib.hid (HB3.out.setCell (p := ⟨w.heap.size, k, none⟩) (Nat.le_refl _) _)⟩
        | false =>
          have HB0 : Hid (B = 2) := Lib.hid (by have h := HBN.out; rw [if_pos (show [102, 105, 114, 115, 116, 102, 105, 110, 100] = nMatches ∨ [102, 105, 114, 115, 116, 102, 105, 110, 100] = nFirstfind ∨ [102, 105, 114, 115, 116, 102, 105, 110, 100] = nLencut by decide)] at h; simp at h; omega)
          go_wp2_with fail
          clear v0 v1 v2 v3 v4
          go_loopg [7, 8] (args.length + 1) (fun f v i wr => InRel w3 (nk l k) args B f i v wr)
          case atStart => exact ⟨0, rfl, by omega, by omega, by rw [List.take_zero, HB0.out]; rfl, rfl⟩
          case round =>
            obtain ⟨j, rfl, hj, hjf, rfl, rfl⟩ := hrel
            obtain ⟨f2, rfl⟩ : ∃ f2, gk = f2 + 1 := ⟨gk - 1, by omega⟩
            have hsj := sumAt_bdM (by omega) HBD.out (args.take j)
            have hlj : (args.take j).length ≤ j := List.length_take_le _ _
            by_cases hjl : j < args.length
            · obtain ⟨a, ha⟩ : ∃ a, args[j]? = some a := ⟨args[j], List.getElem?_eq_getElem hjl⟩
              have hbk := HBK.out a (List.mem_of_getElem? ha)
              obtain ⟨m, rfl⟩ := natInt hbk.1
              obtain ⟨ba, oa, rfl, hba, hca⟩ := (HAR.out.below HB3.out).form (by omega)
              have y5 := hca j (.int .i64 m) (by rw [List.getElem?_map, ha]; rfl)
              have hm : m < k := by omega
              have y6 : w3.cell? ⟨w.heap.size, m, none⟩ = some (.int .i64 ((nk l k).getD m 0)) := by rw [HG3.out.cell]; exact narr_get hk hm
              have hx : 0 ≤ (nk l k).getD m 0 ∧ (nk l k).getD m 0 ≤ 5000 := by
                rw [List.getD_eq_getElem?_getD]
                cases h : (nk l k)[m]? with
                | none => simp
                | some x => exact HBD.out x (List.mem_of_getElem? h)
              have htk : sumAt (nk l k) (args.take (j + 1)) = sumAt (nk l k) (args.take j) + (nk l k).getD m 0 := by rw [List.take_add_one, ha]; exact sumAt_snoc _ _ _
              have HTK := Lib.hid htk
              generalize (nk l k).getD m 0 = x at *
              generalize sumAt (nk l k) (args.take j) = sj at *
              have w1' := IntWalk.i64_in (B + sj + x) (by omega)
              have w2' := IntWalk.wrap64_in (B + sj + x) (by omega)
              have p0 : (j : Int) < (args.length : Int) := by omega
              have p1 : (0 : Int) ≤ (j : Int) := by omega
              have p2 : (m : Int) < (l.length : Int) := by omega
              have p3 : (0 : Int) ≤ (m : Int) := by omega
              clear ha hbk hca hx htk
              go_wp2_with fail
              go_roundg f2
              case measure => omega
              case rel => exact ⟨j + 1, by go_num, by omega, by omega, by rw [HTK.out, ← Int.add_assoc], rfl⟩
            · have hjs : j = args.length := by omega
              subst hjs
              rw [List.take_length] at hsj ⊢
              have y6 : w3.cell? ⟨w.heap.size, k, none⟩ = some (.int .i64 0) := by rw [HG3.out.cell]; exact narr_at hlt
              have y7 := HG3.out.frozen k
              have HGS := Lib.hid (HG3.out.set_ k (.int .i64 (min (B + sumAt (nk l k) args) 5000)))
              rw [HSET.out] at HGS
              have p0 : ¬ ((args.length : Int) < (args.length : Int)) := by omega
              generalize sumAt (nk l k) args = sj at *
              go_wp2_with fail
              go_roundg f
              case measure => omega
              case rel => exact ⟨k + 1, by go_num, by omega, by omega, HGS, Lib.hid (HB3.out.setCell (p := ⟨w.heap.size, k, none⟩) (Nat.le_refl _) _)⟩
      have edfid : (op == [102, 105, 114, 115, 116, 102, 105, 110, 100]) = false := beq_eq_false_iff_ne.2 dfid
      by_cases dlet : op = [108, 101, 110, 99, 117, 116]
      · subst dlet
        cases rx with
        | true =>
          have HB0 : Hid (B = 3) := Lib.hid (by have h := HBN.out; rw [if_pos (show [108, 101, 110, 99, 117, 116] = nMatches ∨ [108, 101, 110, 99, 117, 116] = nFirstfind ∨ [108, 101, 110, 99, 117, 116] = nLencut by decide)] at h; simp at h; omega)
          go_wp2_with fail
          clear v0 v1 v2 v3 v4
          go_loopg [7, 8] (args.length + 1) (fun f v i wr => InRel w3 (nk l k) args B f i v wr)
          case atStart => exact ⟨0, rfl, by omega, by omega, by rw [List.take_zero, HB0.out]; rfl, rfl⟩
          case round =>
            obtain ⟨j, rfl, hj, hjf, rfl, rfl⟩ := hrel
            obtain ⟨f2, rfl⟩ : ∃ f2, gk = f2 + 1 := ⟨gk - 1, by omega⟩
            have hsj := sumAt_bdM (by omega) HBD.out (args.take j)
            have hlj : (args.take j).length ≤ j := List.length_take_le _ _
            by_cases hjl : j < args.length
            · obtain ⟨a, ha⟩ : ∃ a, args[j]? = some a := ⟨args[j], List.getElem?_eq_getElem hjl⟩
              have hbk := HBK.out a (List.mem_of_getElem? ha)
              obtain ⟨m, rfl⟩ := natInt hbk.1
              obtain ⟨ba, oa, rfl, hba, hca⟩ := (HAR.out.below HB3.out).form (by omega)
              have y5 := hca j (.int .i64 m) (by rw [List.getElem?_map, ha]; rfl)
              have hm : m < k := by omega
              have y6 : w3.cell? ⟨w.heap.size, m, none⟩ = some (.int .i64 ((nk l k).getD m 0)) := by rw [HG3.out.cell]; exact narr_get hk hm
              have hx : 0 ≤ (nk l k).getD m 0 ∧ (nk l k).getD m 0 ≤ 5000 := by
                rw [List.getD_eq_getElem?_getD]
                cases h : (nk l k)[m]? with
                | none => simp
                | some x => exact HBD.out x (List.mem_of_getElem? h)
              have htk : sumAt (nk l k) (args.take (j + 1)) = sumAt (nk l k) (args.take j) + (nk l k).getD m 0 := by rw [List.take_add_one, ha]; exact sumAt_snoc _ _ _
              have HTK := Lib.hid htk
              generalize (nk l k).getD m 0 = x at *
              generalize sumAt (nk l k) (args.take j) = sj at *
              have w1' := IntWalk.i64_in (B + sj + x) (by omega)
              have w2' := IntWalk.wrap64_in (B + sj + x) (by omega)
              have p0 : (j : Int) < (args.length : Int) := by omega
              have p1 : (0 : Int) ≤ (j : Int) := by omega
              have p2 : (m : Int) < (l.length : Int) := by omega
              have p3 : (0 : Int) ≤ (m : Int) := by omega
              clear ha hbk hca hx htk
              go_wp2_with fail
              go_roundg f2
              case measure => omega
              case rel => exact ⟨j + 1, by go_num, by omega, by omega, by rw [HTK.out, ← Int.add_assoc], rfl⟩
            · have hjs : j = args.length := by omega
              subst hjs
              rw [List.take_length] at hsj ⊢
              have y6 : w3.cell? ⟨w.heap.size, k, none⟩ = some (.int .i64 0) := by rw [HG3.out.cell]; exact narr_at hlt
              have y7 := HG3.out.frozen k
              have HGS := Lib.hid (HG3.out.set_ k (.int .i64 (min (B + sumAt (nk l k) args) 5000)))
              rw [HSET.out] at HGS
              have p0 : ¬ ((args.length : Int) < (args.length : Int)) := by omega
              generalize sumAt (nk l k) args = sj at *
              go_wp2_with fail
              go_roundg f
              case measure => omega
              case rel => exact ⟨k + 1, by go_num, by omega, by omega, HGS, Lib.hid (HB3.out.setCell (p := ⟨w.heap.size, k, none⟩) (Nat.le_refl _) _)⟩
        | false =>
          have HB0 : Hid (B = 2) := Lib.hid (by have h := HBN.out; rw [if_pos (show [108, 101, 110, 99, 117, 116] = nMatches ∨ [108, 101, 110, 99, 117, 116] = nFirstfind ∨ [108, 101, 110, 99, 117, 116] = nLencut by decide)] at h; simp at h; omega)
          go_wp2_with fail
          clear v0 v1 v2 v3 v4
          go_loopg [7, 8] (args.length + 1) (fun f v i wr => InRel w3 (nk l k) args B f i v wr)
          case atStart => exact ⟨0, rfl, by omega, by omega, by rw [List.take_zero, HB0.out]; rfl, rfl⟩
          case round =>
            obtain ⟨j, rfl, hj, hjf, rfl, rfl⟩ := hrel
            obtain ⟨f2, rfl⟩ : ∃ f2, gk = f2 + 1 := ⟨gk - 1, by omega⟩
            have hsj := sumAt_bdM (by omega) HBD.out (args.take j)
            have hlj : (args.take j).length ≤ j := List.length_take_le _ _
            by_cases hjl : j < args.length
            · obtain ⟨a, ha⟩ : ∃ a, args[j]? = some a := ⟨args[j], List.getElem?_eq_getElem hjl⟩
              have hbk := HBK.out a (List.mem_of_getElem? ha)
              obtain ⟨m, rfl⟩ := natInt hbk.1
              obtain ⟨ba, oa, rfl, hba, hca⟩ := (HAR.out.below HB3.out).form (by omega)
              have y5 := hca j (.int .i64 m) (by rw [List.getElem?_map, ha]; rfl)
              have hm : m < k := by omega
              have y6 : w3.cell? ⟨w.heap.size, m, none⟩ = some (.int .i64 ((nk l k).getD m 0)) := by rw [HG3.out.cell]; exact narr_get hk hm
              have hx : 0 ≤ (nk l k).getD m 0 ∧ (nk l k).getD m 0 ≤ 5000 := by
                rw [List.getD_eq_getElem?_getD]
                cases h : (nk l k)[m]? with
                | none => simp
                | some x => exact HBD.out x (List.mem_of_getElem? h)
              have htk : sumAt (nk l k) (args.take (j + 1)) = sumAt (nk l k) (args.take j) + (nk l k).getD m 0 := by rw [List.take_add_one, ha]; exact sumAt_snoc _ _ _
              have HTK := Lib.hid htk
              generalize (nk l k).getD m 0 = x at *
              generalize sumAt (nk l k) (args.take j) = sj at *
              have w1' := IntWalk.i64_in (B + sj + x) (by omega)
              have w2' := IntWalk.wrap64_in (B + sj + x) (by omega)
              have p0 : (j : Int) < (args.length : Int) := by omega
              have p1 : (0 : Int) ≤ (j : Int) := by omega
              have p2 : (m : Int) < (l.length : Int) := by omega
              have p3 : (0 : Int) ≤ (m : Int) := by omega
              clear ha hbk hca hx htk
              go_wp2_with fail
              go_roundg f2
              case measure => omega
              case rel => exact ⟨j + 1, by go_num, by omega, by omega, by rw [HTK.out, ← Int.add_assoc], rfl⟩
            · have hjs : j = args.length := by omega
              subst hjs
              rw [List.take_length] at hsj ⊢
              have y6 : w3.cell? ⟨w.heap.size, k, none⟩ = some (.int .i64 0) := by rw [HG3.out.cell]; exact narr_at hlt
              have y7 := HG3.out.frozen k
              have HGS := Lib.hid (HG3.out.set_ k (.int .i64 (min (B + sumAt (nk l k) args) 5000)))
              rw [HSET.out] at HGS
              have p0 : ¬ ((args.length : Int) < (args.length : Int)) := by omega
              generalize sumAt (nk l k) args = sj at *
              go_wp2_with fail
              go_roundg f
              case measure => omega
              case rel => exact ⟨k + 1, by go_num, by omega, by omega, HGS, Lib.hid (HB3.out.setCell (p := ⟨w.heap.size, k, none⟩) (Nat.le_refl _) _)⟩
      have edlet : (op == [108, 101, 110, 99, 117, 116]) = false := beq_eq_false_iff_ne.2 dlet
      have hno : ¬ (op = nMatches ∨ op = nFirstfind ∨ op = nLencut) := fun h => h.elim dmas (fun h => h.elim dfid dlet)
      have HNO := Lib.hid hno
      clear hno dmas dfid dlet
      cases rx with
      | true =>
        have HB0 : Hid (B = 2) := Lib.hid (by have h := HBN.out; rw [if_neg HNO.out] at h; simp at h; omega)
        go_wp2_with fail
        clear v0 v1 v2 v3 v4
        go_loopg [7, 8] (args.length + 1) (fun f v i wr => InRel w3 (nk l k) args B f i v wr)
        case atStart => exact ⟨0, rfl, by omega, by omega, by rw [List.take_zero, HB0.out]; rfl, rfl⟩
        case round =>
          obtain ⟨j, rfl, hj, hjf, rfl, rfl⟩ := hrel
          obtain ⟨f2, rfl⟩ : ∃ f2, gk = f2 + 1 := ⟨gk - 1, by omega⟩
          have hsj := sumAt_bdM (by omega) HBD.out (args.take j)
          have hlj : (args.take j).length ≤ j := List.length_take_le _ _
          by_cases hjl : j < args.length
          · obtain ⟨a, ha⟩ : ∃ a, args[j]? = some a := ⟨args[j], List.getElem?_eq_getElem hjl⟩
            have hbk := HBK.out a (List.mem_of_getElem? ha)
            obtain ⟨m, rfl⟩ := natInt hbk.1
            obtain ⟨ba, oa, rfl, hba, hca⟩ := (HAR.out.below HB3.out).form (by omega)
            have y5 := hca j (.int .i64 m) (by rw [List.getElem?_map, ha]; rfl)
            have hm : m < k := by omega
            have y6 : w3.cell? ⟨w.heap.size, m, none⟩ = some (.int .i64 ((nk l k).getD m 0)) := by rw [HG3.out.cell]; exact narr_get hk hm
            have hx : 0 ≤ (nk l k).getD m 0 ∧ (nk l k).getD m 0 ≤ 5000 := by
              rw [List.getD_eq_getElem?_getD]
              cases h : (nk l k)[m]? with
              | none => simp
              | some x => exact HBD.out x (List.mem_of_getElem? h)
            have htk : sumAt (nk l k) (args.take (j + 1)) = sumAt (nk l k) (args.take j) + (nk l k).getD m 0 := by rw [List.take_add_one, ha]; exact sumAt_snoc _ _ _
            have HTK := Lib.hid htk
            generalize (nk l k).getD m 0 = x at *
            generalize sumAt (nk l k) (args.take j) = sj at *
            have w1' := IntWalk.i64_in (B + sj + x) (by omega)
            have w2' := IntWalk.wrap64_in (B + sj + x) (by omega)
            have p0 : (j : Int) < (args.length : Int) := by omega
            have p1 : (0 : Int) ≤ (j : Int) := by omega
            have p2 : (m : Int) < (l.length : Int) := by omega
            have p3 : (0 : Int) ≤ (m : Int) := by omega
            clear ha hbk hca hx htk
            go_wp2_with fail
            go_roundg f2
            case measure => omega
            case rel => exact ⟨j + 1, by go_num, by omega, by omega, by rw [HTK.out, ← Int.add_assoc], rfl⟩
          · have hjs : j = args.length := by omega
            subst hjs
            rw [List.take_length] at hsj ⊢
            have y6 : w3.cell? ⟨w.heap.size, k, none⟩ = some (.int .i64 0) := by rw [HG3.out.cell]; exact narr_at hlt
            have y7 := HG3.out.frozen k
            have HGS := Lib.hid (HG3.out.set_ k (.int .i64 (min (B + sumAt (nk l k) args) 5000)))
            rw [HSET.out] at HGS
            have p0 : ¬ ((args.length : Int) < (args.length : Int)) := by omega
            generalize sumAt (nk l k) args = sj at *
            go_wp2_with fail
            go_roundg f
            case measure => omega
            case rel => exact ⟨k + 1, by go_num, by omega, by omega, HGS, Lib.hid (HB3.out.setCell (p := ⟨w.heap.size, k, none⟩) (Nat.le_refl _) _)⟩
      | false =>
        have HB0 : Hid (B = 1) := Lib.hid (by have h := HBN.out; rw [if_neg HNO.out] at h; simp at h; omega)
        go_wp2_with fail
        clear v0 v1 v2 v3 v4
        go_loopg [7, 8] (args.length + 1) (fun f v i wr => InRel w3 (nk l k) args B f i v wr)
        case atStart => exact ⟨0, rfl, by omega, by omega, by rw [List.take_zero, HB0.out]; rfl, rfl⟩
        case round =>
          obtain ⟨j, rfl, hj, hjf, rfl, rfl⟩ := hrel
          obtain ⟨f2, rfl⟩ : ∃ f2, gk = f2 + 1 := ⟨gk - 1, by omega⟩
          have hsj := sumAt_bdM (by omega) HBD.out (args.take j)
          have hlj : (args.take j).length ≤ j := List.length_take_le _ _
          by_cases hjl : j < args.length
          · obtain ⟨a, ha⟩ : ∃ a, args[j]? = some a := ⟨args[j], List.getElem?_eq_getElem hjl⟩
            have hbk := HBK.out a (List.mem_of_getElem? ha)
            obtain ⟨m, rfl⟩ := natInt hbk.1
            obtain ⟨ba, oa, rfl, hba, hca⟩ := (HAR.out.below HB3.out).form (by omega)
            have y5 := hca j (.int .i64 m) (by rw [List.getElem?_map, ha]; rfl)
            have hm : m < k := by omega
            have y6 : w3.cell? ⟨w.heap.size, m, none⟩ = some (.int .i64 ((nk l k).getD m 0)) := by rw [HG3.out.cell]; exact narr_get hk hm
            have hx : 0 ≤ (nk l k).getD m 0 ∧ (nk l k).getD m 0 ≤ 5000 := by
              rw [List.getD_eq_getElem?_getD]
              cases h : (nk l k)[m]? with
              | none => simp
              | some x => exact HBD.out x (List.mem_of_getElem? h)
            have htk : sumAt (nk l k) (args.take (j + 1)) = sumAt (nk l k) (args.take j) + (nk l k).getD m 0 := by rw [List.take_add_one, ha]; exact sumAt_snoc _ _ _
            have HTK := Lib.hid htk
            generalize (nk l k).getD m 0 = x at *
            generalize sumAt (nk l k) (args.take j) = sj at *
            have w1' := IntWalk.i64_in (B + sj + x) (by omega)
            have w2' := IntWalk.wrap64_in (B + sj + x) (by omega)
            have p0 : (j : Int) < (args.length : Int) := by omega
            have p1 : (0 : Int) ≤ (j : Int) := by omega
            have p2 : (m : Int) < (l.length : Int) := by omega
            have p3 : (0 : Int) ≤ (m : Int) := by omega
            clear ha hbk hca hx htk
            go_wp2_with fail
            go_roundg f2
            case measure => omega
            case rel => exact ⟨j + 1, by go_num, by omega, by omega, by rw [HTK.out, ← Int.add_assoc], rfl⟩
          · have hjs : j = args.length := by omega
            subst hjs
            rw [List.take_length] at hsj ⊢
            have y6 : w3.cell? ⟨w.heap.size, k, none⟩ = some (.int .i64 0) := by rw [HG3.out.cell]; exact narr_at hlt
            have y7 := HG3.out.frozen k
            have HGS := Lib.hid (HG3.out.set_ k (.int .i64 (min (B + sumAt (nk l k) args) 5000)))
            rw [HSET.out] at HGS
            have p0 : ¬ ((args.length : Int) < (args.length : Int)) := by omega
            generalize sumAt (nk l k) args = sj at *
            go_wp2_with fail
            go_roundg f
            case measure => omega
            case rel => exact ⟨k + 1, by go_num, by omega, by omega, HGS, Lib.hid (HB3.out.setCell (p := ⟨w.heap.size, k, none⟩) (Nat.le_refl _) _)⟩
    · have hkl : k = l.length := by omega
      subst hkl
      have q0 : ¬ ((l.length : Int) < (l.length : Int)) := by omega
      go_wp2_with fail
      go_ret
      exact ⟨rfl, HG.out, HB.out⟩
end Go.Proofs.YtoegklpomlhneaaGreatDoor
namespace Go.Proofs.YtoegklpomlhneaaGreatDoor
open Go.RowKit
theorem rcall_any (s : ByteArray) (A : Option Addr) (n c : Nat) (w : World) : Calls Tryz.prog 49 #[.string s, .slice A n c] w fun e w' => e = .returned (.agg #[.int .i64 4, .string s, .int .i64 0, .slice A n c]) ∧ Below w.heap.size w w' := by
  go_enter Tryz.func49, Tryz.ntmps49
  go_wp2_with fail
  exact bodyPost_ret (v := .agg #[.int .i64 4, .string s, .int .i64 0, .slice A n c]) (by simp [results, Tryz.results49, go_sem]) rfl ⟨rfl, (Below.refl _ _).alloc (Nat.le_refl _) _⟩
def TgRel (w : World) (l : List St) (args : List Int) (stC : Array Value) (f : Nat) (i v : Value) (wr : World) : Prop := ∃ (k : Nat) (css : List Value), i = .int .i64 k ∧ k ≤ args.length ∧ args.length - k < f ∧
  Hid (wr.ownsRow (w.heap.size + 1) 41 4 v k css) ∧ Hid (NodeVs wr (offB (w.heap.size + 1) wr v) ((args.take k).map fun a => growR l a.toNat) css) ∧
  Hid (Blk wr w.heap.size 41 #[.int .i64 0, .string ⟨#[]⟩, .int .i64 0, .slice none 0 0]) ∧ Hid (Blk wr (w.heap.size + 1) 57 stC) ∧ Hid (Below w.heap.size w wr)
set_option maxRecDepth 100000 in
set_option maxHeartbeats 16000000 in
theorem rtree_step (A : Option Addr) (c : Nat) (l : List St) (i : Nat) (s : St) (w : World) (hs : l[i]? = some s) (hP : ArgPl w A l) (hn : l.length ≤ 100000) (hsm : s.args.length ≤ 100000)
    (hback : ∀ a ∈ s.args, 0 ≤ a ∧ a < (i : Int)) (ih : ∀ (j : Nat) (wj : World), j < i → ArgPl wj A l → Calls Tryz.prog 35 #[.slice A l.length c, .int .i64 j] wj (GrEnd wj (growR l j))) (o : OpI) (hf : Fine l i s o) :
    Calls Tryz.prog 35 #[.slice A l.length c, .int .i64 i] w (GrEnd w (nodeR s (s.args.map fun a => growR l a.toNat))) := by
  have hil := (List.getElem?_eq_some_iff.1 hs).1
  obtain ⟨b, ob, As, cs, rfl, hbl, x0, x1, x2, x3, x4, har⟩ := hP i s hs
  obtain ⟨op, args, num, text, ty⟩ := s
  dsimp only at x0 x1 x2 x3 x4 hsm hback har
  have q0 : (i : Int) < (l.length : Int) := by omega
  have q1 : (0 : Int) ≤ (i : Int) := by omega
  have HP := Lib.hid hP
  have HAR := Lib.hid har
  have HBK := Lib.hid hback
  have HIH := Lib.hid ih
  have HF := Lib.hid hf
  have HB2 := Lib.hid (show Below w.heap.size w ((w.alloc (.cells #[.int .i64 0, .string ⟨#[]⟩, .int .i64 0, .slice none 0 0] 41)).alloc (.cells #[.string ⟨op.toArray⟩, .slice As args.length cs, .int .i64 num, .string ⟨text.toArray⟩, .int .i64 ty] 57)) from ((Below.refl _ _).alloc (Nat.le_refl _) _).alloc (by simp) _)
  have HX0 := Lib.hid ((Blk.new w 41 #[.int .i64 0, .string ⟨#[]⟩, .int .i64 0, .slice none 0 0]).alloc (.cells #[.string ⟨op.toArray⟩, .slice As args.length cs, .int .i64 num, .string ⟨text.toArray⟩, .int .i64 ty] 57))
  have HX1 := Lib.hid (show Blk ((w.alloc (.cells #[.int .i64 0, .string ⟨#[]⟩, .int .i64 0, .slice none 0 0] 41)).alloc (.cells #[.string ⟨op.toArray⟩, .slice As args.length cs, .int .i64 num, .string ⟨text.toArray⟩, .int .i64 ty] 57)) (w.heap.size + 1) 57 _ by
    have := Blk.new (w.alloc (.cells #[.int .i64 0, .string ⟨#[]⟩, .int .i64 0, .slice none 0 0] 41)) 57 #[.string ⟨op.toArray⟩, .slice As args.length cs, .int .i64 num, .string ⟨text.toArray⟩, .int .i64 ty]
    simpa using this)
  clear hP har hs hback ih hf
  go_enter Tryz.func35, Tryz.ntmps35
  go_wp2_with fail
  clear x0 x1 x2 x3 x4
  go_loopg [6, 7] (args.length + 1) (fun f v i wr => TgRel w l args #[.string ⟨op.toArray⟩, .slice As args.length cs, .int .i64 num, .string ⟨text.toArray⟩, .int .i64 ty] f i v wr)
  case atStart => exact ⟨0, [], rfl, by omega, by omega, Lib.hid ⟨rfl, .inl ⟨rfl, rfl⟩⟩, Lib.hid rfl, HX0, HX1, HB2⟩
  case round =>
    obtain ⟨k, css, rfl, hk, hkf, HOW, HNS, HR0, HR1, HBW⟩ := hrel
    obtain ⟨f, rfl⟩ : ∃ f, gk = f + 1 := ⟨gk - 1, by omega⟩
    have s0 := HR1.out.cell 0
    have s1 := HR1.out.cell 1
    have s2 := HR1.out.cell 2
    have s3 := HR1.out.cell 3
    simp only [List.getElem?_toArray, List.getElem?_cons_zero, List.getElem?_cons_succ] at s0 s1 s2 s3
    by_cases hlt : k < args.length
    · obtain ⟨a, ha⟩ : ∃ a, args[k]? = some a := ⟨args[k], List.getElem?_eq_getElem hlt⟩
      have hbk := HBK.out a (List.mem_of_getElem? ha)
      obtain ⟨m, rfl⟩ := natInt hbk.1
      obtain ⟨ba, oa, rfl, hba, hca⟩ := (HAR.out.below HBW.out).form (by omega)
      have y1 := hca k (.int .i64 m) (by rw [List.getElem?_map, ha]; rfl)
      have hg := HIH.out m wr (by omega) (HP.out.below HBW.out)
      have htk : (args.take (k + 1)).map (fun a => growR l a.toNat) = (args.take k).map (fun a => growR l a.toNat) ++ [growR l m] := by rw [List.take_add_one, ha]; simp
      have HG := Lib.hid hg
      have HTK := Lib.hid htk
      have p0 : (k : Int) < (args.length : Int) := by omega
      have p1 : (0 : Int) ≤ (k : Int) := by omega
      clear ha hbk hca hg htk s0 s2 s3
      go_wp2_with fail
      refine HG.out.mono ?_
      rintro e w4 ⟨cs1, rfl, hn1, hb4⟩
      obtain ⟨k1, t1, m1, A1, n1, c1, rfl⟩ := hn1.form
      have ho4 := (own_below HOW.out hb4).alloc (.cells #[.int .i64 k1, .string t1, .int .i64 m1, .slice A1 n1 c1] 41)
      have hrr := reads4 w4 (.int .i64 k1) (.string t1) (.int .i64 m1) (.slice A1 n1 c1) 41
      have hone : ∀ u ∈ ([.int .i64 k1, .string t1, .int .i64 m1, .slice A1 n1 c1] : List Value), u.oneCell' = true := by simp [Value.oneCell']
      have hz4 := hb4.size
      have hww := HBW.out.size
      have hl1 := HR1.out.lt
      have HN4 := Lib.hid hn1
      have HB4 := Lib.hid hb4
      clear hn1 hb4 s1 y1
      obtain ⟨i0, hinf, hz0, hz1', hz2'⟩ := info_parts infoExpr
      go_wp2_with (at_builtin; refine wpList_append_any _ rfl (.tmp 20) (.tmp 28) 39 rfl (w.heap.size + 1) 41 i0 (.agg #[.int .i64 0, .string ⟨#[]⟩, .int .i64 0, .slice none 0 0]) 4 56 Tryz.underlying39 hinf hz0 hz1' hz2' rfl (by decide) _ k css rfl ho4 _ _ _ _ [.int .i64 k1, .string t1, .int .i64 m1, .slice A1 n1 c1] rfl hrr hone (by unfold maxLen; omega) (by omega) (by simp; omega) ?_)
      intro v5 w5 hown5 hg5 hv5
      have hv5' : v5.ownBlock = u6.ownBlock ∨ v5.ownBlock = some (w4.heap.size + 1) := by simpa using hv5
      have HN5 := Lib.hid (rowB_add HNS.out (by omega) HB4.out HN4.out _ (own_lt HOW.out) hg5 hv5')
      have HO5 := Lib.hid hown5
      have hlo5 := fun j e => (own_lo HOW.out (g := j) e).1
      have HB5 := Lib.hid (((HBW.out.trans (HB4.out.mono hww)).alloc (by omega) _).grown hg5 (by simp; omega) (fun j e => by have := hlo5 j e; omega))
      have HR05 := Lib.hid (((HR0.out.below HB4.out HR0.out.lt).alloc _).grown hg5 (fun e => by have := hlo5 _ e.symm; omega))
      have HR15 := Lib.hid (((HR1.out.below HB4.out HR1.out.lt).alloc _).grown hg5 (fun e => own_blk_ne HOW.out HR1.out (by decide) e.symm))
      clear ho4 hrr hone hinf hz0 hz1' hz2' hown5 hg5 hv5 hlo5 hv5'
      go_wp2_with fail
      go_roundg f
      case measure => omega
      case rel => exact ⟨k + 1, _, by go_num, by omega, by omega, HO5, Lib.hid (by rw [HTK.out]; exact HN5.out), HR05, HR15, HB5⟩
    · have hks : k = args.length := by omega
      subst hks
      have hlen : args.length = ((args.map fun a => growR l a.toNat)).length := by simp
      have HLN := Lib.hid hlen
      have HNS := Lib.hid (show NodeVs wr (offB (w.heap.size + 1) wr u6) (args.map fun a => growR l a.toNat) css by have := HNS.out; rwa [List.take_length] at this)
      obtain ⟨A6, c6, rfl⟩ := own_form HOW.out
      generalize hτ : (args.map fun a => growR l a.toNat) = τs at *
      have hwr := HBW.out.size
      have hl1 := HR1.out.lt
      have hl0 := HR0.out.lt
      have HTS := Lib.hid hτ
      clear hlen hτ
      by_cases l0 : op = [110, 117, 109, 98, 101, 114]
      · subst l0
        go_upto_region 8 with (fail)
        obtain ⟨wE, hwE⟩ : ∃ wE, wE = wr.alloc (.cells #[.int .i64 2, .string ⟨text.toArray⟩, .int .i64 0, .slice none 0 0] 41) := ⟨_, rfl⟩
        have HE := Lib.hid (show Blk wE wr.heap.size 41 #[.int .i64 2, .string ⟨text.toArray⟩, .int .i64 0, .slice none 0 0] by rw [hwE]; exact Blk.new _ _ _)
        have HER := Lib.hid (show Blk wE w.heap.size 41 #[.int .i64 0, .string ⟨#[]⟩, .int .i64 0, .slice none 0 0] by rw [hwE]; exact HR0.out.alloc _)
        have HEB := Lib.hid (show Below wr.heap.size wr wE by rw [hwE]; exact below_alloc _ _)
        have p4 := (HEB.out.cell (p := ⟨w.heap.size + 1, 0, none⟩) hl1).trans s0
        have p5 := (HEB.out.cell (p := ⟨w.heap.size + 1, 2, none⟩) hl1).trans s2
        have p6 := (HEB.out.cell (p := ⟨w.heap.size + 1, 3, none⟩) hl1).trans s3
        rw [← hwE]
        obtain ⟨p0, p1, p2, p3, _, _, _, _⟩ := blk4 HE.out
        obtain ⟨y0, y1, y2, y3, v0, v1, v2, v3⟩ := blk4 HER.out
        have HBF := Lib.hid (HBW.out.trans (HEB.out.mono hwr))
        clear hwE s0 s1 s2 s3
        go_wp2_with fail
        refine bodyPost_ret (v := .agg #[.int .i64 1, .string ⟨#[]⟩, .int .i64 num, .slice none 0 0]) (by simp [results, Tryz.results35, go_sem, y0, y1, y2, y3]) rfl ?_
        have HNR := Lib.hid (show nodeR ⟨[110, 117, 109, 98, 101, 114], args, num, text, ty⟩ τs = .node 1 [] num [] from rfl)
        rw [HTS.out, HNR.out]
        exact grEnd_mk HBF.out (NodeV.leaf _ _ 1 [] num)
      have z1 : (op == [110, 117, 109, 98, 101, 114]) = false := beq_eq_false_iff_ne.2 l0
      by_cases l1 : op = [115, 116, 114, 105, 110, 103]
      · subst l1
        go_upto_region 8 with (fail)
        obtain ⟨wE, hwE⟩ : ∃ wE, wE = wr.alloc (.cells #[.int .i64 2, .string ⟨text.toArray⟩, .int .i64 0, .slice none 0 0] 41) := ⟨_, rfl⟩
        have HE := Lib.hid (show Blk wE wr.heap.size 41 #[.int .i64 2, .string ⟨text.toArray⟩, .int .i64 0, .slice none 0 0] by rw [hwE]; exact Blk.new _ _ _)
        have HER := Lib.hid (show Blk wE w.heap.size 41 #[.int .i64 0, .string ⟨#[]⟩, .int .i64 0, .slice none 0 0] by rw [hwE]; exact HR0.out.alloc _)
        have HEB := Lib.hid (show Below wr.heap.size wr wE by rw [hwE]; exact below_alloc _ _)
        have p4 := (HEB.out.cell (p := ⟨w.heap.size + 1, 0, none⟩) hl1).trans s0
        have p5 := (HEB.out.cell (p := ⟨w.heap.size + 1, 2, none⟩) hl1).trans s2
        have p6 := (HEB.out.cell (p := ⟨w.heap.size + 1, 3, none⟩) hl1).trans s3
        rw [← hwE]
        obtain ⟨p0, p1, p2, p3, _, _, _, _⟩ := blk4 HE.out
        obtain ⟨y0, y1, y2, y3, v0, v1, v2, v3⟩ := blk4 HER.out
        have HBF := Lib.hid (HBW.out.trans (HEB.out.mono hwr))
        clear hwE s0 s1 s2 s3
        go_wp2_with fail
        refine bodyPost_ret (v := .agg #[.int .i64 2, .string ⟨text.toArray⟩, .int .i64 0, .slice none 0 0]) (by simp [results, Tryz.results35, go_sem, y0, y1, y2, y3]) rfl ?_
        have HNR := Lib.hid (show nodeR ⟨[115, 116, 114, 105, 110, 103], args, num, text, ty⟩ τs = .node 2 text 0 [] from rfl)
        rw [HTS.out, HNR.out]
        exact grEnd_mk HBF.out (NodeV.leaf _ _ 2 text 0)
      have z2 : (op == [115, 116, 114, 105, 110, 103]) = false := beq_eq_false_iff_ne.2 l1
      by_cases l2 : op = [114, 101, 102]
      · subst l2
        go_upto_region 8 with (fail)
        obtain ⟨wE, hwE⟩ : ∃ wE, wE = wr.alloc (.cells #[.int .i64 2, .string ⟨text.toArray⟩, .int .i64 0, .slice none 0 0] 41) := ⟨_, rfl⟩
        have HE := Lib.hid (show Blk wE wr.heap.size 41 #[.int .i64 2, .string ⟨text.toArray⟩, .int .i64 0, .slice none 0 0] by rw [hwE]; exact Blk.new _ _ _)
        have HER := Lib.hid (show Blk wE w.heap.size 41 #[.int .i64 0, .string ⟨#[]⟩, .int .i64 0, .slice none 0 0] by rw [hwE]; exact HR0.out.alloc _)
        have HEB := Lib.hid (show Below wr.heap.size wr wE by rw [hwE]; exact below_alloc _ _)
        have p4 := (HEB.out.cell (p := ⟨w.heap.size + 1, 0, none⟩) hl1).trans s0
        have p5 := (HEB.out.cell (p := ⟨w.heap.size + 1, 2, none⟩) hl1).trans s2
        have p6 := (HEB.out.cell (p := ⟨w.heap.size + 1, 3, none⟩) hl1).trans s3
        rw [← hwE]
        obtain ⟨p0, p1, p2, p3, _, _, _, _⟩ := blk4 HE.out
        obtain ⟨y0, y1, y2, y3, v0, v1, v2, v3⟩ := blk4 HER.out
        have HBF := Lib.hid (HBW.out.trans (HEB.out.mono hwr))
        clear hwE s0 s1 s2 s3
        go_wp2_with fail
        refine bodyPost_ret (v := .agg #[.int .i64 3, .string ⟨text.toArray⟩, .int .i64 0, .slice none 0 0]) (by simp [results, Tryz.results35, go_sem, y0, y1, y2, y3]) rfl ?_
        have HNR := Lib.hid (show nodeR ⟨[114, 101, 102], args, num, text, ty⟩ τs = .node 3 text 0 [] from rfl)
        rw [HTS.out, HNR.out]
        exact grEnd_mk HBF.out (NodeV.leaf _ _ 3 text 0)
      have z3 : (op == [114, 101, 102]) = false := beq_eq_false_iff_ne.2 l2
      have HK : Hid (¬ (op = nNumber ∨ op = nString ∨ op = nRef)) := Lib.hid (fun h => h.elim l0 (fun h => h.elim l1 l2))
      clear l0 l1 l2 s2
      by_cases d1 : op = [99, 111, 117, 110, 116] ∨ op = [104, 97, 115] ∨ op = [102, 105, 110, 100]
      · have h1 : args.length = 1 := by
          have h := HF.out.len
          have ho := HF.out.op
          rcases d1 with rfl | rfl | rfl
          all_goals
            injection (ho.symm.trans (show opR _ = some ⟨[3], _, _, _⟩ from rfl)) with ho
            rw [ho] at h
            exact h
        obtain ⟨g6, c', cur, hv, hnc, hbg, hB, hsz, ht, _⟩ := own_full HOW.out (by omega)
        injection hv with hA _ hc
        subst hA hc
        obtain ⟨τ0, hτ0⟩ : ∃ τ0, τs = [τ0] := by
          match τs, (HLN.out.symm.trans h1) with
          | [x0], _ => exact ⟨x0, rfl⟩
        subst hτ0
        obtain ⟨k0, t0, m0, A0, n0, c0, hnd0, hcs0⟩ := HNS.out.at_ 0 τ0 rfl
        have hcell0 : ∀ (j : Nat) u, ([.int .i64 k0, .string t0, .int .i64 m0, .slice A0 n0 c0] : List Value)[j]? = some u → wr.cell? ⟨g6, 0 * 4 + j, none⟩ = some u := fun j u hj => by
          have h := hcs0 j u hj
          rw [← ht, List.getElem?_take] at h
          split at h
          · rw [hB.cell]; simpa using h
          · cases h
        have e00 := hcell0 0 _ rfl
        have e01 := hcell0 1 _ rfl
        have e02 := hcell0 2 _ rfl
        have e03 := hcell0 3 _ rfl
        have HN0 := Lib.hid (show NodeV wr (fun i => w.heap.size < i ∧ i < wr.heap.size) τ0 [.int .i64 k0, .string t0, .int .i64 m0, .slice A0 n0 c0] from NodeV.keep (w' := wr) (fun _ _ _ => rfl) (fun i h _ => ⟨h.1, h.2.1⟩) hnd0)
        clear hcell0 hcs0 hnd0
        simp only [Nat.zero_mul, Nat.zero_add, Nat.reduceAdd] at e00 e01 e02 e03
        have hg6 := hB.lt
        rw [h1]
        clear ht hB hnc hsz
        rcases d1 with rfl | rfl | rfl
        · clear z1 z2 z3
          go_upto_region 18 with (fail)
          obtain ⟨wE, hwE⟩ : ∃ wE, wE = wr.alloc (.cells #[.int .i64 2, .string ⟨text.toArray⟩, .int .i64 0, .slice none 0 0] 41) := ⟨_, rfl⟩
          have HE := Lib.hid (show Blk wE wr.heap.size 41 #[.int .i64 2, .string ⟨text.toArray⟩, .int .i64 0, .slice none 0 0] by rw [hwE]; exact Blk.new _ _ _)
          have HER := Lib.hid (show Blk wE w.heap.size 41 #[.int .i64 0, .string ⟨#[]⟩, .int .i64 0, .slice none 0 0] by rw [hwE]; exact HR0.out.alloc _)
          have HEB := Lib.hid (show Below wr.heap.size wr wE by rw [hwE]; exact below_alloc _ _)
          have p4 := (HEB.out.cell (p := ⟨w.heap.size + 1, 0, none⟩) hl1).trans s0
          rw [← hwE]
          have hzE : wr.heap.size < wE.heap.size := HE.out.lt
          obtain ⟨p0, p1, p2, p3, _, _, _, _⟩ := blk4 HE.out
          have f00 := (HEB.out.cell (p := ⟨g6, 0, none⟩) hg6).trans e00
          have f01 := (HEB.out.cell (p := ⟨g6, 1, none⟩) hg6).trans e01
          have f02 := (HEB.out.cell (p := ⟨g6, 2, none⟩) hg6).trans e02
          have f03 := (HEB.out.cell (p := ⟨g6, 3, none⟩) hg6).trans e03
          clear hwE s0 s3 e00 e01 e02 e03
          have hq1 : ¬ (w.heap.size = g6) := by omega
          have hq2 : ¬ (g6 = w.heap.size) := by omega
          have hq3 : ¬ (w.heap.size = wr.heap.size) := by omega
          have hq4 : ¬ (wr.heap.size = w.heap.size) := by omega
          go_region_held3 (fun w' => w'.cell? ⟨w.heap.size + 1, 0, none⟩ = some (.string ⟨#[99, 111, 117, 110, 116]⟩) ∧ w'.cell? ⟨g6, 0, none⟩ = some (.int .i64 k0) ∧ w'.cell? ⟨g6, 1, none⟩ = some (.string t0) ∧ w'.cell? ⟨g6, 2, none⟩ = some (.int .i64 m0) ∧ w'.cell? ⟨g6, 3, none⟩ = some (.slice A0 n0 c0) ∧ w'.cell? ⟨wr.heap.size, 0, none⟩ = some (.int .i64 2) ∧ w'.cell? ⟨wr.heap.size, 1, none⟩ = some (.string ⟨text.toArray⟩) ∧ w'.cell? ⟨wr.heap.size, 2, none⟩ = some (.int .i64 0) ∧ w'.cell? ⟨wr.heap.size, 3, none⟩ = some (.slice none 0 0))
            (first | go_keep | (refine ⟨?_, ?_, ?_, ?_, ?_, ?_, ?_, ?_, ?_⟩ <;> assumption))
            (first | (go_at_call 49; refine (rcall_any _ _ _ _ _).mono ?_; rintro e w6 ⟨rfl, hb6⟩; have hW : Below wE.heap.size wE w6 := (((Below.refl _ wE).alloc (Nat.le_refl _) _).drew).trans (hb6.mono (by simp)); have HBB := Lib.hid (Blk.below (Blk.drew (Blk.new wE 41 _)) hb6 (by simp)); have o0 := (hW.cell (p := ⟨w.heap.size + 1, 0, none⟩) (Nat.lt_trans hl1 hzE)).trans p4; have o1 := (hW.cell (p := ⟨g6, 0, none⟩) (Nat.lt_trans hg6 hzE)).trans f00; have o2 := (hW.cell (p := ⟨g6, 1, none⟩) (Nat.lt_trans hg6 hzE)).trans f01; have o3 := (hW.cell (p := ⟨g6, 2, none⟩) (Nat.lt_trans hg6 hzE)).trans f02; have o4 := (hW.cell (p := ⟨g6, 3, none⟩) (Nat.lt_trans hg6 hzE)).trans f03; have o5 := (hW.cell (p := ⟨wr.heap.size, 0, none⟩) (hzE)).trans p0; have o6 := (hW.cell (p := ⟨wr.heap.size, 1, none⟩) (hzE)).trans p1; have o7 := (hW.cell (p := ⟨wr.heap.size, 2, none⟩) (hzE)).trans p2; have o8 := (hW.cell (p := ⟨wr.heap.size, 3, none⟩) (hzE)).trans p3; obtain ⟨y0, y1, y2, y3, v0, v1, v2, v3⟩ := blk4 (HER.out.below hW (Nat.lt_trans hl0 hzE))))
          have hz6 := HBB.out.lt
          have hb1 : Below wr.heap.size wr w6 := HEB.out.trans (hW.mono (Nat.le_of_lt hzE))
          have hn1 : NodeV w6 (fun i => w.heap.size < i ∧ i < w6.heap.size) τ0 [.int .i64 k0, .string t0, .int .i64 m0, .slice A0 n0 c0] := HN0.out.keep (fun i hi _ => hb1.block i hi.2) (fun i hi _ => ⟨hi.1, Nat.lt_of_lt_of_le hi.2 hb1.size⟩)
          have hn2 := node_call2 (F := fun i => w.heap.size < i ∧ i < w6.heap.size) (c := 2) HBB.out ⟨by omega, hz6⟩ hn1 (NodeV.leaf w6 _ 2 text 0) [99, 111, 117, 110, 116]
          have HN2 := Lib.hid hn2
          have HBF := Lib.hid (HBW.out.trans (hb1.mono hwr))
          clear hn1 hn2 hb1
          go_wp2_with fail
          refine bodyPost_ret (v := .agg #[.int .i64 4, .string ⟨#[99, 111, 117, 110, 116]⟩, .int .i64 0, .slice (some ⟨wE.heap.size, 0, none⟩) 2 2]) (by simp [results, Tryz.results35, go_sem, y0, y1, y2, y3]) rfl ?_
          have HNR := Lib.hid (show nodeR ⟨[99, 111, 117, 110, 116], args, num, text, ty⟩ [τ0] = .node 4 [99, 111, 117, 110, 116] 0 [τ0, .node 2 text 0 []] from rfl)
          rw [HTS.out, HNR.out]
          exact grEnd_mk HBF.out HN2.out
        · clear z1 z2 z3
          go_upto_region 18 with (fail)
          obtain ⟨wE, hwE⟩ : ∃ wE, wE = wr.alloc (.cells #[.int .i64 2, .string ⟨text.toArray⟩, .int .i64 0, .slice none 0 0] 41) := ⟨_, rfl⟩
          have HE := Lib.hid (show Blk wE wr.heap.size 41 #[.int .i64 2, .string ⟨text.toArray⟩, .int .i64 0, .slice none 0 0] by rw [hwE]; exact Blk.new _ _ _)
          have HER := Lib.hid (show Blk wE w.heap.size 41 #[.int .i64 0, .string ⟨#[]⟩, .int .i64 0, .slice none 0 0] by rw [hwE]; exact HR0.out.alloc _)
          have HEB := Lib.hid (show Below wr.heap.size wr wE by rw [hwE]; exact below_alloc _ _)
          have p4 := (HEB.out.cell (p := ⟨w.heap.size + 1, 0, none⟩) hl1).trans s0
          rw [← hwE]
          have hzE : wr.heap.size < wE.heap.size := HE.out.lt
          obtain ⟨p0, p1, p2, p3, _, _, _, _⟩ := blk4 HE.out
          have f00 := (HEB.out.cell (p := ⟨g6, 0, none⟩) hg6).trans e00
          have f01 := (HEB.out.cell (p := ⟨g6, 1, none⟩) hg6).trans e01
          have f02 := (HEB.out.cell (p := ⟨g6, 2, none⟩) hg6).trans e02
          have f03 := (HEB.out.cell (p := ⟨g6, 3, none⟩) hg6).trans e03
          clear hwE s0 s3 e00 e01 e02 e03
          have hq1 : ¬ (w.heap.size = g6) := by omega
          have hq2 : ¬ (g6 = w.heap.size) := by omega
          have hq3 : ¬ (w.heap.size = wr.heap.size) := by omega
          have hq4 : ¬ (wr.heap.size = w.heap.size) := by omega
          go_region_held3 (fun w' => w'.cell? ⟨w.heap.size + 1, 0, none⟩ = some (.string ⟨#[104, 97, 115]⟩) ∧ w'.cell? ⟨g6, 0, none⟩ = some (.int .i64 k0) ∧ w'.cell? ⟨g6, 1, none⟩ = some (.string t0) ∧ w'.cell? ⟨g6, 2, none⟩ = some (.int .i64 m0) ∧ w'.cell? ⟨g6, 3, none⟩ = some (.slice A0 n0 c0) ∧ w'.cell? ⟨wr.heap.size, 0, none⟩ = some (.int .i64 2) ∧ w'.cell? ⟨wr.heap.size, 1, none⟩ = some (.string ⟨text.toArray⟩) ∧ w'.cell? ⟨wr.heap.size, 2, none⟩ = some (.int .i64 0) ∧ w'.cell? ⟨wr.heap.size, 3, none⟩ = some (.slice none 0 0))
            (first | go_keep | (refine ⟨?_, ?_, ?_, ?_, ?_, ?_, ?_, ?_, ?_⟩ <;> assumption))
            (first | (go_at_call 49; refine (rcall_any _ _ _ _ _).mono ?_; rintro e w6 ⟨rfl, hb6⟩; have hW : Below wE.heap.size wE w6 := (((Below.refl _ wE).alloc (Nat.le_refl _) _).drew).trans (hb6.mono (by simp)); have HBB := Lib.hid (Blk.below (Blk.drew (Blk.new wE 41 _)) hb6 (by simp)); have o0 := (hW.cell (p := ⟨w.heap.size + 1, 0, none⟩) (Nat.lt_trans hl1 hzE)).trans p4; have o1 := (hW.cell (p := ⟨g6, 0, none⟩) (Nat.lt_trans hg6 hzE)).trans f00; have o2 := (hW.cell (p := ⟨g6, 1, none⟩) (Nat.lt_trans hg6 hzE)).trans f01; have o3 := (hW.cell (p := ⟨g6, 2, none⟩) (Nat.lt_trans hg6 hzE)).trans f02; have o4 := (hW.cell (p := ⟨g6, 3, none⟩) (Nat.lt_trans hg6 hzE)).trans f03; have o5 := (hW.cell (p := ⟨wr.heap.size, 0, none⟩) (hzE)).trans p0; have o6 := (hW.cell (p := ⟨wr.heap.size, 1, none⟩) (hzE)).trans p1; have o7 := (hW.cell (p := ⟨wr.heap.size, 2, none⟩) (hzE)).trans p2; have o8 := (hW.cell (p := ⟨wr.heap.size, 3, none⟩) (hzE)).trans p3; obtain ⟨y0, y1, y2, y3, v0, v1, v2, v3⟩ := blk4 (HER.out.below hW (Nat.lt_trans hl0 hzE))))
          have hz6 := HBB.out.lt
          have hb1 : Below wr.heap.size wr w6 := HEB.out.trans (hW.mono (Nat.le_of_lt hzE))
          have hn1 : NodeV w6 (fun i => w.heap.size < i ∧ i < w6.heap.size) τ0 [.int .i64 k0, .string t0, .int .i64 m0, .slice A0 n0 c0] := HN0.out.keep (fun i hi _ => hb1.block i hi.2) (fun i hi _ => ⟨hi.1, Nat.lt_of_lt_of_le hi.2 hb1.size⟩)
          have hn2 := node_call2 (F := fun i => w.heap.size < i ∧ i < w6.heap.size) (c := 2) HBB.out ⟨by omega, hz6⟩ hn1 (NodeV.leaf w6 _ 2 text 0) [104, 97, 115]
          have HN2 := Lib.hid hn2
          have HBF := Lib.hid (HBW.out.trans (hb1.mono hwr))
          clear hn1 hn2 hb1
          go_wp2_with fail
          refine bodyPost_ret (v := .agg #[.int .i64 4, .string ⟨#[104, 97, 115]⟩, .int .i64 0, .slice (some ⟨wE.heap.size, 0, none⟩) 2 2]) (by simp [results, Tryz.results35, go_sem, y0, y1, y2, y3]) rfl ?_
          have HNR := Lib.hid (show nodeR ⟨[104, 97, 115], args, num, text, ty⟩ [τ0] = .node 4 [104, 97, 115] 0 [τ0, .node 2 text 0 []] from rfl)
          rw [HTS.out, HNR.out]
          exact grEnd_mk HBF.out HN2.out
        · clear z1 z2 z3
          go_upto_region 18 with (fail)
          obtain ⟨wE, hwE⟩ : ∃ wE, wE = wr.alloc (.cells #[.int .i64 2, .string ⟨text.toArray⟩, .int .i64 0, .slice none 0 0] 41) := ⟨_, rfl⟩
          have HE := Lib.hid (show Blk wE wr.heap.size 41 #[.int .i64 2, .string ⟨text.toArray⟩, .int .i64 0, .slice none 0 0] by rw [hwE]; exact Blk.new _ _ _)
          have HER := Lib.hid (show Blk wE w.heap.size 41 #[.int .i64 0, .string ⟨#[]⟩, .int .i64 0, .slice none 0 0] by rw [hwE]; exact HR0.out.alloc _)
          have HEB := Lib.hid (show Below wr.heap.size wr wE by rw [hwE]; exact below_alloc _ _)
          have p4 := (HEB.out.cell (p := ⟨w.heap.size + 1, 0, none⟩) hl1).trans s0
          rw [← hwE]
          have hzE : wr.heap.size < wE.heap.size := HE.out.lt
          obtain ⟨p0, p1, p2, p3, _, _, _, _⟩ := blk4 HE.out
          have f00 := (HEB.out.cell (p := ⟨g6, 0, none⟩) hg6).trans e00
          have f01 := (HEB.out.cell (p := ⟨g6, 1, none⟩) hg6).trans e01
          have f02 := (HEB.out.cell (p := ⟨g6, 2, none⟩) hg6).trans e02
          have f03 := (HEB.out.cell (p := ⟨g6, 3, none⟩) hg6).trans e03
          clear hwE s0 s3 e00 e01 e02 e03
          have hq1 : ¬ (w.heap.size = g6) := by omega
          have hq2 : ¬ (g6 = w.heap.size) := by omega
          have hq3 : ¬ (w.heap.size = wr.heap.size) := by omega
          have hq4 : ¬ (wr.heap.size = w.heap.size) := by omega
          go_region_held3 (fun w' => w'.cell? ⟨w.heap.size + 1, 0, none⟩ = some (.string ⟨#[102, 105, 110, 100]⟩) ∧ w'.cell? ⟨g6, 0, none⟩ = some (.int .i64 k0) ∧ w'.cell? ⟨g6, 1, none⟩ = some (.string t0) ∧ w'.cell? ⟨g6, 2, none⟩ = some (.int .i64 m0) ∧ w'.cell? ⟨g6, 3, none⟩ = some (.slice A0 n0 c0) ∧ w'.cell? ⟨wr.heap.size, 0, none⟩ = some (.int .i64 2) ∧ w'.cell? ⟨wr.heap.size, 1, none⟩ = some (.string ⟨text.toArray⟩) ∧ w'.cell? ⟨wr.heap.size, 2, none⟩ = some (.int .i64 0) ∧ w'.cell? ⟨wr.heap.size, 3, none⟩ = some (.slice none 0 0))
            (first | go_keep | (refine ⟨?_, ?_, ?_, ?_, ?_, ?_, ?_, ?_, ?_⟩ <;> assumption))
            (first | (go_at_call 49; refine (rcall_any _ _ _ _ _).mono ?_; rintro e w6 ⟨rfl, hb6⟩; have hW : Below wE.heap.size wE w6 := (((Below.refl _ wE).alloc (Nat.le_refl _) _).drew).trans (hb6.mono (by simp)); have HBB := Lib.hid (Blk.below (Blk.drew (Blk.new wE 41 _)) hb6 (by simp)); have o0 := (hW.cell (p := ⟨w.heap.size + 1, 0, none⟩) (Nat.lt_trans hl1 hzE)).trans p4; have o1 := (hW.cell (p := ⟨g6, 0, none⟩) (Nat.lt_trans hg6 hzE)).trans f00; have o2 := (hW.cell (p := ⟨g6, 1, none⟩) (Nat.lt_trans hg6 hzE)).trans f01; have o3 := (hW.cell (p := ⟨g6, 2, none⟩) (Nat.lt_trans hg6 hzE)).trans f02; have o4 := (hW.cell (p := ⟨g6, 3, none⟩) (Nat.lt_trans hg6 hzE)).trans f03; have o5 := (hW.cell (p := ⟨wr.heap.size, 0, none⟩) (hzE)).trans p0; have o6 := (hW.cell (p := ⟨wr.heap.size, 1, none⟩) (hzE)).trans p1; have o7 := (hW.cell (p := ⟨wr.heap.size, 2, none⟩) (hzE)).trans p2; have o8 := (hW.cell (p := ⟨wr.heap.size, 3, none⟩) (hzE)).trans p3; obtain ⟨y0, y1, y2, y3, v0, v1, v2, v3⟩ := blk4 (HER.out.below hW (Nat.lt_trans hl0 hzE))))
          have hz6 := HBB.out.lt
          have hb1 : Below wr.heap.size wr w6 := HEB.out.trans (hW.mono (Nat.le_of_lt hzE))
          have hn1 : NodeV w6 (fun i => w.heap.size < i ∧ i < w6.heap.size) τ0 [.int .i64 k0, .string t0, .int .i64 m0, .slice A0 n0 c0] := HN0.out.keep (fun i hi _ => hb1.block i hi.2) (fun i hi _ => ⟨hi.1, Nat.lt_of_lt_of_le hi.2 hb1.size⟩)
          have hn2 := node_call2 (F := fun i => w.heap.size < i ∧ i < w6.heap.size) (c := 2) HBB.out ⟨by omega, hz6⟩ hn1 (NodeV.leaf w6 _ 2 text 0) [102, 105, 110, 100]
          have HN2 := Lib.hid hn2
          have HBF := Lib.hid (HBW.out.trans (hb1.mono hwr))
          clear hn1 hn2 hb1
          go_wp2_with fail
          refine bodyPost_ret (v := .agg #[.int .i64 4, .string ⟨#[102, 105, 110, 100]⟩, .int .i64 0, .slice (some ⟨wE.heap.size, 0, none⟩) 2 2]) (by simp [results, Tryz.results35, go_sem, y0, y1, y2, y3]) rfl ?_
          have HNR := Lib.hid (show nodeR ⟨[102, 105, 110, 100], args, num, text, ty⟩ [τ0] = .node 4 [102, 105, 110, 100] 0 [τ0, .node 2 text 0 []] from rfl)
          rw [HTS.out, HNR.out]
          exact grEnd_mk HBF.out HN2.out
      have a1 : (op == [99, 111, 117, 110, 116]) = false := by simpa using fun h => d1 (.inl h)
      have a2 : (op == [104, 97, 115]) = false := by simpa using fun h => d1 (.inr (.inl h))
      have a3 : (op == [102, 105, 110, 100]) = false := by simpa using fun h => d1 (.inr (.inr h))
      by_cases d2 : op = [109, 97, 116, 99, 104, 101, 115]
      · subst d2
        have h1 : args.length = 1 := by
          have h := HF.out.len
          injection (HF.out.op.symm.trans (show opR _ = some ⟨[3], _, _, _⟩ from rfl)) with ho
          rw [ho] at h
          exact h
        obtain ⟨g6, c', cur, hv, hnc, hbg, hB, hsz, ht, _⟩ := own_full HOW.out (by omega)
        injection hv with hA _ hc
        subst hA hc
        obtain ⟨τ0, hτ0⟩ : ∃ τ0, τs = [τ0] := by
          match τs, (HLN.out.symm.trans h1) with
          | [x0], _ => exact ⟨x0, rfl⟩
        subst hτ0
        obtain ⟨k0, t0, m0, A0, n0, c0, hnd0, hcs0⟩ := HNS.out.at_ 0 τ0 rfl
        have hcell0 : ∀ (j : Nat) u, ([.int .i64 k0, .string t0, .int .i64 m0, .slice A0 n0 c0] : List Value)[j]? = some u → wr.cell? ⟨g6, 0 * 4 + j, none⟩ = some u := fun j u hj => by
          have h := hcs0 j u hj
          rw [← ht, List.getElem?_take] at h
          split at h
          · rw [hB.cell]; simpa using h
          · cases h
        have e00 := hcell0 0 _ rfl
        have e01 := hcell0 1 _ rfl
        have e02 := hcell0 2 _ rfl
        have e03 := hcell0 3 _ rfl
        have HN0 := Lib.hid (show NodeV wr (fun i => w.heap.size < i ∧ i < wr.heap.size) τ0 [.int .i64 k0, .string t0, .int .i64 m0, .slice A0 n0 c0] from NodeV.keep (w' := wr) (fun _ _ _ => rfl) (fun i h _ => ⟨h.1, h.2.1⟩) hnd0)
        clear hcell0 hcs0 hnd0
        simp only [Nat.zero_mul, Nat.zero_add, Nat.reduceAdd] at e00 e01 e02 e03
        have hg6 := hB.lt
        rw [h1]
        clear ht hB hnc hsz
        clear z1 z2 z3
        go_upto_region 20 with (fail)
        obtain ⟨wE, hwE⟩ : ∃ wE, wE = wr.alloc (.cells #[.int .i64 2, .string ⟨text.toArray⟩, .int .i64 0, .slice none 0 0] 41) := ⟨_, rfl⟩
        have HE := Lib.hid (show Blk wE wr.heap.size 41 #[.int .i64 2, .string ⟨text.toArray⟩, .int .i64 0, .slice none 0 0] by rw [hwE]; exact Blk.new _ _ _)
        have HER := Lib.hid (show Blk wE w.heap.size 41 #[.int .i64 0, .string ⟨#[]⟩, .int .i64 0, .slice none 0 0] by rw [hwE]; exact HR0.out.alloc _)
        have HEB := Lib.hid (show Below wr.heap.size wr wE by rw [hwE]; exact below_alloc _ _)
        have p4 := (HEB.out.cell (p := ⟨w.heap.size + 1, 0, none⟩) hl1).trans s0
        rw [← hwE]
        have hzE : wr.heap.size < wE.heap.size := HE.out.lt
        obtain ⟨p0, p1, p2, p3, _, _, _, _⟩ := blk4 HE.out
        have f00 := (HEB.out.cell (p := ⟨g6, 0, none⟩) hg6).trans e00
        have f01 := (HEB.out.cell (p := ⟨g6, 1, none⟩) hg6).trans e01
        have f02 := (HEB.out.cell (p := ⟨g6, 2, none⟩) hg6).trans e02
        have f03 := (HEB.out.cell (p := ⟨g6, 3, none⟩) hg6).trans e03
        clear hwE s0 s3 e00 e01 e02 e03
        have hq1 : ¬ (w.heap.size = g6) := by omega
        have hq2 : ¬ (g6 = w.heap.size) := by omega
        have hq3 : ¬ (w.heap.size = wr.heap.size) := by omega
        have hq4 : ¬ (wr.heap.size = w.heap.size) := by omega
        have tok1 : True := trivial
        go_region_held3 (fun w' => w'.cell? ⟨g6, 0, none⟩ = some (.int .i64 k0) ∧ w'.cell? ⟨g6, 1, none⟩ = some (.string t0) ∧ w'.cell? ⟨g6, 2, none⟩ = some (.int .i64 m0) ∧ w'.cell? ⟨g6, 3, none⟩ = some (.slice A0 n0 c0) ∧ w'.cell? ⟨wr.heap.size, 0, none⟩ = some (.int .i64 2) ∧ w'.cell? ⟨wr.heap.size, 1, none⟩ = some (.string ⟨text.toArray⟩) ∧ w'.cell? ⟨wr.heap.size, 2, none⟩ = some (.int .i64 0) ∧ w'.cell? ⟨wr.heap.size, 3, none⟩ = some (.slice none 0 0))
          (first | go_keep | (refine ⟨?_, ?_, ?_, ?_, ?_, ?_, ?_, ?_⟩ <;> assumption))
          (first | (go_at_call 49; have tk := tok1; refine (rcall_any _ _ _ _ _).mono ?_; rintro e w6 ⟨rfl, hb6⟩; have hW : Below wE.heap.size wE w6 := (((Below.refl _ wE).alloc (Nat.le_refl _) _).drew).trans (hb6.mono (by simp)); have HBB := Lib.hid (Blk.below (Blk.drew (Blk.new wE 41 _)) hb6 (by simp)); have o0 := (hW.cell (p := ⟨g6, 0, none⟩) (Nat.lt_trans hg6 hzE)).trans f00; have o1 := (hW.cell (p := ⟨g6, 1, none⟩) (Nat.lt_trans hg6 hzE)).trans f01; have o2 := (hW.cell (p := ⟨g6, 2, none⟩) (Nat.lt_trans hg6 hzE)).trans f02; have o3 := (hW.cell (p := ⟨g6, 3, none⟩) (Nat.lt_trans hg6 hzE)).trans f03; have o4 := (hW.cell (p := ⟨wr.heap.size, 0, none⟩) (hzE)).trans p0; have o5 := (hW.cell (p := ⟨wr.heap.size, 1, none⟩) (hzE)).trans p1; have o6 := (hW.cell (p := ⟨wr.heap.size, 2, none⟩) (hzE)).trans p2; have o7 := (hW.cell (p := ⟨wr.heap.size, 3, none⟩) (hzE)).trans p3; have HER6 := Lib.hid (HER.out.below hW (Nat.lt_trans hl0 hzE)); clear tok1 tk) | (go_at_call 49; refine (rcall_any _ _ _ _ _).mono ?_; rintro e w7 ⟨rfl, hb7⟩; have hW7 : Below w6.heap.size w6 w7 := ((Below.refl _ w6).alloc (Nat.le_refl _) _).trans (hb7.mono (by simp)); have HBC := Lib.hid (Blk.below (Blk.new w6 41 _) hb7 (by simp)); have u0 := (hW7.cell (p := ⟨g6, 0, none⟩) (Nat.lt_of_lt_of_le (Nat.lt_trans hg6 hzE) hW.size)).trans o0; have u1 := (hW7.cell (p := ⟨g6, 1, none⟩) (Nat.lt_of_lt_of_le (Nat.lt_trans hg6 hzE) hW.size)).trans o1; have u2 := (hW7.cell (p := ⟨g6, 2, none⟩) (Nat.lt_of_lt_of_le (Nat.lt_trans hg6 hzE) hW.size)).trans o2; have u3 := (hW7.cell (p := ⟨g6, 3, none⟩) (Nat.lt_of_lt_of_le (Nat.lt_trans hg6 hzE) hW.size)).trans o3; have u4 := (hW7.cell (p := ⟨wr.heap.size, 0, none⟩) (Nat.lt_of_lt_of_le (hzE) hW.size)).trans o4; have u5 := (hW7.cell (p := ⟨wr.heap.size, 1, none⟩) (Nat.lt_of_lt_of_le (hzE) hW.size)).trans o5; have u6 := (hW7.cell (p := ⟨wr.heap.size, 2, none⟩) (Nat.lt_of_lt_of_le (hzE) hW.size)).trans o6; have u7 := (hW7.cell (p := ⟨wr.heap.size, 3, none⟩) (Nat.lt_of_lt_of_le (hzE) hW.size)).trans o7; obtain ⟨y0, y1, y2, y3, v0, v1, v2, v3⟩ := blk4 (HER6.out.below hW7 HER6.out.lt)))
        have hz6 := HBB.out.lt
        have hz7 := HBC.out.lt
        have hz67 := hW7.size
        have hb1 : Below wr.heap.size wr w7 := (HEB.out.trans (hW.mono (Nat.le_of_lt hzE))).trans (hW7.mono (by have := HEB.out.size; have := hW.size; omega))
        have hn0 : NodeV w7 (fun i => w.heap.size < i ∧ i < w7.heap.size) τ0 [.int .i64 k0, .string t0, .int .i64 m0, .slice A0 n0 c0] := HN0.out.keep (fun i hi _ => hb1.block i hi.2) (fun i hi _ => ⟨hi.1, Nat.lt_of_lt_of_le hi.2 hb1.size⟩)
        have hf := node_call2 (F := fun i => w.heap.size < i ∧ i < w7.heap.size) (c := 2) (HBB.out.below hW7 hz6) ⟨by omega, by omega⟩ hn0 (NodeV.leaf w7 _ 2 text 0) [102, 105, 110, 100]
        have hn2 := node_calls (F := fun i => w.heap.size < i ∧ i < w7.heap.size) (c := 1) (m := 1) HBC.out ⟨by omega, by omega⟩ (NodeVs.one hf) (fun j u hj => by simpa using hj) rfl [115, 105, 122, 101]
        have HN2 := Lib.hid hn2
        have HBF := Lib.hid (HBW.out.trans (hb1.mono hwr))
        clear hn0 hf hn2 hb1
        go_wp2_with fail
        refine bodyPost_ret (v := .agg #[.int .i64 4, .string ⟨#[115, 105, 122, 101]⟩, .int .i64 0, .slice (some ⟨w6.heap.size, 0, none⟩) 1 1]) (by simp [results, Tryz.results35, go_sem, y0, y1, y2, y3]) rfl ?_
        have HNR := Lib.hid (show nodeR ⟨[109, 97, 116, 99, 104, 101, 115], args, num, text, ty⟩ [τ0] = .node 4 [115, 105, 122, 101] 0 [.node 4 [102, 105, 110, 100] 0 [τ0, .node 2 text 0 []]] from rfl)
        rw [HTS.out, HNR.out]
        exact grEnd_mk HBF.out HN2.out
      have bd2 : (op == [109, 97, 116, 99, 104, 101, 115]) = false := by simpa using d2
      by_cases d3 : op = [102, 105, 114, 115, 116, 102, 105, 110, 100]
      · subst d3
        have h1 : args.length = 2 := by
          have h := HF.out.len
          injection (HF.out.op.symm.trans (show opR _ = some ⟨[3, 1], _, _, _⟩ from rfl)) with ho
          rw [ho] at h
          exact h
        obtain ⟨g6, c', cur, hv, hnc, hbg, hB, hsz, ht, _⟩ := own_full HOW.out (by omega)
        injection hv with hA _ hc
        subst hA hc
        obtain ⟨τ0, τ1, hτ0⟩ : ∃ τ0 τ1, τs = [τ0, τ1] := by
          match τs, (HLN.out.symm.trans h1) with
          | [x0, x1], _ => exact ⟨x0, x1, rfl⟩
        subst hτ0
        obtain ⟨k0, t0, m0, A0, n0, c0, hnd0, hcs0⟩ := HNS.out.at_ 0 τ0 rfl
        have hcell0 : ∀ (j : Nat) u, ([.int .i64 k0, .string t0, .int .i64 m0, .slice A0 n0 c0] : List Value)[j]? = some u → wr.cell? ⟨g6, 0 * 4 + j, none⟩ = some u := fun j u hj => by
          have h := hcs0 j u hj
          rw [← ht, List.getElem?_take] at h
          split at h
          · rw [hB.cell]; simpa using h
          · cases h
        have e00 := hcell0 0 _ rfl
        have e01 := hcell0 1 _ rfl
        have e02 := hcell0 2 _ rfl
        have e03 := hcell0 3 _ rfl
        have HN0 := Lib.hid (show NodeV wr (fun i => w.heap.size < i ∧ i < wr.heap.size) τ0 [.int .i64 k0, .string t0, .int .i64 m0, .slice A0 n0 c0] from NodeV.keep (w' := wr) (fun _ _ _ => rfl) (fun i h _ => ⟨h.1, h.2.1⟩) hnd0)
        clear hcell0 hcs0 hnd0
        obtain ⟨k1, t1, m1, A1, n1, c1, hnd1, hcs1⟩ := HNS.out.at_ 1 τ1 rfl
        have hcell1 : ∀ (j : Nat) u, ([.int .i64 k1, .string t1, .int .i64 m1, .slice A1 n1 c1] : List Value)[j]? = some u → wr.cell? ⟨g6, 1 * 4 + j, none⟩ = some u := fun j u hj => by
          have h := hcs1 j u hj
          rw [← ht, List.getElem?_take] at h
          split at h
          · rw [hB.cell]; simpa using h
          · cases h
        have e10 := hcell1 0 _ rfl
        have e11 := hcell1 1 _ rfl
        have e12 := hcell1 2 _ rfl
        have e13 := hcell1 3 _ rfl
        have HN1 := Lib.hid (show NodeV wr (fun i => w.heap.size < i ∧ i < wr.heap.size) τ1 [.int .i64 k1, .string t1, .int .i64 m1, .slice A1 n1 c1] from NodeV.keep (w' := wr) (fun _ _ _ => rfl) (fun i h _ => ⟨h.1, h.2.1⟩) hnd1)
        clear hcell1 hcs1 hnd1
        simp only [Nat.zero_mul, Nat.zero_add, Nat.one_mul, Nat.reduceAdd] at e00 e01 e02 e03 e10 e11 e12 e13
        have hg6 := hB.lt
        rw [h1]
        clear ht hB hnc hsz
        clear z1 z2 z3
        go_upto_region 22 with (fail)
        obtain ⟨wE, hwE⟩ : ∃ wE, wE = wr.alloc (.cells #[.int .i64 2, .string ⟨text.toArray⟩, .int .i64 0, .slice none 0 0] 41) := ⟨_, rfl⟩
        have HE := Lib.hid (show Blk wE wr.heap.size 41 #[.int .i64 2, .string ⟨text.toArray⟩, .int .i64 0, .slice none 0 0] by rw [hwE]; exact Blk.new _ _ _)
        have HER := Lib.hid (show Blk wE w.heap.size 41 #[.int .i64 0, .string ⟨#[]⟩, .int .i64 0, .slice none 0 0] by rw [hwE]; exact HR0.out.alloc _)
        have HEB := Lib.hid (show Below wr.heap.size wr wE by rw [hwE]; exact below_alloc _ _)
        have p4 := (HEB.out.cell (p := ⟨w.heap.size + 1, 0, none⟩) hl1).trans s0
        rw [← hwE]
        have hzE : wr.heap.size < wE.heap.size := HE.out.lt
        obtain ⟨p0, p1, p2, p3, _, _, _, _⟩ := blk4 HE.out
        have f00 := (HEB.out.cell (p := ⟨g6, 0, none⟩) hg6).trans e00
        have f01 := (HEB.out.cell (p := ⟨g6, 1, none⟩) hg6).trans e01
        have f02 := (HEB.out.cell (p := ⟨g6, 2, none⟩) hg6).trans e02
        have f03 := (HEB.out.cell (p := ⟨g6, 3, none⟩) hg6).trans e03
        have f10 := (HEB.out.cell (p := ⟨g6, 4, none⟩) hg6).trans e10
        have f11 := (HEB.out.cell (p := ⟨g6, 5, none⟩) hg6).trans e11
        have f12 := (HEB.out.cell (p := ⟨g6, 6, none⟩) hg6).trans e12
        have f13 := (HEB.out.cell (p := ⟨g6, 7, none⟩) hg6).trans e13
        clear hwE s0 s3 e00 e01 e02 e03 e10 e11 e12 e13
        have hq1 : ¬ (w.heap.size = g6) := by omega
        have hq2 : ¬ (g6 = w.heap.size) := by omega
        have hq3 : ¬ (w.heap.size = wr.heap.size) := by omega
        have hq4 : ¬ (wr.heap.size = w.heap.size) := by omega
        have tok1 : True := trivial
        go_region_held3 (fun w' => w'.cell? ⟨g6, 0, none⟩ = some (.int .i64 k0) ∧ w'.cell? ⟨g6, 1, none⟩ = some (.string t0) ∧ w'.cell? ⟨g6, 2, none⟩ = some (.int .i64 m0) ∧ w'.cell? ⟨g6, 3, none⟩ = some (.slice A0 n0 c0) ∧ w'.cell? ⟨g6, 4, none⟩ = some (.int .i64 k1) ∧ w'.cell? ⟨g6, 5, none⟩ = some (.string t1) ∧ w'.cell? ⟨g6, 6, none⟩ = some (.int .i64 m1) ∧ w'.cell? ⟨g6, 7, none⟩ = some (.slice A1 n1 c1) ∧ w'.cell? ⟨wr.heap.size, 0, none⟩ = some (.int .i64 2) ∧ w'.cell? ⟨wr.heap.size, 1, none⟩ = some (.string ⟨text.toArray⟩) ∧ w'.cell? ⟨wr.heap.size, 2, none⟩ = some (.int .i64 0) ∧ w'.cell? ⟨wr.heap.size, 3, none⟩ = some (.slice none 0 0))
          (first | go_keep | (refine ⟨?_, ?_, ?_, ?_, ?_, ?_, ?_, ?_, ?_, ?_, ?_, ?_⟩ <;> assumption))
          (first | (go_at_call 49; have tk := tok1; refine (rcall_any _ _ _ _ _).mono ?_; rintro e w6 ⟨rfl, hb6⟩; have hW : Below wE.heap.size wE w6 := (((Below.refl _ wE).alloc (Nat.le_refl _) _).drew).trans (hb6.mono (by simp)); have HBB := Lib.hid (Blk.below (Blk.drew (Blk.new wE 41 _)) hb6 (by simp)); have o0 := (hW.cell (p := ⟨g6, 0, none⟩) (Nat.lt_trans hg6 hzE)).trans f00; have o1 := (hW.cell (p := ⟨g6, 1, none⟩) (Nat.lt_trans hg6 hzE)).trans f01; have o2 := (hW.cell (p := ⟨g6, 2, none⟩) (Nat.lt_trans hg6 hzE)).trans f02; have o3 := (hW.cell (p := ⟨g6, 3, none⟩) (Nat.lt_trans hg6 hzE)).trans f03; have o4 := (hW.cell (p := ⟨g6, 4, none⟩) (Nat.lt_trans hg6 hzE)).trans f10; have o5 := (hW.cell (p := ⟨g6, 5, none⟩) (Nat.lt_trans hg6 hzE)).trans f11; have o6 := (hW.cell (p := ⟨g6, 6, none⟩) (Nat.lt_trans hg6 hzE)).trans f12; have o7 := (hW.cell (p := ⟨g6, 7, none⟩) (Nat.lt_trans hg6 hzE)).trans f13; have o8 := (hW.cell (p := ⟨wr.heap.size, 0, none⟩) (hzE)).trans p0; have o9 := (hW.cell (p := ⟨wr.heap.size, 1, none⟩) (hzE)).trans p1; have o10 := (hW.cell (p := ⟨wr.heap.size, 2, none⟩) (hzE)).trans p2; have o11 := (hW.cell (p := ⟨wr.heap.size, 3, none⟩) (hzE)).trans p3; have HER6 := Lib.hid (HER.out.below hW (Nat.lt_trans hl0 hzE)); clear tok1 tk) | (go_at_call 49; refine (rcall_any _ _ _ _ _).mono ?_; rintro e w7 ⟨rfl, hb7⟩; have hW7 : Below w6.heap.size w6 w7 := ((Below.refl _ w6).alloc (Nat.le_refl _) _).trans (hb7.mono (by simp)); have HBC := Lib.hid (Blk.below (Blk.new w6 41 _) hb7 (by simp)); have u0 := (hW7.cell (p := ⟨g6, 0, none⟩) (Nat.lt_of_lt_of_le (Nat.lt_trans hg6 hzE) hW.size)).trans o0; have u1 := (hW7.cell (p := ⟨g6, 1, none⟩) (Nat.lt_of_lt_of_le (Nat.lt_trans hg6 hzE) hW.size)).trans o1; have u2 := (hW7.cell (p := ⟨g6, 2, none⟩) (Nat.lt_of_lt_of_le (Nat.lt_trans hg6 hzE) hW.size)).trans o2; have u3 := (hW7.cell (p := ⟨g6, 3, none⟩) (Nat.lt_of_lt_of_le (Nat.lt_trans hg6 hzE) hW.size)).trans o3; have u4 := (hW7.cell (p := ⟨g6, 4, none⟩) (Nat.lt_of_lt_of_le (Nat.lt_trans hg6 hzE) hW.size)).trans o4; have u5 := (hW7.cell (p := ⟨g6, 5, none⟩) (Nat.lt_of_lt_of_le (Nat.lt_trans hg6 hzE) hW.size)).trans o5; have u6 := (hW7.cell (p := ⟨g6, 6, none⟩) (Nat.lt_of_lt_of_le (Nat.lt_trans hg6 hzE) hW.size)).trans o6; have u7 := (hW7.cell (p := ⟨g6, 7, none⟩) (Nat.lt_of_lt_of_le (Nat.lt_trans hg6 hzE) hW.size)).trans o7; have u8 := (hW7.cell (p := ⟨wr.heap.size, 0, none⟩) (Nat.lt_of_lt_of_le (hzE) hW.size)).trans o8; have u9 := (hW7.cell (p := ⟨wr.heap.size, 1, none⟩) (Nat.lt_of_lt_of_le (hzE) hW.size)).trans o9; have u10 := (hW7.cell (p := ⟨wr.heap.size, 2, none⟩) (Nat.lt_of_lt_of_le (hzE) hW.size)).trans o10; have u11 := (hW7.cell (p := ⟨wr.heap.size, 3, none⟩) (Nat.lt_of_lt_of_le (hzE) hW.size)).trans o11; obtain ⟨y0, y1, y2, y3, v0, v1, v2, v3⟩ := blk4 (HER6.out.below hW7 HER6.out.lt)))
        have hz6 := HBB.out.lt
        have hz7 := HBC.out.lt
        have hz67 := hW7.size
        have hb1 : Below wr.heap.size wr w7 := (HEB.out.trans (hW.mono (Nat.le_of_lt hzE))).trans (hW7.mono (by have := HEB.out.size; have := hW.size; omega))
        have hn0 : NodeV w7 (fun i => w.heap.size < i ∧ i < w7.heap.size) τ0 [.int .i64 k0, .string t0, .int .i64 m0, .slice A0 n0 c0] := HN0.out.keep (fun i hi _ => hb1.block i hi.2) (fun i hi _ => ⟨hi.1, Nat.lt_of_lt_of_le hi.2 hb1.size⟩)
        have hn1 : NodeV w7 (fun i => w.heap.size < i ∧ i < w7.heap.size) τ1 [.int .i64 k1, .string t1, .int .i64 m1, .slice A1 n1 c1] := HN1.out.keep (fun i hi _ => hb1.block i hi.2) (fun i hi _ => ⟨hi.1, Nat.lt_of_lt_of_le hi.2 hb1.size⟩)
        have hf := node_call2 (F := fun i => w.heap.size < i ∧ i < w7.heap.size) (c := 2) (HBB.out.below hW7 hz6) ⟨by omega, by omega⟩ hn0 (NodeV.leaf w7 _ 2 text 0) [102, 105, 110, 100]
        have hn2 := node_call2 (F := fun i => w.heap.size < i ∧ i < w7.heap.size) (c := 2) HBC.out ⟨by omega, by omega⟩ hf hn1 [102, 105, 114, 115, 116]
        have HN2 := Lib.hid hn2
        have HBF := Lib.hid (HBW.out.trans (hb1.mono hwr))
        clear hn0 hn1 hf hn2 hb1
        go_wp2_with fail
        refine bodyPost_ret (v := .agg #[.int .i64 4, .string ⟨#[102, 105, 114, 115, 116]⟩, .int .i64 0, .slice (some ⟨w6.heap.size, 0, none⟩) 2 2]) (by simp [results, Tryz.results35, go_sem, y0, y1, y2, y3]) rfl ?_
        have HNR := Lib.hid (show nodeR ⟨[102, 105, 114, 115, 116, 102, 105, 110, 100], args, num, text, ty⟩ [τ0, τ1] = .node 4 [102, 105, 114, 115, 116] 0 [.node 4 [102, 105, 110, 100] 0 [τ0, .node 2 text 0 []], τ1] from rfl)
        rw [HTS.out, HNR.out]
        exact grEnd_mk HBF.out HN2.out
      have bd3 : (op == [102, 105, 114, 115, 116, 102, 105, 110, 100]) = false := by simpa using d3
      by_cases d4 : op = [108, 101, 110, 99, 117, 116]
      · subst d4
        have h1 : args.length = 3 := by
          have h := HF.out.len
          injection (HF.out.op.symm.trans (show opR _ = some ⟨[3, 1, 1], _, _, _⟩ from rfl)) with ho
          rw [ho] at h
          exact h
        clear z1 z2 z3
        have HER := Lib.hid (HR0.out.alloc (.cells #[.int .i64 2, .string ⟨text.toArray⟩, .int .i64 0, .slice none 0 0] 41))
        have HEB := Lib.hid (below_alloc wr (.cells #[.int .i64 2, .string ⟨text.toArray⟩, .int .i64 0, .slice none 0 0] 41))
        go_wp2_with fail
        refine (rcall_any _ _ _ _ _).mono ?_
        rintro e w6 ⟨rfl, hb6⟩
        have hW : Below wr.heap.size wr w6 := HEB.out.trans (hb6.mono (by simp))
        have HER6 := Lib.hid (HER.out.below hb6 (by simp; omega))
        have HW := Lib.hid hW
        have hz6 := hW.size
        clear hb6 hW
        go_wp2_with fail
        refine (rcall_any _ _ _ _ _).mono ?_
        rintro e w7 ⟨rfl, hb7⟩
        have hW7 : Below w6.heap.size w6 w7 := ((Below.refl _ w6).alloc (Nat.le_refl _) _).trans (hb7.mono (by simp))
        have HBC := Lib.hid (Blk.below (Blk.new w6 41 _) hb7 (by simp))
        obtain ⟨y0, y1, y2, y3, v0, v1, v2, v3⟩ := blk4 (HER6.out.below hW7 HER6.out.lt)
        have hz7 := HBC.out.lt
        have hb1 : Below wr.heap.size wr w7 := HW.out.trans (hW7.mono hz6)
        have hf := row_node HOW.out HNS.out HLN.out hb1 [99, 117, 116]
        rw [h1] at hf
        have hn2 := node_calls (F := fun i => w.heap.size < i ∧ i < w7.heap.size) (c := 1) (m := 1) HBC.out ⟨by omega, by omega⟩ (NodeVs.one hf) (fun j u hj => by simpa using hj) rfl [108, 101, 110]
        have HN2 := Lib.hid hn2
        have HBF := Lib.hid (HBW.out.trans (hb1.mono hwr))
        clear hf hn2 hb1 hb7 hW7
        go_wp2_with fail
        refine bodyPost_ret (v := .agg #[.int .i64 4, .string ⟨#[108, 101, 110]⟩, .int .i64 0, .slice (some ⟨w6.heap.size, 0, none⟩) 1 1]) (by simp [results, Tryz.results35, go_sem, y0, y1, y2, y3]) rfl ?_
        have HNR := Lib.hid (show nodeR ⟨[108, 101, 110, 99, 117, 116], args, num, text, ty⟩ τs = .node 4 [108, 101, 110] 0 [.node 4 [99, 117, 116] 0 τs] from rfl)
        rw [HTS.out, HNR.out]
        exact grEnd_mk HBF.out HN2.out
      have bd4 : (op == [108, 101, 110, 99, 117, 116]) = false := by simpa using d4
      have HER := Lib.hid (HR0.out.alloc (.cells #[.int .i64 2, .string ⟨text.toArray⟩, .int .i64 0, .slice none 0 0] 41))
      have HEB := Lib.hid (below_alloc wr (.cells #[.int .i64 2, .string ⟨text.toArray⟩, .int .i64 0, .slice none 0 0] 41))
      go_wp2_with fail
      refine (rcall_any _ _ _ _ _).mono ?_
      rintro e w6 ⟨rfl, hb6⟩
      have hb1 : Below wr.heap.size wr w6 := HEB.out.trans (hb6.mono (by simp))
      obtain ⟨y0, y1, y2, y3, v0, v1, v2, v3⟩ := blk4 (HER.out.below hb6 (by simp; omega))
      have hf := row_node HOW.out HNS.out HLN.out hb1 op
      have HNR := Lib.hid (show nodeR ⟨op, args, num, text, ty⟩ τs = .node 4 op 0 τs by
        have hk := HK.out
        unfold nodeR
        dsimp only
        rw [if_neg (fun h => hk (.inl h)), if_neg (fun h => hk (.inr (.inl h))), if_neg (fun h => hk (.inr (.inr h))), if_neg (show ¬ (op = nCount ∨ op = nHas ∨ op = nFind) from d1), if_neg (show ¬ op = nMatches from d2), if_neg (show ¬ op = nFirstfind from d3), if_neg (show ¬ op = nLencut from d4)])
      have HN2 := Lib.hid hf
      have HBF := Lib.hid (HBW.out.trans (hb1.mono hwr))
      clear hf hb1 hb6 d1 d2 d3 d4
      go_wp2_with fail
      refine bodyPost_ret (v := .agg #[.int .i64 4, .string ⟨op.toArray⟩, .int .i64 0, .slice A6 args.length c6]) (by simp [results, Tryz.results35, go_sem, y0, y1, y2, y3]) rfl ?_
      rw [HTS.out, HNR.out]
      exact grEnd_mk HBF.out HN2.out
theorem rtree_any (A : Option Addr) (c : Nat) (l : List St) (hc : checkR l = 0) : ∀ (i : Nat) (w : World), i < l.length → ArgPl w A l → Calls Tryz.prog 35 #[.slice A l.length c, .int .i64 i] w (GrEnd w (growR l i)) := by
  have hz := checkR_zero hc
  have hback := checkR_back hc
  intro i
  induction i using Nat.strongRecOn with
  | _ i ih =>
    intro w hi hP
    have hs : l[i]? = some l[i] := List.getElem?_eq_getElem hi
    rw [growR_eq hback hs]
    obtain ⟨o, ho⟩ := stepE_zero (hz.2.2 i l[i] hs)
    exact rtree_step A c l i l[i] w hs hP (by have := hz.2.1; omega) (show l[i].args.length ≤ 100000 by have := opR_small ho.op; have := ho.len; omega) ho.back (fun j wj hj hPj => ih j hj wj (by omega) hPj) o ho
end Go.Proofs.YtoegklpomlhneaaGreatDoor
namespace Go.Proofs.YtoegklpomlhneaaGreatDoor
open Go.RowKit
/-- What the document's Tree answers. -/
def RTreeEnd (w : World) (l : List St) (e : Ending) (w' : World) : Prop := Below w.heap.size w w' ∧
  if 4096 < (sizesR l).getD (l.length - 1) 0 then e = .returned (.tuple #[.agg #[.int .i64 0, .string ⟨#[]⟩, .int .i64 0, .slice none 0 0], .bool false])
  else ∃ cs, e = .returned (.tuple #[.agg cs.toArray, .bool true]) ∧ NodeV w' (fun i => w.heap.size ≤ i ∧ i < w'.heap.size) (growR l (l.length - 1)) cs
set_option maxRecDepth 100000 in
set_option maxHeartbeats 8000000 in
theorem rTree_ok (A : Option Addr) (c : Nat) (l : List St) (w : World) (h : ArgPl w A l) (hc : checkR l = 0) :
    Calls Tryz.prog 17 #[.slice A l.length c] w (RTreeEnd w l) := by
  have hz := checkR_zero hc
  have hn : l.length ≤ 4096 := hz.2.1
  obtain ⟨N, hN⟩ : ∃ N, l.length = N + 1 := ⟨l.length - 1, by have := hz.1; omega⟩
  have HA := Lib.hid h
  have HC := Lib.hid hc
  obtain ⟨W0, hW0⟩ : ∃ W0, W0 = w.alloc (.cells #[.int .i64 0, .string ⟨#[]⟩, .int .i64 0, .slice none 0 0] 41) := ⟨_, rfl⟩
  have HB0 : Hid (Below w.heap.size w W0) := Lib.hid (by rw [hW0]; exact below_alloc w _)
  have HX0 : Hid (Blk W0 w.heap.size 41 #[.int .i64 0, .string ⟨#[]⟩, .int .i64 0, .slice none 0 0]) := Lib.hid (by rw [hW0]; exact Blk.new _ _ _)
  have hnd := nodes_ok A c l W0 (h.below HB0.out) hc
  have HW0 := Lib.hid hW0
  have HND := Lib.hid hnd
  have HNN := Lib.hid hN
  clear h hc hz hnd hW0 hN
  go_enter Tryz.func17, Tryz.ntmps17
  go_wp2_with fail
  rw [← HW0.out]
  refine HND.out.mono ?_
  rintro e w1 ⟨rfl, hG, hb1⟩
  have HB1 := Lib.hid (HB0.out.trans (hb1.mono HB0.out.size))
  have HX1 := Lib.hid (HX0.out.below hb1 HX0.out.lt)
  have hN := HNN.out
  obtain ⟨Z, hZ⟩ : ∃ Z, Z = (nodR l).getD (l.length - 1) 0 := ⟨_, rfl⟩
  have y0 : w1.cell? ⟨W0.heap.size, N, none⟩ = some (.int .i64 Z) := by
    rw [hG.cell, narr_get (Nat.le_refl _) (by omega), nk_all, hZ, hN]
    rfl
  have HZ : Hid (4096 < Z ↔ 4096 < (sizesR l).getD (l.length - 1) 0) := Lib.hid (by rw [hZ]; exact nod_sizes l _)
  have hwr : IntKind.i64.wrap ((l.length : Int) - 1) = (N : Int) := by rw [hN, show ((N + 1 : Nat) : Int) - 1 = (N : Int) by omega]; exact IntWalk.i64_in _ (by omega)
  have hw2 : (l.length : Int) - 1 = (N : Int) := by omega
  have hg := rtree_any A c l HC.out N w1 (by omega) (HA.out.below HB1.out)
  have HGR := Lib.hid hg
  have HN1 : Hid (N = l.length - 1) := Lib.hid (by omega)
  have p0 : (N : Int) < (l.length : Int) := by omega
  have p1 : (0 : Int) ≤ (N : Int) := by omega
  obtain ⟨r0, r1, r2, r3, f0, f1, f2, f3⟩ := blk4 HX1.out
  have hgo : w.heap.size ≤ w.heap.size := Nat.le_refl _
  have hz1 := HB1.out.size
  clear hN hZ hg hb1 hG HND
  by_cases hbig : 4096 < Z
  · have e1 : decide (4096 < Z) = true := decide_eq_true hbig
    have HBG := Lib.hid hbig
    clear hbig
    go_wp2_with fail
    refine bodyPost_ret (v := .tuple #[.agg #[.int .i64 0, .string ⟨#[]⟩, .int .i64 0, .slice none 0 0], .bool false]) (by simp [results, Tryz.results17, go_sem, r0, r1, r2, r3]) rfl ?_
    refine ⟨four_set HB1.out (Nat.le_refl _), ?_⟩
    rw [if_pos (HZ.out.1 HBG.out)]
  · have e1 : decide (4096 < Z) = false := decide_eq_false hbig
    have HBG := Lib.hid hbig
    clear hbig
    go_wp2_with fail
    refine HGR.out.mono ?_
    rintro e w4 ⟨cs4, rfl, hn4, hb4⟩
    obtain ⟨k1, t1, m1, A1, n1, c1, rfl⟩ := hn4.form
    have HR4 := HX1.out.below hb4 HX1.out.lt
    have HB4 := Lib.hid (HB1.out.trans (hb4.mono hz1))
    have HN4 := Lib.hid hn4
    have hlr := HX1.out.lt
    clear r0 r1 r2 r3 f0 f1 f2 f3 hn4 hb4
    obtain ⟨r0, r1, r2, r3, f0, f1, f2, f3⟩ := blk4 HR4
    clear HR4
    go_wp2_with fail
    refine bodyPost_ret (v := .tuple #[.agg #[.int .i64 k1, .string t1, .int .i64 m1, .slice A1 n1 c1], .bool true]) (by simp [results, Tryz.results17, go_sem, r0, r1, r2, r3]) rfl ?_
    refine ⟨four_set HB4.out (Nat.le_refl _), ?_⟩
    rw [if_neg (fun h => absurd (HZ.out.2 h) (by have := HBG.out; omega))]
    refine ⟨_, rfl, ?_⟩
    rw [← HN1.out]
    exact HN4.out.keep (fun i hi _ => four_old (g := w.heap.size) (by have := hi.1; omega)) (fun i hi _ => ⟨by have := hi.1; omega, by simp; exact hi.2⟩)
end Go.Proofs.YtoegklpomlhneaaGreatDoor
