/- The walk of the document's Format of a plan that is right (printed by gen_ppg.py). -/
import Derived.Test.YtoegklpomlhneaaGreatDoorqRr
import Derived.Test.YtoegklpomlhneaaGreatDoorqRs
namespace Go.Proofs.YtoegklpomlhneaaGreatDoor
open Go.RowKit
theorem cat_ex (P : Program) (a b : List UInt8) (h : a.length + b.length ≤ 9223372036854775807) : ∃ c, c = a ++ b ∧ ∀ W : World, (Op.stringOp .add ⟨a.toArray⟩ ⟨b.toArray⟩).run P W = .ok (.string ⟨c.toArray⟩) W := ⟨_, rfl, concat_any P a b h⟩
theorem hex_sl : ∀ (x : Fin 16) (W : World), (Instr.slice 9 (.string ⟨#[48, 49, 50, 51, 52, 53, 54, 55, 56, 57, 97, 98, 99, 100, 101, 102]⟩) (some (.int .u8 (x.val : Int))) (some (.int .u8 ((x.val : Int) + 1))) none).run Tryz.prog W = .ok (.string ⟨[hexC x.val].toArray⟩) W
  | ⟨0, _⟩, W => by kernel_rfl
  | ⟨1, _⟩, W => by kernel_rfl
  | ⟨2, _⟩, W => by kernel_rfl
  | ⟨3, _⟩, W => by kernel_rfl
  | ⟨4, _⟩, W => by kernel_rfl
  | ⟨5, _⟩, W => by kernel_rfl
  | ⟨6, _⟩, W => by kernel_rfl
  | ⟨7, _⟩, W => by kernel_rfl
  | ⟨8, _⟩, W => by kernel_rfl
  | ⟨9, _⟩, W => by kernel_rfl
  | ⟨10, _⟩, W => by kernel_rfl
  | ⟨11, _⟩, W => by kernel_rfl
  | ⟨12, _⟩, W => by kernel_rfl
  | ⟨13, _⟩, W => by kernel_rfl
  | ⟨14, _⟩, W => by kernel_rfl
  | ⟨15, _⟩, W => by kernel_rfl
  | ⟨n + 16, h⟩, _ => absurd h (by omega)
theorem quoteT_ge : ∀ t : List UInt8, t.length ≤ (quoteT t).length
  | [] => by simp [quoteT]
  | b :: t => by
    have h := quoteB_len b
    have ih := quoteT_ge t
    unfold quoteT at *
    rw [List.flatMap_cons, List.length_append, List.length_cons]
    omega
theorem quoteT_le (t : List UInt8) (k : Nat) : (quoteT (t.take k)).length ≤ (quoteT t).length := by
  have h : quoteT t = quoteT (t.take k) ++ quoteT (t.drop k) := by
    unfold quoteT
    rw [← List.flatMap_append, List.take_append_drop]
  rw [h, List.length_append]
  omega
def RfRel (w : World) (l : List St) (f : Nat) (v i : Value) (wr : World) : Prop := ∃ k : Nat, i = .int .i64 k ∧ k ≤ l.length ∧ l.length - k < f ∧ v = .string ⟨(fmtK l k).toArray⟩ ∧ Hid (Below w.heap.size w wr)
def RtRel (w : World) (V t : List UInt8) (f : Nat) (v i : Value) (wr : World) : Prop := ∃ (j : Nat) (S : List UInt8), i = .int .i64 j ∧ j ≤ t.length ∧ t.length - j < f ∧ v = .string ⟨S.toArray⟩ ∧ Hid (S = V ++ quoteT (t.take j)) ∧ Hid (Below w.heap.size w wr)
def RaRel (w : World) (U : List UInt8) (args : List Int) (f : Nat) (v i : Value) (wr : World) : Prop := ∃ (j : Nat) (S : List UInt8), i = .int .i64 j ∧ j ≤ args.length ∧ args.length - j < f ∧ v = .string ⟨S.toArray⟩ ∧ Hid (S = U ++ argsT (args.take j)) ∧ Hid (Below w.heap.size w wr)
set_option maxRecDepth 100000 in
set_option maxHeartbeats 16000000 in
theorem rFormat_ok (A : Option Addr) (c : Nat) (l : List St) (w : World) (h : ArgPl w A l) (hc : checkR l = 0) (hf : FmtOk l) :
    Calls Tryz.prog 12 #[.slice A l.length c] w fun e w' => e = .returned (.string ⟨(fmtL l).toArray⟩) ∧ Below w.heap.size w w' := by
  have hn : l.length ≤ 4096 := (checkR_zero hc).2.1
  have HA := Lib.hid h
  have HC := Lib.hid hc
  have HF := Lib.hid hf
  clear h hc hf
  go_enter Tryz.func12, Tryz.ntmps12
  go_wp2_with fail
  go_loopg [3, 4, 5, 6, 7, 8, 9, 77, 90] (l.length + 1) (fun f v i _ _ _ _ _ _ _ wr => RfRel w l f v i wr)
  case atStart => exact ⟨0, rfl, by omega, by omega, rfl, Lib.hid (Below.refl _ _)⟩
  case round =>
    obtain ⟨k, rfl, hk, hkf, rfl, HB⟩ := hrel
    obtain ⟨f, rfl⟩ : ∃ f, gk = f + 1 := ⟨gk - 1, by omega⟩
    by_cases hlt : k < l.length
    · obtain ⟨s, hs⟩ : ∃ s, l[k]? = some s := ⟨l[k], List.getElem?_eq_getElem hlt⟩
      obtain ⟨b, ob, As, cs, rfl, hbl, x0, x1, x2, x3, x4, har⟩ := HA.out k s hs
      obtain ⟨o, ho⟩ := stepE_zero ((checkR_zero HC.out).2.2 k s hs)
      obtain ⟨r, hr, hrc, hro, hrt, hbn⟩ := first_cost HC.out hs
      clear hrc hbn
      have hin := HF.out.num k s hs
      have hroom := HF.out.room k s hs
      have hN := fmtK_succ hs
      have hal := uses_small HC.out s (List.mem_of_getElem? hs)
      have HBK := Lib.hid ho.back
      have HINA : Hid (∀ a ∈ s.args, 0 ≤ a ∧ a ≤ 100000) := Lib.hid (fun a ha => by have := ho.back a ha; omega)
      obtain ⟨op, args, num, text, ty⟩ := s
      have hnum := ho.num
      dsimp only at x0 x1 x2 x3 x4 hin hal hrt hr hnum har HBK HINA
      obtain ⟨nn, rfl⟩ := natInt hnum
      obtain ⟨T, hT⟩ : ∃ T, T = fmtK l k := ⟨_, rfl⟩
      obtain ⟨mid, hmid⟩ : ∃ mid, mid = midT ⟨op, args, (nn : Int), text, ty⟩ := ⟨_, rfl⟩
      obtain ⟨ti, hti⟩ : ∃ ti, ti = Lib.itoa (k : Int) := ⟨_, rfl⟩
      rw [← hT] at hN hroom ⊢
      unfold fmtS at hN hroom
      dsimp only at hN hroom
      rw [← hmid, ← hti] at hN hroom
      simp only [List.length_append, List.length_cons, List.length_nil] at hroom
      have hnk : ∀ W : World, Calls Tryz.prog 33 #[.int .i64 k] W fun e w' => e = .returned (.string ⟨ti.toArray⟩) ∧ w' = W := fun W => by rw [hti]; exact (rnum_any k (by omega) W).mono (fun _ _ h => ⟨h.1, h.2.symm⟩)
      obtain ⟨a1, ha1, c1⟩ := cat_ex Tryz.prog ti [32] (by simp only [List.length_cons, List.length_nil]; omega)
      obtain ⟨a2, ha2, c2⟩ := cat_ex Tryz.prog a1 op (by rw [ha1]; simp only [List.length_append, List.length_cons, List.length_nil]; omega)
      obtain ⟨a3, ha3, c3⟩ := cat_ex Tryz.prog T a2 (by rw [ha2, ha1]; simp only [List.length_append, List.length_cons, List.length_nil]; omega)
      have HN : Hid (fmtK l (k + 1) = a3 ++ (mid ++ (argsT args ++ [10]))) := Lib.hid (by rw [hN, ha3, ha2, ha1]; simp)
      have HL : Hid (a3.length + mid.length + (argsT args).length + 100 ≤ 140737488355328) := Lib.hid (by rw [ha3, ha2, ha1]; simp only [List.length_append, List.length_cons, List.length_nil]; omega)
      have HNK := Lib.hid hnk
      have HM := Lib.hid hmid
      have HFI := Lib.hid (first_any op wr)
      have HR := Lib.hid hr
      have HRT := Lib.hid hrt
      have HRO := Lib.hid hro
      have HIN := Lib.hid hin
      have HAR := Lib.hid har
      have HX0 := Lib.hid x0
      have HX1 := Lib.hid x1
      have HX2 := Lib.hid x2
      have HX3 := Lib.hid x3
      have x0r := (HB.out.cell (p := ⟨b, ob + k * 5, none⟩) hbl).trans x0
      have q0 : (k : Int) < (l.length : Int) := by omega
      have q1 : (0 : Int) ≤ (k : Int) := by omega
      clear hs ho hr hro hrt hin hroom hN hnum hT hmid hti hnk ha1 ha2 ha3 har x0 x1 x2 x3 x4
      go_wp2_with fail
      refine HFI.out.mono ?_
      rintro e w2 ⟨hb2, he⟩
      rw [HR.out] at he
      subst he
      have hwz := HB.out.size
      have HB2 := Lib.hid (HB.out.trans (hb2.mono hwz))
      clear hb2 HFI x0r HB
      go_wp2_with fail
      obtain ⟨w3, hw3⟩ : ∃ w3, w3 = w2.alloc (.cells #[.string ⟨r.op.toArray⟩, .string ⟨r.args.toArray⟩, .int .i64 r.ty, .int .i64 r.cost, .bool r.regex] 59) := ⟨_, rfl⟩
      rw [← hw3]
      have HB3 : Hid (Below w.heap.size w w3) := Lib.hid (by rw [hw3]; exact HB2.out.alloc HB2.out.size _)
      obtain ⟨v0, v1, v2, v3, v4, _, _, _, _, _⟩ := blk5 (show Blk w3 w2.heap.size 59 #[.string ⟨r.op.toArray⟩, .string ⟨r.args.toArray⟩, .int .i64 r.ty, .int .i64 r.cost, .bool r.regex] by rw [hw3]; exact Blk.new _ _ _)
      have y0 := (HB3.out.cell (p := ⟨b, ob + k * 5, none⟩) hbl).trans HX0.out
      have y2 := (HB3.out.cell (p := ⟨b, ob + k * 5 + 2, none⟩) hbl).trans HX2.out
      clear hw3 HB2
      go_quiet ((go_at_call 33; exact Calls.quiet_of_same (HNK.out _)))
      clear c1 c2 c3
      -- WAYS
      by_cases hnm : op = nNumber
      · have hnm' : op = [110, 117, 109, 98, 101, 114] := hnm
        subst hnm'
        obtain ⟨tn, htn⟩ : ∃ tn, tn = Lib.itoa (nn : Int) := ⟨_, rfl⟩
        have hmt : mid = 32 :: tn := by rw [HM.out, htn]; exact if_pos rfl
        have hl := HL.out
        rw [hmt] at hl
        simp only [List.length_cons] at hl
        have hnn2 : ∀ W : World, Calls Tryz.prog 33 #[.int .i64 nn] W fun e w' => e = .returned (.string ⟨tn.toArray⟩) ∧ W = w' := fun W => by rw [htn]; exact rnum_any nn (by have := HIN.out.2; omega) W
        obtain ⟨b1, hb1, c4⟩ := cat_ex Tryz.prog [32] tn (by simp only [List.length_cons, List.length_nil]; omega)
        obtain ⟨U, hU, c5⟩ := cat_ex Tryz.prog a3 b1 (by rw [hb1]; simp only [List.length_append, List.length_cons, List.length_nil]; omega)
        have HU : Hid (fmtK l (k + 1) = U ++ (argsT args ++ [10])) := Lib.hid (by rw [HN.out, hmt, hU, hb1]; simp)
        have HLU : Hid (U.length + (argsT args).length + 40 ≤ 140737488355328) := Lib.hid (by rw [hU, hb1]; simp only [List.length_append, List.length_cons, List.length_nil]; omega)
        have HNN := Lib.hid hnn2
        clear hnm htn hmt hl hnn2 hb1 hU
        go_wp2_with fail
        refine (HNN.out _).mono ?_
        rintro e _ ⟨rfl, rfl⟩
        go_wp2_with fail
        refine (texts_any r _).mono ?_
        rintro e w5 ⟨rfl, hb5⟩
        rw [HRT.out, show hasText [110, 117, 109, 98, 101, 114] = false by decide +kernel]
        have HB5 := Lib.hid ((below_drewN HB3.out _).trans (hb5.mono HB3.out.size))
        clear hb5 c4 c5 v0 v1 v2 v3 v4 y0 y2 HB3
        go_wp2_with fail
        go_loopg [3, 9] (args.length + 1) (fun f v i wr => RaRel w U args f v i wr)
        case atStart => exact ⟨0, U, rfl, by omega, by omega, rfl, Lib.hid (by simp [argsT]), HB5⟩
        case round =>
          clear HB5
          obtain ⟨j, S, rfl, hj, hjf, rfl, HS, HBi⟩ := hrel
          obtain ⟨f2, rfl⟩ : ∃ f2, gk = f2 + 1 := ⟨gk - 1, by omega⟩
          have y1 := (HBi.out.cell (p := ⟨b, ob + k * 5 + 1, none⟩) hbl).trans HX1.out
          have hle := argsT_le args j
          have hsl : S.length = U.length + (argsT (args.take j)).length := by rw [HS.out, List.length_append]
          by_cases hjl : j < args.length
          · obtain ⟨a, ha⟩ : ∃ a, args[j]? = some a := ⟨args[j], List.getElem?_eq_getElem hjl⟩
            have hia := HINA.out a (List.mem_of_getElem? ha)
            obtain ⟨m, rfl⟩ := natInt hia.1
            obtain ⟨ba, oa, rfl, hba, hca⟩ := (HAR.out.below HBi.out).form (by omega)
            have y5 := hca j (.int .i64 m) (by rw [List.getElem?_map, ha]; rfl)
            have HSN := argsT_snoc ha
            obtain ⟨tm, htm⟩ : ∃ tm, tm = Lib.itoa (m : Int) := ⟨_, rfl⟩
            have hle2 := argsT_le args (j + 1)
            rw [HSN, ← htm] at hle2
            simp only [List.length_append, List.length_cons] at hle2
            have hnm2 : ∀ W : World, Calls Tryz.prog 33 #[.int .i64 m] W fun e w' => e = .returned (.string ⟨tm.toArray⟩) ∧ W = w' := fun W => by rw [htm]; exact rnum_any m (by omega) W
            obtain ⟨g1, hg1, d1⟩ := cat_ex Tryz.prog [32] tm (by have := HLU.out; simp only [List.length_cons, List.length_nil]; omega)
            obtain ⟨g2, hg2, d2⟩ := cat_ex Tryz.prog S g1 (by have := HLU.out; rw [hg1]; simp only [List.length_append, List.length_cons, List.length_nil]; omega)
            have HS2 : Hid (g2 = U ++ argsT (args.take (j + 1))) := Lib.hid (by rw [hg2, hg1, HS.out, HSN, htm]; simp)
            have HNM2 := Lib.hid hnm2
            have p0 : (j : Int) < (args.length : Int) := by omega
            have p1 : (0 : Int) ≤ (j : Int) := by omega
            clear ha hia hca HSN htm hle hle2 hsl hnm2 hg1 hg2
            go_wp2_with fail
            refine (HNM2.out _).mono ?_
            rintro e _ ⟨rfl, rfl⟩
            go_wp2_with fail
            go_roundg f2
            case measure => omega
            case rel => exact ⟨j + 1, g2, by go_num, by omega, by omega, rfl, HS2, HBi⟩
          · have hjs : j = args.length := by omega
            subst hjs
            obtain ⟨g1, hg1, d1⟩ := cat_ex Tryz.prog S [10] (by have := HLU.out; simp only [List.length_cons, List.length_nil]; omega)
            have HE : Hid (g1 = fmtK l (k + 1)) := Lib.hid (by rw [hg1, HS.out, HU.out, List.take_length]; simp)
            have p0 : ¬ ((args.length : Int) < (args.length : Int)) := by omega
            clear hg1 hle hsl
            go_wp2_with fail
            go_roundg f
            case measure => omega
            case rel => exact ⟨k + 1, by go_num, by omega, by omega, by rw [HE.out], HBi⟩
      have hne : (op == [110, 117, 109, 98, 101, 114]) = false := beq_eq_false_iff_ne.2 hnm
      cases htx : hasText op with
      | false =>
        have hmt : mid = [] := by rw [HM.out]; unfold midT; dsimp only; rw [if_neg hnm, if_neg (by rw [htx]; decide)]
        obtain ⟨U, hU⟩ : ∃ U, U = a3 := ⟨_, rfl⟩
        have HU : Hid (fmtK l (k + 1) = U ++ (argsT args ++ [10])) := Lib.hid (by rw [HN.out, hmt, hU]; rfl)
        have HLU : Hid (U.length + (argsT args).length + 40 ≤ 140737488355328) := Lib.hid (by have := HL.out; rw [hU]; omega)
        have HTX := Lib.hid (HRT.out.trans htx)
        rw [← hU]
        clear hnm hmt htx hU
        go_wp2_with fail
        refine (texts_any r _).mono ?_
        rintro e w5 ⟨rfl, hb5⟩
        rw [HTX.out]
        have HB5 := Lib.hid ((below_drewN HB3.out _).trans (hb5.mono HB3.out.size))
        clear hb5 v0 v1 v2 v3 v4 y0 y2 HB3 hne
        go_wp2_with fail
        go_loopg [3, 9] (args.length + 1) (fun f v i wr => RaRel w U args f v i wr)
        case atStart => exact ⟨0, U, rfl, by omega, by omega, rfl, Lib.hid (by simp [argsT]), HB5⟩
        case round =>
          clear HB5
          obtain ⟨j, S, rfl, hj, hjf, rfl, HS, HBi⟩ := hrel
          obtain ⟨f2, rfl⟩ : ∃ f2, gk = f2 + 1 := ⟨gk - 1, by omega⟩
          have y1 := (HBi.out.cell (p := ⟨b, ob + k * 5 + 1, none⟩) hbl).trans HX1.out
          have hle := argsT_le args j
          have hsl : S.length = U.length + (argsT (args.take j)).length := by rw [HS.out, List.length_append]
          by_cases hjl : j < args.length
          · obtain ⟨a, ha⟩ : ∃ a, args[j]? = some a := ⟨args[j], List.getElem?_eq_getElem hjl⟩
            have hia := HINA.out a (List.mem_of_getElem? ha)
            obtain ⟨m, rfl⟩ := natInt hia.1
            obtain ⟨ba, oa, rfl, hba, hca⟩ := (HAR.out.below HBi.out).form (by omega)
            have y5 := hca j (.int .i64 m) (by rw [List.getElem?_map, ha]; rfl)
            have HSN := argsT_snoc ha
            obtain ⟨tm, htm⟩ : ∃ tm, tm = Lib.itoa (m : Int) := ⟨_, rfl⟩
            have hle2 := argsT_le args (j + 1)
            rw [HSN, ← htm] at hle2
            simp only [List.length_append, List.length_cons] at hle2
            have hnm2 : ∀ W : World, Calls Tryz.prog 33 #[.int .i64 m] W fun e w' => e = .returned (.string ⟨tm.toArray⟩) ∧ W = w' := fun W => by rw [htm]; exact rnum_any m (by omega) W
            obtain ⟨g1, hg1, d1⟩ := cat_ex Tryz.prog [32] tm (by have := HLU.out; simp only [List.length_cons, List.length_nil]; omega)
            obtain ⟨g2, hg2, d2⟩ := cat_ex Tryz.prog S g1 (by have := HLU.out; rw [hg1]; simp only [List.length_append, List.length_cons, List.length_nil]; omega)
            have HS2 : Hid (g2 = U ++ argsT (args.take (j + 1))) := Lib.hid (by rw [hg2, hg1, HS.out, HSN, htm]; simp)
            have HNM2 := Lib.hid hnm2
            have p0 : (j : Int) < (args.length : Int) := by omega
            have p1 : (0 : Int) ≤ (j : Int) := by omega
            clear ha hia hca HSN htm hle hle2 hsl hnm2 hg1 hg2
            go_wp2_with fail
            refine (HNM2.out _).mono ?_
            rintro e _ ⟨rfl, rfl⟩
            go_wp2_with fail
            go_roundg f2
            case measure => omega
            case rel => exact ⟨j + 1, g2, by go_num, by omega, by omega, rfl, HS2, HBi⟩
          · have hjs : j = args.length := by omega
            subst hjs
            obtain ⟨g1, hg1, d1⟩ := cat_ex Tryz.prog S [10] (by have := HLU.out; simp only [List.length_cons, List.length_nil]; omega)
            have HE : Hid (g1 = fmtK l (k + 1)) := Lib.hid (by rw [hg1, HS.out, HU.out, List.take_length]; simp)
            have p0 : ¬ ((args.length : Int) < (args.length : Int)) := by omega
            clear hg1 hle hsl
            go_wp2_with fail
            go_roundg f
            case measure => omega
            case rel => exact ⟨k + 1, by go_num, by omega, by omega, by rw [HE.out], HBi⟩
      | true =>
        have hmt : mid = 32 :: 34 :: (quoteT text ++ [34]) := by rw [HM.out]; unfold midT; dsimp only; rw [if_neg hnm, if_pos htx]
        have hl := HL.out
        rw [hmt] at hl
        simp only [List.length_append, List.length_cons, List.length_nil] at hl
        obtain ⟨V, hV, c4⟩ := cat_ex Tryz.prog a3 [32, 34] (by simp only [List.length_cons, List.length_nil]; omega)
        have HTX := Lib.hid (HRT.out.trans htx)
        have HV : Hid (fmtK l (k + 1) = V ++ (quoteT text ++ 34 :: (argsT args ++ [10]))) := Lib.hid (by rw [HN.out, hmt, hV]; simp)
        have HLV : Hid (V.length + (quoteT text).length + (argsT args).length + 50 ≤ 140737488355328) := Lib.hid (by rw [hV]; simp only [List.length_append, List.length_cons, List.length_nil]; omega)
        have htl : text.length ≤ 140737488355328 := by
          have h1 : text.length ≤ (quoteT text).length := quoteT_ge text
          omega
        have HTL := Lib.hid htl
        clear hnm hmt htx hl hV htl
        go_wp2_with fail
        refine (texts_any r _).mono ?_
        rintro e w5 ⟨rfl, hb5⟩
        rw [HTX.out]
        have HB5 := Lib.hid ((below_drewN HB3.out _).trans (hb5.mono HB3.out.size))
        clear hb5 v0 v1 v2 v3 v4 y0 y2 HB3 hne
        go_wp2_with fail
        clear c4
        go_loopg [3, 7, 8, 77, 90] (text.length + 1) (fun f v i _ _ _ wr => RtRel w V text f v i wr)
        case atStart => exact ⟨0, V, rfl, by omega, by omega, rfl, Lib.hid (by simp [quoteT]), HB5⟩
        case round =>
          clear HB5
          obtain ⟨j, S, rfl, hj, hjf, rfl, HS, HBi⟩ := hrel
          obtain ⟨f2, rfl⟩ : ∃ f2, gk = f2 + 1 := ⟨gk - 1, by omega⟩
          have y3 := (HBi.out.cell (p := ⟨b, ob + k * 5 + 3, none⟩) hbl).trans HX3.out
          have hsz := HBi.out.size
          have hsl : S.length = V.length + (quoteT (text.take j)).length := by rw [HS.out, List.length_append]
          by_cases hjl : j < text.length
          · obtain ⟨t, ht⟩ : ∃ t, text[j]? = some t := ⟨text[j], List.getElem?_eq_getElem hjl⟩
            have hix := fun W => idxT Tryz.underlying9 ht W
            have hq := quoteT_snoc ht
            have hle := quoteT_le text (j + 1)
            rw [hq, List.length_append] at hle
            have hqb := quoteB_len t
            have hls : S.length + (quoteB t).length + 20 ≤ 140737488355328 := by have := HLV.out; omega
            have p0 : (j : Int) < (text.length : Int) := by omega
            have p1 : (0 : Int) ≤ (j : Int) := by omega
            have EK : Hid (wrap64 ((j : Int) + 1) = (j : Int) + 1) := Lib.hid (IntWalk.wrap64_in _ (by have := HTL.out; omega))
            obtain ⟨m, hm⟩ : ∃ m : Nat, t.toNat = m := ⟨_, rfl⟩
            have hm255 : m < 256 := hm ▸ t.toNat_lt
            have HMM := Lib.hid hm
            have HQ := Lib.hid hq
            obtain ⟨tb, htb⟩ : ∃ tb : List UInt8, tb = [t] := ⟨_, rfl⟩
            have hcv : ∀ W : World, (convert 76 9 (.slice (some ⟨W.heap.size, 0, none⟩) 1 1)).run Tryz.prog (W.alloc (.cells #[.int .u8 m] 5)) = .ok (.string ⟨tb.toArray⟩) (W.alloc (.cells #[.int .u8 m] 5)) := fun W => by
              rw [htb]
              refine str_row _ _ 1 1 (W.heap.size + 1) [t] ?_
              rw [show Lib.byteCells [t] = [.int .u8 (m : Int)] by simp [Lib.byteCells, hm]]
              exact Reads.of_alloc W #[.int .u8 (m : Int)] 5 (by omega) rfl
            rw [hm] at hix
            clear ht hq hle hqb hsl hm
            by_cases hes : m = 34 ∨ m = 92
            · have hqb : quoteB t = [92, t] := by
                rw [quoteB, if_pos]
                have := HMM.out
                rcases hes with h | h
                · exact .inl (UInt8.toNat_inj.1 (by rw [this, h]; rfl))
                · exact .inr (UInt8.toNat_inj.1 (by rw [this, h]; rfl))
              obtain ⟨g1, hg1, d1⟩ := cat_ex Tryz.prog [92] tb (by rw [htb]; simp)
              obtain ⟨g2, hg2, d2⟩ := cat_ex Tryz.prog S g1 (by rw [hg1, htb]; simp only [List.length_append, List.length_cons, List.length_nil]; omega)
              have HS2 : Hid (g2 = V ++ quoteT (text.take (j + 1))) := Lib.hid (by rw [hg2, hg1, htb, HS.out, HQ.out, hqb]; simp)
              have HBo := Lib.hid (HBi.out.alloc hsz (.cells #[.int .u8 (m : Int)] 5))
              clear hg1 hg2 hqb hls htb
              rcases hes with rfl | rfl
              · rw [show ((34 : Nat) : Int) = 34 from rfl] at hcv
                go_wp2_with fail
                rw [EK.out]
                go_roundg f2
                case measure => omega
                case rel => exact ⟨j + 1, g2, by go_num, by omega, by omega, rfl, HS2, HBo⟩
              · rw [show ((92 : Nat) : Int) = 92 from rfl] at hcv
                go_wp2_with fail
                rw [EK.out]
                go_roundg f2
                case measure => omega
                case rel => exact ⟨j + 1, g2, by go_num, by omega, by omega, rfl, HS2, HBo⟩
            have e34 : ((m : Int) == 34) = false := by simp; omega
            have e92 : ((m : Int) == 92) = false := by simp; omega
            have hbn : ¬ (t = 34 ∨ t = 92) := by
              have := HMM.out
              rintro (rfl | rfl)
              · exact hes (.inl this.symm)
              · exact hes (.inr this.symm)
            by_cases hx : m < 32 ∨ 126 < m
            · have hqb : quoteB t = [92, 120, hexC (m / 16), hexC (m % 16)] := by
                have := HMM.out
                rw [quoteB, if_neg hbn, if_pos, this]
                rcases hx with h | h
                · exact .inl (UInt8.lt_iff_toNat_lt.2 (by rw [this]; exact h))
                · exact .inr (UInt8.lt_iff_toNat_lt.2 (by rw [this]; exact h))
              have sx := hex_sl ⟨m / 16, by omega⟩
              have sy := hex_sl ⟨m % 16, by omega⟩
              dsimp only at sx sy
              obtain ⟨X, hX⟩ : ∃ X, X = hexC (m / 16) := ⟨_, rfl⟩
              obtain ⟨Y, hY⟩ : ∃ Y, Y = hexC (m % 16) := ⟨_, rfl⟩
              rw [← hX] at sx hqb
              rw [← hY] at sy hqb
              obtain ⟨x, hx16⟩ : ∃ x, x = m / 16 := ⟨_, rfl⟩
              obtain ⟨y, hy16⟩ : ∃ y, y = m % 16 := ⟨_, rfl⟩
              have hxl : x < 16 := by omega
              have hyl : y < 16 := by omega
              have eq1 : Int.tdiv (m : Int) 16 = (x : Int) := by rw [Int.tdiv_eq_ediv_of_nonneg (by omega)]; omega
              have eq2 : Int.tmod (m : Int) 16 = (y : Int) := by rw [Int.tmod_eq_emod_of_nonneg (by omega)]; omega
              have eq3 : (m : Int) / 16 = (x : Int) := by omega
              have eq4 : (m : Int) % 16 = (y : Int) := by omega
              have eq5 : IntKind.u8.wrap (Int.tdiv (m : Int) 16) = (x : Int) := by rw [eq1]; exact IntWalk.u8_in _ (by omega)
              have eq6 : IntKind.u8.wrap (Int.tmod (m : Int) 16) = (y : Int) := by rw [eq2]; exact IntWalk.u8_in _ (by omega)
              have eq7 : IntKind.u8.wrap ((x : Int) + 1) = (x : Int) + 1 := IntWalk.u8_in _ (by omega)
              have eq8 : IntKind.u8.wrap ((y : Int) + 1) = (y : Int) + 1 := IntWalk.u8_in _ (by omega)
              have eq9 : IntKind.u8.wrap (x : Int) = (x : Int) := IntWalk.u8_in _ (by omega)
              have eqa : IntKind.u8.wrap (y : Int) = (y : Int) := IntWalk.u8_in _ (by omega)
              rw [← hx16] at sx
              rw [← hy16] at sy
              obtain ⟨g1, hg1, d1⟩ := cat_ex Tryz.prog [92, 120] [X] (by simp)
              obtain ⟨g2, hg2, d2⟩ := cat_ex Tryz.prog g1 [Y] (by rw [hg1]; simp)
              obtain ⟨g3, hg3, d3⟩ := cat_ex Tryz.prog S g2 (by rw [hg2, hg1]; simp only [List.length_append, List.length_cons, List.length_nil]; omega)
              have HS2 : Hid (g3 = V ++ quoteT (text.take (j + 1))) := Lib.hid (by rw [hg3, hg2, hg1, HS.out, HQ.out, hqb]; simp)
              clear hg1 hg2 hg3 hqb hls hX hY hx16 hy16 hcv hbn htb
              rcases hx with hx | hx
              · have e32 : (m : Int) < 32 := by omega
                go_wp2_with fail
                go_quiet (fail)
                go_wp2_with fail
                rw [EK.out]
                go_roundg f2
                case measure => omega
                case rel => exact ⟨j + 1, g3, by go_num, by omega, by omega, rfl, HS2, Lib.hid (below_drewN HBi.out _)⟩
              · have e32 : ¬ ((m : Int) < 32) := by omega
                have e126 : 126 < (m : Int) := by omega
                go_wp2_with fail
                go_quiet (fail)
                go_wp2_with fail
                rw [EK.out]
                go_roundg f2
                case measure => omega
                case rel => exact ⟨j + 1, g3, by go_num, by omega, by omega, rfl, HS2, Lib.hid (below_drewN HBi.out _)⟩
            · have hqb : quoteB t = [t] := by
                have := HMM.out
                rw [quoteB, if_neg hbn, if_neg]
                rintro (h | h)
                · have := UInt8.lt_iff_toNat_lt.1 h; simp at this; omega
                · have := UInt8.lt_iff_toNat_lt.1 h; simp at this; omega
              obtain ⟨g2, hg2, d2⟩ := cat_ex Tryz.prog S tb (by rw [htb]; simp only [List.length_cons, List.length_nil]; omega)
              have HS2 : Hid (g2 = V ++ quoteT (text.take (j + 1))) := Lib.hid (by rw [hg2, htb, HS.out, HQ.out, hqb]; simp)
              have HBo := Lib.hid (HBi.out.alloc hsz (.cells #[.int .u8 (m : Int)] 5))
              have e32 : ¬ ((m : Int) < 32) := by omega
              have e126 : ¬ (126 < (m : Int)) := by omega
              clear hg2 hqb hls hbn htb
              go_wp2_with fail
              rw [EK.out]
              go_roundg f2
              case measure => omega
              case rel => exact ⟨j + 1, g2, by go_num, by omega, by omega, rfl, HS2, HBo⟩
          · have hjs : j = text.length := by omega
            subst hjs
            have hs0 := HS.out
            rw [List.take_length] at hs0 hsl
            obtain ⟨U, hU, d1⟩ := cat_ex Tryz.prog S [34] (by have := HLV.out; simp only [List.length_cons, List.length_nil]; omega)
            have HU : Hid (fmtK l (k + 1) = U ++ (argsT args ++ [10])) := Lib.hid (by rw [HV.out, hU, hs0]; simp)
            have HLU : Hid (U.length + (argsT args).length + 40 ≤ 140737488355328) := Lib.hid (by have := HLV.out; rw [hU]; simp only [List.length_append, List.length_cons, List.length_nil]; omega)
            have p0 : ¬ ((text.length : Int) < (text.length : Int)) := by omega
            clear hU hs0 hsl hsz
            have HB5 := HBi
            go_wp2_with fail
            clear d1 y3 HBi
            go_loopg [3, 9] (args.length + 1) (fun f v i wr => RaRel w U args f v i wr)
            case atStart => exact ⟨0, U, rfl, by omega, by omega, rfl, Lib.hid (by simp [argsT]), HB5⟩
            case round =>
              clear HB5
              obtain ⟨j, S, rfl, hj, hjf, rfl, HS, HBi⟩ := hrel
              obtain ⟨f2, rfl⟩ : ∃ f2, gk = f2 + 1 := ⟨gk - 1, by omega⟩
              have y1 := (HBi.out.cell (p := ⟨b, ob + k * 5 + 1, none⟩) hbl).trans HX1.out
              have hle := argsT_le args j
              have hsl : S.length = U.length + (argsT (args.take j)).length := by rw [HS.out, List.length_append]
              by_cases hjl : j < args.length
              · obtain ⟨a, ha⟩ : ∃ a, args[j]? = some a := ⟨args[j], List.getElem?_eq_getElem hjl⟩
                have hia := HINA.out a (List.mem_of_getElem? ha)
                obtain ⟨m, rfl⟩ := natInt hia.1
                obtain ⟨ba, oa, rfl, hba, hca⟩ := (HAR.out.below HBi.out).form (by omega)
                have y5 := hca j (.int .i64 m) (by rw [List.getElem?_map, ha]; rfl)
                have HSN := argsT_snoc ha
                obtain ⟨tm, htm⟩ : ∃ tm, tm = Lib.itoa (m : Int) := ⟨_, rfl⟩
                have hle2 := argsT_le args (j + 1)
                rw [HSN, ← htm] at hle2
                simp only [List.length_append, List.length_cons] at hle2
                have hnm2 : ∀ W : World, Calls Tryz.prog 33 #[.int .i64 m] W fun e w' => e = .returned (.string ⟨tm.toArray⟩) ∧ W = w' := fun W => by rw [htm]; exact rnum_any m (by omega) W
                obtain ⟨g1, hg1, d1⟩ := cat_ex Tryz.prog [32] tm (by have := HLU.out; simp only [List.length_cons, List.length_nil]; omega)
                obtain ⟨g2, hg2, d2⟩ := cat_ex Tryz.prog S g1 (by have := HLU.out; rw [hg1]; simp only [List.length_append, List.length_cons, List.length_nil]; omega)
                have HS2 : Hid (g2 = U ++ argsT (args.take (j + 1))) := Lib.hid (by rw [hg2, hg1, HS.out, HSN, htm]; simp)
                have HNM2 := Lib.hid hnm2
                have p0 : (j : Int) < (args.length : Int) := by omega
                have p1 : (0 : Int) ≤ (j : Int) := by omega
                clear ha hia hca HSN htm hle hle2 hsl hnm2 hg1 hg2
                go_wp2_with fail
                refine (HNM2.out _).mono ?_
                rintro e _ ⟨rfl, rfl⟩
                go_wp2_with fail
                go_roundg f2
                case measure => omega
                case rel => exact ⟨j + 1, g2, by go_num, by omega, by omega, rfl, HS2, HBi⟩
              · have hjs : j = args.length := by omega
                subst hjs
                obtain ⟨g1, hg1, d1⟩ := cat_ex Tryz.prog S [10] (by have := HLU.out; simp only [List.length_cons, List.length_nil]; omega)
                have HE : Hid (g1 = fmtK l (k + 1)) := Lib.hid (by rw [hg1, HS.out, HU.out, List.take_length]; simp)
                have p0 : ¬ ((args.length : Int) < (args.length : Int)) := by omega
                clear hg1 hle hsl
                go_wp2_with fail
                go_roundg f
                case measure => omega
                case rel => exact ⟨k + 1, by go_num, by omega, by omega, by rw [HE.out], HBi⟩
    · have hkl : k = l.length := by omega
      subst hkl
      have q0 : ¬ ((l.length : Int) < (l.length : Int)) := by omega
      go_wp2_with fail
      go_ret
      exact ⟨rfl, HB.out⟩
end Go.Proofs.YtoegklpomlhneaaGreatDoor
