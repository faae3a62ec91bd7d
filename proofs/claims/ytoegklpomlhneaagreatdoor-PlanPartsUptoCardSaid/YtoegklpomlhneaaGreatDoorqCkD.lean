/- The walks of digits and regular. -/
import Derived.Test.YtoegklpomlhneaaGreatDoorqCkW
import Derived.Test.YtoegklpomlhneaaGreatDoorqStp
import Derived.Test.YtoegklpomlhneaaGreatDoorqCheck
import Derived.BigQuiet
import Derived.Laws.Concat
namespace Go.Proofs.YtoegklpomlhneaaGreatDoor
open Go.RowKit
theorem ba_append (a b : List UInt8) : (⟨a.toArray⟩ : ByteArray) ++ ⟨b.toArray⟩ = ⟨(a ++ b).toArray⟩ := by
  apply ByteArray.ext
  simp
def RgRel (w : World) (l : List St) (f : Nat) (v i : Value) (wr : World) : Prop := ∃ k : Nat, i = .int .i64 k ∧ k ≤ l.length ∧ l.length - k < f ∧ Hid (wr.ownsRow w.heap.size 3 1 v k ((l.take k).map fun s => Value.int .i64 (patE s.text))) ∧ Hid (Below w.heap.size w wr)
set_option maxRecDepth 100000 in
set_option maxHeartbeats 4000000 in
theorem regular_any (A : Option Addr) (c : Nat) (l : List St) (w : World) (h : ArgPl w A l) (hn : l.length ≤ 100000) (ht : ∀ s ∈ l, s.text.length ≤ 9223372036854775807) :
    Calls Tryz.prog 6 #[.slice A l.length c] w fun e w' => Below w.heap.size w w' ∧ ∃ A' c', e = .returned (.slice A' l.length c') ∧ w'.ownsRow w.heap.size 3 1 (.slice A' l.length c') l.length (l.map fun s => Value.int .i64 (patE s.text)) := by
  have HA := Lib.hid h
  have HT := Lib.hid ht
  clear h ht
  go_enter Tryz.func6, Tryz.ntmps6
  go_wp2_with fail
  go_loopg [3, 4, 5, 6] (l.length + 1) (fun f v i _ _ wr => RgRel w l f v i wr)
  case atStart => exact ⟨0, rfl, by omega, by omega, Lib.hid ⟨rfl, .inl ⟨rfl, rfl⟩⟩, Lib.hid (Below.refl _ _)⟩
  case round =>
    obtain ⟨k, rfl, hk, hkf, HV, HB⟩ := hrel
    obtain ⟨f, rfl⟩ : ∃ f, gk = f + 1 := ⟨gk - 1, by omega⟩
    have hzr := HB.out.size
    obtain ⟨Av, cv, rfl⟩ := own_form HV.out
    by_cases hlt : k < l.length
    · obtain ⟨s, hs⟩ : ∃ s, l[k]? = some s := ⟨l[k], List.getElem?_eq_getElem hlt⟩
      obtain ⟨b, o, As, cs, rfl, hbl, x0, x1, x2, x3, x4, hrd⟩ := (HA.out.below HB.out) k s hs
      have q0 : (k : Int) < (l.length : Int) := by omega
      have q1 : (0 : Int) ≤ (k : Int) := by omega
      have htx := HT.out s (List.mem_of_getElem? hs)
      have HS := Lib.hid hs
      obtain ⟨op, args, num, text, ty⟩ := s
      dsimp only at x0 x1 x2 x3 x4 htx
      clear hs hrd x0 x1 x2 x4
      go_wp2_with fail
      refine (parse_any text _ htx).mono ?_
      rintro e w3 ⟨⟨cp, rfl, htr⟩, hb3⟩
      obtain ⟨kd, a0, a1, a2, a3, lo, hi, A', n', c', rfl⟩ := treeOr_form htr
      have hz3 := hb3.size
      obtain ⟨w4, hw4⟩ : ∃ w4, w4 = w3.alloc (.cells #[.int .i64 kd, .int .u64 a0, .int .u64 a1, .int .u64 a2, .int .u64 a3, .int .i64 lo, .int .i64 hi, .slice A' n' c'] 70) := ⟨_, rfl⟩
      have hb4 : Below wr.heap.size wr w4 := by rw [hw4]; exact hb3.alloc hz3 _
      have hs4 : w4.heap.size = w3.heap.size + 1 := by rw [hw4]; simp
      have ho4 := own_below HV.out (hb4.alloc hb4.size (.cells #[.int .i64 (patE text)] 3))
      have hrr : Reads (w4.alloc (.cells #[.int .i64 (patE text)] 3)) (w4.heap.size + 1) 1 (some ⟨w4.heap.size, 0, none⟩) 1 [.int .i64 (patE text)] := Reads.of_alloc w4 #[.int .i64 (patE text)] 3 (by omega) rfl
      have hone : ∀ u ∈ ([.int .i64 (patE text)] : List Value), u.oneCell' = true := by simp [Value.oneCell']
      have hz4 : w.heap.size ≤ w3.heap.size := by omega
      have HB4 := Lib.hid hb4
      have HW4 := Lib.hid hw4
      obtain ⟨i0, hinf, hz0, hz1', hz2'⟩ := info_parts infoIntS
      rw [hs4] at hrr
      rw [hw4] at ho4 hrr
      rw [patE_eq]
      clear hb3 htr hb4 hw4 hs4
      go_wp2_with (first
        | (go_at_call 26; refine (num_errV _ _).mono ?_; rintro e w4 ⟨rfl, rfl⟩)
        | (at_builtin; refine wpList_append_any _ rfl (.tmp 22) (.tmp 25) 25 rfl w.heap.size 3 i0 (.int .i64 0) 1 8 Tryz.underlying25 hinf hz0 hz1' hz2' rfl (by decide) _ k _ rfl ho4 _ _ _ _ [.int .i64 (patE text)] rfl hrr hone (by unfold maxLen; omega) (by omega) (by simp; omega) ?_))
      intro v5 w5 hown5 hg5 hv5
      rw [← HW4.out] at hg5
      have hg2 : wr.grownBy w5 (Value.slice Av k cv).ownBlock := (only_of_below (HB4.out.alloc HB4.out.size _) _).trans hg5
      have HV5 : Hid (w5.ownsRow w.heap.size 3 1 v5 (k + 1) ((l.take (k + 1)).map fun s => Value.int .i64 (patE s.text))) := Lib.hid (by
        rw [List.take_add_one, HS.out, List.map_append, List.map_take]
        exact hown5)
      have HB5 := Lib.hid (HB.out.grown hg2 hzr (fun j e => (own_lo HV.out e).1))
      clear hown5 hg5 hv5 hg2 ho4 hrr hone hinf hz0 hz1' hz2' x3
      go_wp2_with fail
      go_roundg f
      case measure => omega
      case rel => exact ⟨k + 1, by go_num, by omega, by omega, HV5, HB5⟩
    · have hkl : k = l.length := by omega
      subst hkl
      have q0 : ¬ ((l.length : Int) < (l.length : Int)) := by omega
      have hv := HV.out
      rw [List.take_length] at hv
      have HV2 := Lib.hid hv
      clear hv
      go_wp2_with fail
      go_ret
      exact ⟨HB.out, _, _, rfl, HV2.out⟩
def DgRel (w : World) (l : List St) (s : St) (D : List UInt8) (n : Nat) (As : Option Addr) (cs : Nat) (f : Nat) (v i : Value) (wr : World) : Prop := ∃ k : Nat, i = .int .i64 k ∧ k ≤ n ∧ n - k < f ∧ v = .string ⟨(D.take k).toArray⟩ ∧ Hid (Below w.heap.size w wr) ∧
  wr.cell? ⟨w.heap.size, 1, none⟩ = some (.slice As n cs)
set_option maxRecDepth 100000 in
set_option maxHeartbeats 4000000 in
theorem digits_any (A : Option Addr) (c : Nat) (l : List St) (s : St) (As : Option Addr) (cs : Nat) (w : World) (h : ArgPl w A l) (hr : Reads w w.heap.size 1 As s.args.length (s.args.map (Value.int .i64))) (hl : l.length ≤ 100000) (ha : s.args.length ≤ 100)
    (hb : ∀ a ∈ s.args, 0 ≤ a ∧ a < (l.length : Int)) (ht : ∀ a ∈ s.args, 1 ≤ tyAt l a ∧ tyAt l a ≤ 4) :
    Calls Tryz.prog 24 #[.slice A l.length c, .agg #[.string ⟨s.op.toArray⟩, .slice As s.args.length cs, .int .i64 s.num, .string ⟨s.text.toArray⟩, .int .i64 s.ty]] w fun e w' => e = .returned (.string ⟨(digR l s).toArray⟩) ∧ Below w.heap.size w w' := by
  have HA := Lib.hid h
  have HRD := Lib.hid hr
  have HBK := Lib.hid hb
  have HT := Lib.hid ht
  have HB0 := Lib.hid (below_alloc w (.cells #[.string ⟨s.op.toArray⟩, .slice As s.args.length cs, .int .i64 s.num, .string ⟨s.text.toArray⟩, .int .i64 s.ty] 57))
  have hx0 := (Blk.new w 57 #[.string ⟨s.op.toArray⟩, .slice As s.args.length cs, .int .i64 s.num, .string ⟨s.text.toArray⟩, .int .i64 s.ty]).cell 1
  simp only [List.getElem?_toArray, List.getElem?_cons_zero, List.getElem?_cons_succ] at hx0
  have hdl : (digR l s).length = s.args.length := by unfold digR; rw [List.length_map]
  obtain ⟨D, hD⟩ : ∃ D, D = digR l s := ⟨_, rfl⟩
  rw [← hD] at hdl ⊢
  have HD := Lib.hid hD
  clear h hr hb ht hD
  obtain ⟨n, hn⟩ : ∃ n, n = s.args.length := ⟨_, rfl⟩
  have HN := Lib.hid hn
  rw [← hn] at hdl ha hx0 HB0 HRD ⊢
  clear hn
  go_enter Tryz.func24, Tryz.ntmps24
  go_wp2_with fail
  go_loopg [5, 6] (n + 1) (fun f v i wr => DgRel w l s D n As cs f v i wr)
  case atStart => exact ⟨0, rfl, by omega, by omega, rfl, HB0, hx0⟩
  case round =>
    clear hx0 HB0
    obtain ⟨k, rfl, hk, hkf, rfl, HB, x1⟩ := hrel
    obtain ⟨f, rfl⟩ : ∃ f, gk = f + 1 := ⟨gk - 1, by omega⟩
    by_cases hlt : k < n
    · obtain ⟨a, ha'⟩ : ∃ a, s.args[k]? = some a := ⟨s.args[k]'(by have := HN.out; omega), List.getElem?_eq_getElem _⟩
      have hmem := List.mem_of_getElem? ha'
      obtain ⟨hb1, hb2⟩ := HBK.out a hmem
      obtain ⟨ht1, ht2⟩ := HT.out a hmem
      obtain ⟨m, rfl⟩ := natInt hb1
      obtain ⟨t, hst⟩ : ∃ t, l[m]? = some t := ⟨l[m]'(by omega), List.getElem?_eq_getElem _⟩
      obtain ⟨bb, ob, _, _, rfl, hbl, _, _, _, _, y4, _⟩ := (HA.out.below HB.out) m t hst
      have hty : tyAt l ((m : Nat) : Int) = t.ty := by unfold tyAt; rw [Int.toNat_natCast, hst]
      rw [hty] at ht1 ht2
      obtain ⟨ba, oa, rfl, hba, hca⟩ := (HRD.out.below HB.out).form (by omega)
      have z1 := hca k (.int .i64 m) (by rw [List.getElem?_map, ha']; rfl)
      have q0 : (k : Int) < (n : Int) := by omega
      have q1 : (0 : Int) ≤ (k : Int) := by omega
      have q2 : (m : Int) < (l.length : Int) := by omega
      have q3 : (0 : Int) ≤ (m : Int) := by omega
      have hstep : D.take (k + 1) = D.take k ++ [dig t.ty] := by
        rw [List.take_add_one]
        congr 1
        rw [HD.out]
        unfold digR
        rw [List.getElem?_map, ha', Option.map_some, hty]
        rfl
      have HST := Lib.hid hstep
      obtain ⟨ty, hty'⟩ : ∃ ty, ty = t.ty := ⟨_, rfl⟩
      rw [← hty'] at ht1 ht2 y4 HST
      obtain ⟨S, hS⟩ : ∃ S, S = D.take k := ⟨_, rfl⟩
      rw [← hS]
      have HS := Lib.hid hS
      clear ha' hmem hst hty hca hstep hty' hS
      have htc : ty = 1 ∨ ty = 2 ∨ ty = 3 ∨ ty = 4 := by omega
      have hsl1 : ∀ W : World, (Instr.slice 9 (.string ⟨#[48, 49, 50, 51, 52]⟩) (some (.int .i64 1)) (some (.int .i64 2)) none).run Tryz.prog W = .ok (.string ⟨#[49]⟩) W := fun W => by kernel_rfl
      have hwr1 : IntKind.i64.wrap 2 = 2 := by kernel_rfl
      have hsl2 : ∀ W : World, (Instr.slice 9 (.string ⟨#[48, 49, 50, 51, 52]⟩) (some (.int .i64 2)) (some (.int .i64 3)) none).run Tryz.prog W = .ok (.string ⟨#[50]⟩) W := fun W => by kernel_rfl
      have hwr2 : IntKind.i64.wrap 3 = 3 := by kernel_rfl
      have hsl3 : ∀ W : World, (Instr.slice 9 (.string ⟨#[48, 49, 50, 51, 52]⟩) (some (.int .i64 3)) (some (.int .i64 4)) none).run Tryz.prog W = .ok (.string ⟨#[51]⟩) W := fun W => by kernel_rfl
      have hwr3 : IntKind.i64.wrap 4 = 4 := by kernel_rfl
      have hsl4 : ∀ W : World, (Instr.slice 9 (.string ⟨#[48, 49, 50, 51, 52]⟩) (some (.int .i64 4)) (some (.int .i64 5)) none).run Tryz.prog W = .ok (.string ⟨#[52]⟩) W := fun W => by kernel_rfl
      have hwr4 : IntKind.i64.wrap 5 = 5 := by kernel_rfl
      have hSl : S.length ≤ 100 := by rw [HS.out, List.length_take]; omega
      have hct1 : ∀ W : World, (Op.stringOp .add ⟨S.toArray⟩ ⟨#[49]⟩).run Tryz.prog W = .ok (.string ⟨(S ++ [49]).toArray⟩) W := fun W => by
        rw [run_string_add_sum W _ _ (by show S.toArray.size + 1 ≤ _; simp; omega)]
        exact congrArg (fun x => Result.ok (Value.string x) W) (ba_append S [49])
      have hct2 : ∀ W : World, (Op.stringOp .add ⟨S.toArray⟩ ⟨#[50]⟩).run Tryz.prog W = .ok (.string ⟨(S ++ [50]).toArray⟩) W := fun W => by
        rw [run_string_add_sum W _ _ (by show S.toArray.size + 1 ≤ _; simp; omega)]
        exact congrArg (fun x => Result.ok (Value.string x) W) (ba_append S [50])
      have hct3 : ∀ W : World, (Op.stringOp .add ⟨S.toArray⟩ ⟨#[51]⟩).run Tryz.prog W = .ok (.string ⟨(S ++ [51]).toArray⟩) W := fun W => by
        rw [run_string_add_sum W _ _ (by show S.toArray.size + 1 ≤ _; simp; omega)]
        exact congrArg (fun x => Result.ok (Value.string x) W) (ba_append S [51])
      have hct4 : ∀ W : World, (Op.stringOp .add ⟨S.toArray⟩ ⟨#[52]⟩).run Tryz.prog W = .ok (.string ⟨(S ++ [52]).toArray⟩) W := fun W => by
        rw [run_string_add_sum W _ _ (by show S.toArray.size + 1 ≤ _; simp; omega)]
        exact congrArg (fun x => Result.ok (Value.string x) W) (ba_append S [52])
      rcases htc with rfl | rfl | rfl | rfl
      all_goals
        go_wp2_with fail
        go_quiet (fail)
        go_wp2_with fail
        go_roundg f
        case measure => omega
        case rel => exact ⟨k + 1, by go_num, by omega, by omega, by rw [HST.out, ← HS.out]; rfl, Lib.hid (below_drewN HB.out _), x1⟩
    · have hkn : k = n := by omega
      subst hkn
      have q0 : ¬ ((k : Int) < (k : Int)) := by omega
      have hD : D.take k = D := List.take_of_length_le (by omega)
      rw [hD]
      go_wp2_with fail
      go_ret
      exact ⟨rfl, HB.out⟩
end Go.Proofs.YtoegklpomlhneaaGreatDoor
