/- FilesPrefixes, where what is read is of bulk at most 1048576: for every such input the law returns true, and the arguments read as before. -/
import Derived.Test.YthmbmecodddkeaaRows
import Derived.WalkKit
import Derived.ProofKit
import Derived.OpenShut
import Derived.JoinedCond
import Derived.ShutString
import Derived.ChangeOld
import Derived.Below
import Derived.Deep.Matrix
import Derived.Lib.SmallJoins
import Derived.Test.YthmbmecodddkeaaWPre
namespace Go.Proofs.Ythmbmecodddkeaa.filesPrefixes
open Go.ChangeShapes Go.WideShapes Go.ChangeAt Go.RowKit Go.Deep
open Go.ChangeMaps (open_string shut_string)
set_option linter.unusedVariables false
theorem own : ownKnob Try.prog.godebug = none := by kernel_rfl
theorem laidOut : laidOutB Try.prog = true := by kernel_rfl
set_option maxRecDepth 100000 in
theorem lifted (os : Os) (started : os.Started) (H : Type) (enc : TypeId × Value → H) (F : Stop.Interp) :
    ReturnsInHanded {} Try.checked os 5 .any ((Rows.OpenSpec.upto Rows.filesPrefixesSpec).pre6 enc Try.prog Try.f5 Rows.filesPrefixesUptoRow.domain false) (((Rows.OpenSpec.upto Rows.filesPrefixesSpec).at F).post enc Try.prog Try.f5 false true false false) := by
  refine returnsInHanded_of_cond (C := Try.checked) (s := Rows.OpenSpec.upto Rows.filesPrefixesSpec) (k := Rows.uptoSmall) rfl own started (by kernel_rfl) Try.func5
    (OpenSpec.witness (enc := enc) (C := Try.checked) (s := Rows.OpenSpec.upto Rows.filesPrefixesSpec) (k := Rows.uptoSmall) rfl false ⟨#[], #[.slice none 0 0, .agg #[.string ByteArray.empty, .slice none 0 0, .slice none 0 0, .int .i64 0]], []⟩ 8 (by kernel_rfl) (by kernel_rfl) (by kernel_rfl)
      (x := ([.nil, .agg [.lit (.string []), .nil, .nil, .lit (.int .i64 0)]], [], [])) (by kernel_rfl) rfl (by kernel_rfl)) ?_
  intro W base args ds gs before hval0 hW _ hk _
  have hval : ∀ (j : Nat) t v, Try.f5.params[j]? = some t → args[j]? = some v → Value.okWide Try.prog W .any base t v := hval0
  have hW' := hW
  obtain ⟨p, q, hA0, hV, rfl, hfz, hnd⟩ := hW
  have hA : DataW.TrodAll enc Try.prog W 0 (fun _ => true) true Try.f5.params.toList args.toList ds p := hA0
  rw [Try.params5] at hA hval
  obtain ⟨v0, vs0, d0, ds0, p0, q0, hargs, rfl, rfl, h0, z0⟩ := trodAll_cons hA
  obtain ⟨v1, vs1, d1, ds1, p1, q1, rfl, rfl, rfl, h1, z1⟩ := trodAll_cons z0
  obtain ⟨rfl, rfl, rfl⟩ := trodAll_nil z1
  obtain rfl : args = #[v0, v1] := by cases args; simp_all
  obtain ⟨rfl, rfl⟩ := trodVars_none hV
  have k0 := h0
  have lt0 : ∀ x ∈ p0, x.block < W.heap.size := by obtain ⟨m, hm⟩ := k0; exact DataW.trod_lt m _ _ _ hm
  have k1 := h1
  have lt1 : ∀ x ∈ p1, x.block < W.heap.size := by obtain ⟨m, hm⟩ := k1; exact DataW.trod_lt m _ _ _ hm
  have hbk : Rows.uptoBulk d0 + Rows.uptoBulk d1 ≤ 1048576 := by
    have h := of_decide_eq_true hk
    simp only [Rows.uptoBulkAll, List.cons_append, List.nil_append] at h
    omega
  obtain ⟨a0, len0, cap0, rfl⟩ := okWide_slice Try.underlying42 (hval 0 42 v0 rfl rfl)
  obtain ⟨fuel0, hf0⟩ := h0
  obtain ⟨l0, r0⟩ := open_acts hf0 (show Rows.uptoBulk d0 ≤ 1048576 by omega)
  obtain ⟨u0, u1, u2, u3, y0, y1, y2, y3, n, rfl, rfl, _, t0, t1, t2, t3⟩ := Joins.open_agg4 Try.underlying44 (by kernel_rfl) (by kernel_rfl) (hval 1 44 v1 rfl rfl) h1
  obtain ⟨nm, e0, _, hnm⟩ := DataW.trod_string Try.underlying9 t0
  obtain ⟨A1, n1, c1, first, rfl, hc1, hr1, hb1⟩ := open_bytes t1
  obtain ⟨A2, n2, c2, second, rfl, hc2, hr2, hb2⟩ := open_bytes t2
  obtain ⟨k, e3, _, hkw⟩ := DataW.trod_int Try.underlying3 t3
  simp at e0 e3
  subst e0 e3
  simp [Lit.wf, IntKind.min, IntKind.max, IntKind.signed, IntKind.bits] at hkw
  simp only [Rows.uptoBulk, Rows.uptoBulkAll] at hbk
  clear hA0 hval0
  refine (wPre a0 len0 cap0 l0 nm A1 n1 c1 A2 n2 c2 k first second W r0 hr1 hr2 hc1 hc2 ⟨by omega, by omega⟩ (by omega) (by omega) hnm).mono fun e W' ⟨he, bel⟩ => ?_
  subst he
  exact ⟨_, rfl, _, _, _, [], _, [], hW', trodAll_mk1 (shut_bool Try.underlying4 _), (trodAll_cons_mk (Below.trod laidOut (by kernel_rfl) (of_decide_eq_true (by kernel_rfl)) k0 bel lt0) (trodAll_cons_mk (Below.trod laidOut (by kernel_rfl) (of_decide_eq_true (by kernel_rfl)) k1 bel lt1) trodAll_mk0)), rfl, bel.frame _, fun h => by cases h⟩
theorem over : Rows.filesPrefixesUptoRow.holds Try.pinned (Rows.OpenSpec.upto Rows.filesPrefixesSpec) :=
  OpenClaim.holds_of_cond 5 Try.f5 rfl rfl rfl rfl rfl rfl rfl ⟨rfl, rfl, rfl, rfl, rfl⟩ rfl rfl rfl rfl rfl (by kernel_rfl) Try.func5 (by kernel_rfl)
    (of_decide_eq_true (by kernel_rfl)) (by unfold Func.isWrapper; first | (rw [if_pos (by decide +kernel)]; kernel_rfl) | (rw [if_neg (by decide +kernel)]; exact ⟨rfl, rfl⟩))
    (fun os started H enc _ F => lifted os started H enc F)
theorem proved : Rows.FilesPrefixesUptoSaid := over
end Go.Proofs.Ythmbmecodddkeaa.filesPrefixes
