/- WalKeeps: for every input the law returns true, and the arguments read as before; no condition. -/
import Derived.Test.YtcppmmdkblmfoaaRows
import Derived.WalkKit
import Derived.ProofKit
import Derived.OpenShut
import Derived.ShutString
import Derived.ChangeOld
import Derived.Below
import Derived.Deep.Matrix
import Derived.SizedLaws
import Derived.Lib.SmallJoins
import Derived.Test.YtcppmmdkblmfoaaWKeeps
import Derived.Test.YtcppmmdkblmfoaaSized
import Derived.Test.YtcppmmdkblmfoaaArgs
namespace Go.Proofs.Ytcppmmdkblmfoaa.walKeeps
open Go.ChangeShapes Go.WideShapes Go.ChangeAt Go.RowKit Go.Deep
open Go.ChangeMaps (open_string shut_string)
set_option linter.unusedVariables false
theorem own : ownKnob Try.prog.godebug = none := by kernel_rfl
theorem laidOut : laidOutB Try.prog = true := by kernel_rfl
set_option maxRecDepth 100000 in
theorem lifted (os : Os) (started : os.Started) (H : Type) (enc : TypeId × Value → H) :
    ReturnsInHanded {} Try.checked os 8 .any (Rows.walKeepsSpec.pre6 enc Try.prog Try.f8 Rows.walKeepsRow.domain false) (Rows.walKeepsSpec.post enc Try.prog Try.f8 false true false false) := by
  refine returnsInHanded_of_change_sized (C := Try.checked) own started (by kernel_rfl) Try.func8
    (ChangeSpec.witness6 (enc := enc) (C := Try.checked) false ⟨#[], #[.slice none 0 0, .slice none 0 0, .int .i64 0], []⟩ 8 (by kernel_rfl) (by kernel_rfl) (by kernel_rfl) (by kernel_rfl)) ?_
  intro W base args ds gs before hval0 hW hcnd hsz0 _
  have hsz : (DataW.weightsEach Try.prog (Try.f8.params.toList ++ Rows.walKeepsSpec.plain.varTypes Try.prog) (ds ++ gs)).all (· ≤ reachBytes) = true := hsz0
  have hval : ∀ (j : Nat) t v, Try.f8.params[j]? = some t → args[j]? = some v → Value.okWide Try.prog W .any base t v := hval0
  have hW' := hW
  obtain ⟨p, q, hA0, hV, rfl, hfz, hnd⟩ := hW
  have hA : DataW.TrodAll enc Try.prog W 0 (fun _ => true) true Try.f8.params.toList args.toList ds p := hA0
  rw [Try.params8] at hA hval hsz
  obtain ⟨v0, vs0, d0, ds0, p0, q0, hargs, rfl, rfl, h0, z0⟩ := trodAll_cons hA
  obtain ⟨v1, vs1, d1, ds1, p1, q1, rfl, rfl, rfl, h1, z1⟩ := trodAll_cons z0
  obtain ⟨v2, vs2, d2, ds2, p2, q2, rfl, rfl, rfl, h2, z2⟩ := trodAll_cons z1
  obtain ⟨rfl, rfl, rfl⟩ := trodAll_nil z2
  obtain rfl : args = #[v0, v1, v2] := by cases args; simp_all
  obtain ⟨rfl, rfl⟩ := trodVars_none hV
  have k0 := h0
  have lt0 : ∀ x ∈ p0, x.block < W.heap.size := by obtain ⟨m, hm⟩ := k0; exact DataW.trod_lt m _ _ _ hm
  have k1 := h1
  have lt1 : ∀ x ∈ p1, x.block < W.heap.size := by obtain ⟨m, hm⟩ := k1; exact DataW.trod_lt m _ _ _ hm
  have k2 := h2
  have lt2 : ∀ x ∈ p2, x.block < W.heap.size := by obtain ⟨m, hm⟩ := k2; exact DataW.trod_lt m _ _ _ hm
  obtain ⟨a0, len0, cap0, rfl⟩ := okWide_slice Try.underlying36 (hval 0 36 v0 rfl rfl)
  have s0 : len0 * 24 ≤ 140737488351232 := sized_len hsz (j := 0) rfl rfl Try.underlying36 len0 24 (Joins.sliceLen_Trod Try.underlying36 h0) (by kernel_rfl)
  obtain ⟨l0, r0⟩ : ∃ ls, LL W (.slice a0 len0 cap0) ls := by
    obtain ⟨fuel, hf⟩ := h0
    rcases open_int_rows Try.underlying36 Try.underlying22 Try.underlying5 (by kernel_rfl) (by kernel_rfl) hf with ⟨hcs, _⟩ | ⟨x, l, c, AA, LL0, CC, ZZ, hcs, _, hl, hm, _, hall⟩
    · simp [Value.cells] at hcs; obtain ⟨rfl, rfl, rfl⟩ := hcs; exact ⟨[], none, 0, [], rfl, Nat.le_refl _, Reads.none_, Pays.nil _ _⟩
    · simp [Value.cells] at hcs; obtain ⟨rfl, rfl, rfl⟩ := hcs; obtain ⟨ls, h, _⟩ := ll_of_rows hl hall; exact ⟨ls, h⟩
  obtain ⟨a1, len1, cap1, rfl⟩ := okWide_slice Try.underlying36 (hval 1 36 v1 rfl rfl)
  have s1 : len1 * 24 ≤ 140737488351232 := sized_len hsz (j := 1) rfl rfl Try.underlying36 len1 24 (Joins.sliceLen_Trod Try.underlying36 h1) (by kernel_rfl)
  obtain ⟨l1, r1⟩ : ∃ ls, LL W (.slice a1 len1 cap1) ls := by
    obtain ⟨fuel, hf⟩ := h1
    rcases open_int_rows Try.underlying36 Try.underlying22 Try.underlying5 (by kernel_rfl) (by kernel_rfl) hf with ⟨hcs, _⟩ | ⟨x, l, c, AA, LL0, CC, ZZ, hcs, _, hl, hm, _, hall⟩
    · simp [Value.cells] at hcs; obtain ⟨rfl, rfl, rfl⟩ := hcs; exact ⟨[], none, 0, [], rfl, Nat.le_refl _, Reads.none_, Pays.nil _ _⟩
    · simp [Value.cells] at hcs; obtain ⟨rfl, rfl, rfl⟩ := hcs; obtain ⟨ls, h, _⟩ := ll_of_rows hl hall; exact ⟨ls, h⟩
  obtain ⟨a2, rfl, rfl, rfl, w2⟩ := open_int Try.underlying3 (hval 2 3 v2 rfl rfl) h2
  clear hA0 hval0
  refine (wKeeps a0 a1 len0 cap0 len1 cap1 l0 l1 a2 W r0 r1 (by omega) (by omega) w2).mono fun e W' ⟨he, bel⟩ => ?_
  subst he
  exact ⟨_, rfl, _, _, _, [], _, [], hW', trodAll_mk1 (shut_bool Try.underlying4 _), (trodAll_cons_mk (Below.trod laidOut (by kernel_rfl) (of_decide_eq_true (by kernel_rfl)) k0 bel lt0) (trodAll_cons_mk (Below.trod laidOut (by kernel_rfl) (of_decide_eq_true (by kernel_rfl)) k1 bel lt1) (trodAll_cons_mk (Below.trod laidOut (by kernel_rfl) (of_decide_eq_true (by kernel_rfl)) k2 bel lt2) trodAll_mk0))), rfl, bel.frame _, fun h => by cases h⟩
theorem over : Rows.walKeepsRow.holds Try.pinned (OpenSpec.ofChange Rows.walKeepsSpec) :=
  OpenClaim.holds_of_wide 8 Try.f8 rfl rfl rfl rfl rfl rfl rfl ⟨rfl, rfl, rfl, rfl, rfl⟩ rfl rfl rfl rfl rfl (by kernel_rfl) Try.func8 (by kernel_rfl)
    (of_decide_eq_true (by kernel_rfl)) (by unfold Func.isWrapper; first | (rw [if_pos (by decide +kernel)]; kernel_rfl) | (rw [if_neg (by decide +kernel)]; exact ⟨rfl, rfl⟩))
    (fun os started H enc _ => lifted os started H enc)
theorem proved : Rows.WalKeepsSaid := over
end Go.Proofs.Ytcppmmdkblmfoaa.walKeeps
