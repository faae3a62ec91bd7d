/- The walk of the deferred closure of regex.Parse. -/
import Derived.Test.YtfdpohceoabinaaMeas
import Derived.Defers
import Derived.Recover
import Derived.Laws.Pointers
namespace Go.Proofs.Ytfdpohceoabinaa
open Go.RowKit
theorem catch_idle (p q : Addr) (w : World) : CallsD Try.prog 21 #[.pointer (some p), .pointer (some q)] .returning w fun e u' w' => e = .returned (.tuple #[]) ∧ u' = .returning ∧ w' = w := by
  refine callsD_of_wpS Try.func21 rfl fun c₀ cs hu => ?_
  apply wpS_seq
  apply wpS_region
  simp [wpOpsS, go_sem, recoverD, hu, Try.ntmps21, Exit.thenS]
  refine wpS_cond (t := false) (by simp [Act.eval, Array.replicate]) ?_
  simp only [Bool.false_eq_true, if_false]
  refine wpS_of_wp (wp_skip ?_)
  cases c₀
  simp_all [bodyPostS, results, Try.results21]
set_option maxHeartbeats 2000000 in
theorem catch_panicking (g h : Nat) (v0 v1 v2 v3 v4 v5 v6 v7 : Value) (er : Value) (u : TypeId) (pv : Value) (older : List PanicEntry) (w : World) (hR : R8 w g v0 v1 v2 v3 v4 v5 v6 v7) (hE : Blk w h 24 #[er]) :
    CallsD Try.prog 21 #[.pointer (some ⟨g, 0, none⟩), .pointer (some ⟨h, 0, none⟩)] (.panicking ({ v := .iface u pv, recovered := false } :: older)) w fun e u' w' =>
      e = .returned (.tuple #[]) ∧ u' = .panicking ({ v := .iface u pv, recovered := true } :: older) ∧ w' = (set8 w g (.int .i64 0) (.int .u64 0) (.int .u64 0) (.int .u64 0) (.int .u64 0) (.int .i64 0) (.int .i64 0) (.slice none 0 0)).setCell ⟨h, 0, none⟩ formE := by
  have hgh2 : ¬ h = g := fun e => Blk.ne_ hR hE (by decide) e.symm
  obtain ⟨⟨⟨c0, c1⟩, c2, c3⟩, ⟨c4, c5⟩, c6, c7⟩ := hR.cells
  obtain ⟨⟨⟨f0, f1⟩, f2, f3⟩, ⟨f4, f5⟩, f6, f7⟩ := hR.free
  have e0 := hE.cell 0
  have e1 := hE.frozen 0
  simp only [List.getElem?_toArray, List.getElem?_cons_zero] at e0
  clear hR hE
  unfold formE set8
  refine callsD_of_wpS Try.func21 rfl fun c₀ cs hu => ?_
  apply wpS_seq
  apply wpS_region
  simp [wpOpsS, go_sem, recoverD, hu, Try.ntmps21, Exit.thenS]
  refine wpS_cond (t := true) (by simp [Act.eval, Array.replicate]) ?_
  simp only [if_true]
  apply wpS_region
  simp [wpOpsS, go_sem, c0, c1, c2, c3, c4, c5, c6, c7, f0, f1, f2, f3, f4, f5, f6, f7, e0, e1, bodyPostS, results, Try.results21]
end Go.Proofs.Ytfdpohceoabinaa
