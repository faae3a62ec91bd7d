/- types.node.skip. -/
import Derived.Test.YtniefnjcimempaarRzF
import Derived.Test.YtniefnjcimempaarRg
import Derived.Deep.LoopGhost
namespace Go.Proofs.Ytniefnjcimempaa
open Go.RowKit
theorem TreeOr.form {w w' : World} {r : Option Rx} {cs : List Value} (h : TreeOr w w' r cs) : ∃ (kd : Int) (a0 a1 a2 a3 lo hi : Int) (A : Option Addr) (n c : Nat), cs = [.int .i64 kd, .int .u64 a0, .int .u64 a1, .int .u64 a2, .int .u64 a3, .int .i64 lo, .int .i64 hi, .slice A n c] := by
  cases r with
  | none => exact ⟨_, _, _, _, _, _, _, _, _, _, h⟩
  | some r =>
    obtain ⟨h, _⟩ := h
    cases r
    unfold RxV at h
    obtain ⟨A, c, css, rfl, _⟩ := h
    exact ⟨_, _, _, _, _, _, _, _, _, _, rfl⟩
end Go.Proofs.Ytniefnjcimempaa
