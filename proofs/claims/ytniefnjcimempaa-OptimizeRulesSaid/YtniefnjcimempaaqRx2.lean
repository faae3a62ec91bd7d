/- tree.Finite, for a tree in memory. -/
import Derived.Test.YtniefnjcimempaaqTyN
namespace Go.Proofs.Ytniefnjcimempaa
open Go.RowKit
theorem true_fin (a : Addr) (w : World) : Calls Try.prog 49 #[.pointer (some a)] w fun e w' => e = .returned (.bool true) ∧ w = w' := by
  go_enter Try.func49, Try.ntmps49
  go_wp2_with fail
  go_ret
  exact ⟨rfl, rfl⟩
/-- What tree.Finite answers, for a tree in memory. -/
theorem Finite_any (r : Lx) (w : World) (hr : LxAt w (fun i => i < w.heap.size) r) (hsz : r.size ≤ 1000000) :
    Calls Try.prog 32 #[.pointer (some r.ad)] w fun e w' => e = .returned (.bool true) ∧ Below w.heap.size w w' := by
  have hc := all_any 49 (fun _ => true) r w (fun _ _ => by kernel_rfl) hr hsz (fun x w1 _ _ => true_fin _ _)
  go_enter Try.func32, Try.ntmps32
  go_wp2_with fail
  refine hc.mono ?_
  rintro e w1 ⟨he, hbel⟩
  rw [allT] at he
  subst he
  go_wp2_with fail
  go_ret
  exact ⟨rfl, hbel⟩
end Go.Proofs.Ytniefnjcimempaa
