/- The walks of evergreenbase.Num and Is. -/
import Derived.Test.YtpiagfmjekcncaaDoorjMem
import Derived.Test.YtpiagfmjekcncaaDoorProg
import Derived.WalkKit
import Derived.WalkSpells
import Derived.Lib.Hide
set_option linter.unusedVariables false
set_option linter.unusedSimpArgs false
set_option linter.unusedSectionVars false
namespace Go.Proofs.YtpiagfmjekcncaaDoor
open Go.RowKit
/-- An error of the program by its number; 0 for none. -/
def errV (c : Int) : Value := if c = 0 then .nilIface else .iface 41 (.int .i64 c)
def AwEnd (w : World) (e : Ending) (w' : World) : Prop := e = .returned (.bool true) ∧ Below w.heap.size w w'
theorem num_nil (w : World) : Calls Tryd.prog 8 #[.nilIface] w fun e w' => e = .returned (.int .i64 0) ∧ w = w' := by
  go_enter Tryd.func8, Tryd.ntmps8
  go_wp2
  go_ret
  exact ⟨rfl, rfl⟩
theorem assert31 (W : World) (v : Value) : (Instr.typeAssert (.iface 41 v) 29 41 true).run Tryd.prog W = .ok (.tuple #[v, .bool true]) W := by kernel_rfl
theorem num_err (k : Int) (w : World) : Calls Tryd.prog 8 #[.iface 41 (.int .i64 k)] w fun e w' => e = .returned (.int .i64 k) ∧ w = w' := by
  have ha := assert31
  go_enter Tryd.func8, Tryd.ntmps8
  go_wp2
  go_ret
  exact ⟨rfl, rfl⟩
theorem is_nil (x : Int) (w : World) (hx : x ≠ 0) : Calls Tryd.prog 11 #[.nilIface, .int .i64 x] w fun e w' => e = .returned (.bool false) ∧ w = w' := by
  have h : (0 == x) = false := by simpa using fun h => hx h.symm
  go_enter Tryd.func11, Tryd.ntmps11
  go_wp2_with (go_at_call 8; refine (num_nil _).mono ?_; rintro e w' ⟨rfl, rfl⟩)
  go_ret
  exact ⟨rfl, rfl⟩
theorem is_same (x : Int) (w : World) (hx : x ≠ 0) : Calls Tryd.prog 11 #[.iface 41 (.int .i64 x), .int .i64 x] w fun e w' => e = .returned (.bool true) ∧ w = w' := by
  have h : (x == 0) = false := by simpa using hx
  have h' : (x != 0) = true := by simpa using hx
  go_enter Tryd.func11, Tryd.ntmps11
  go_wp2_with (go_at_call 8; refine (num_err _ _).mono ?_; rintro e w' ⟨rfl, rfl⟩)
  go_ret
  exact ⟨rfl, rfl⟩
theorem is_other (k x : Int) (w : World) (hx : k ≠ x) : Calls Tryd.prog 11 #[.iface 41 (.int .i64 k), .int .i64 x] w fun e w' => e = .returned (.bool false) ∧ w = w' := by
  have h : (k == x) = false := by simpa using hx
  go_enter Tryd.func11, Tryd.ntmps11
  go_wp2_with (go_at_call 8; refine (num_err _ _).mono ?_; rintro e w' ⟨rfl, rfl⟩)
  go_ret
  exact ⟨rfl, rfl⟩
theorem num_errV (c : Int) (w : World) : Calls Tryd.prog 8 #[errV c] w fun e w' => e = .returned (.int .i64 c) ∧ w = w' := by
  unfold errV
  split
  · subst c; exact num_nil w
  · exact num_err c w
theorem is_errV (c x : Int) (w : World) (hx : x ≠ 0) : Calls Tryd.prog 11 #[errV c, .int .i64 x] w fun e w' => e = .returned (.bool (decide (c = x))) ∧ w = w' := by
  unfold errV
  split
  · rename_i h; subst h
    have : decide ((0 : Int) = x) = false := by simpa using fun h => hx h.symm
    rw [this]; exact is_nil x w hx
  · by_cases h : c = x
    · subst h; simp only [decide_true]; exact is_same c w hx
    · simp only [h, decide_false]; exact is_other c x w h
end Go.Proofs.YtpiagfmjekcncaaDoor
