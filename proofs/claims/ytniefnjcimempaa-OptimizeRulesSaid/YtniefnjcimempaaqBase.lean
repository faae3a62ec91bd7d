/- The walks of evergreenbase.Num and Is. -/
import Derived.Test.YtniefnjcimempaaqMem
import Derived.Test.YtniefnjcimempaaProg
import Derived.WalkKit
import Derived.WalkSpells
import Derived.Lib.Hide
namespace Go.Proofs.Ytniefnjcimempaa
open Go.RowKit
/-- An error of the program by its number; 0 for none. -/
def errV (c : Int) : Value := if c = 0 then .nilIface else .iface 37 (.int .i64 c)
def AwEnd (w : World) (e : Ending) (w' : World) : Prop := e = .returned (.bool true) ∧ Below w.heap.size w w'
theorem num_nil (w : World) : Calls Try.prog 27 #[.nilIface] w fun e w' => e = .returned (.int .i64 0) ∧ w = w' := by
  go_enter Try.func27, Try.ntmps27
  go_wp2
  go_ret
  exact ⟨rfl, rfl⟩
theorem assert31 (W : World) (v : Value) : (Instr.typeAssert (.iface 37 v) 33 37 true).run Try.prog W = .ok (.tuple #[v, .bool true]) W := by kernel_rfl
theorem num_err (k : Int) (w : World) : Calls Try.prog 27 #[.iface 37 (.int .i64 k)] w fun e w' => e = .returned (.int .i64 k) ∧ w = w' := by
  have ha := assert31
  go_enter Try.func27, Try.ntmps27
  go_wp2
  go_ret
  exact ⟨rfl, rfl⟩
theorem is_nil (x : Int) (w : World) (hx : x ≠ 0) : Calls Try.prog 11 #[.nilIface, .int .i64 x] w fun e w' => e = .returned (.bool false) ∧ w = w' := by
  have h : (0 == x) = false := by simpa using fun h => hx h.symm
  go_enter Try.func11, Try.ntmps11
  go_wp2_with (go_at_call 27; refine (num_nil _).mono ?_; rintro e w' ⟨rfl, rfl⟩)
  go_ret
  exact ⟨rfl, rfl⟩
theorem is_same (x : Int) (w : World) (hx : x ≠ 0) : Calls Try.prog 11 #[.iface 37 (.int .i64 x), .int .i64 x] w fun e w' => e = .returned (.bool true) ∧ w = w' := by
  have h : (x == 0) = false := by simpa using hx
  have h' : (x != 0) = true := by simpa using hx
  go_enter Try.func11, Try.ntmps11
  go_wp2_with (go_at_call 27; refine (num_err _ _).mono ?_; rintro e w' ⟨rfl, rfl⟩)
  go_ret
  exact ⟨rfl, rfl⟩
theorem is_other (k x : Int) (w : World) (hx : k ≠ x) : Calls Try.prog 11 #[.iface 37 (.int .i64 k), .int .i64 x] w fun e w' => e = .returned (.bool false) ∧ w = w' := by
  have h : (k == x) = false := by simpa using hx
  go_enter Try.func11, Try.ntmps11
  go_wp2_with (go_at_call 27; refine (num_err _ _).mono ?_; rintro e w' ⟨rfl, rfl⟩)
  go_ret
  exact ⟨rfl, rfl⟩
theorem num_errV (c : Int) (w : World) : Calls Try.prog 27 #[errV c] w fun e w' => e = .returned (.int .i64 c) ∧ w = w' := by
  unfold errV
  split
  · subst c; exact num_nil w
  · exact num_err c w
theorem is_errV (c x : Int) (w : World) (hx : x ≠ 0) : Calls Try.prog 11 #[errV c, .int .i64 x] w fun e w' => e = .returned (.bool (decide (c = x))) ∧ w = w' := by
  unfold errV
  split
  · rename_i h; subst h
    have : decide ((0 : Int) = x) = false := by simpa using fun h => hx h.symm
    rw [this]; exact is_nil x w hx
  · by_cases h : c = x
    · subst h; simp only [decide_true]; exact is_same c w hx
    · simp only [h, decide_false]; exact is_other c x w h
end Go.Proofs.Ytniefnjcimempaa
