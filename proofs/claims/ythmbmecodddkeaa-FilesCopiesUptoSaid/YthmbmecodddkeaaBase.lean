/- The walks of evergreenbase.Num, Is, Bytes. -/
import Derived.Test.YthmbmecodddkeaaBegin
namespace Go.Proofs.Ythmbmecodddkeaa
open Go.RowKit Go.WideMaps
theorem num_nil (w : World) : Calls Try.prog 32 #[.nilIface] w fun e w' => e = .returned (.int .i64 0) ∧ w = w' := by
  go_enter Try.func32, Try.ntmps32
  go_wp2
  go_ret
  exact ⟨rfl, rfl⟩
theorem assertE (W : World) (v : Value) : (Instr.typeAssert (.iface 30 v) 26 30 true).run Try.prog W = .ok (.tuple #[v, .bool true]) W := by kernel_rfl
theorem num_err (k : Int) (w : World) : Calls Try.prog 32 #[.iface 30 (.int .i64 k)] w fun e w' => e = .returned (.int .i64 k) ∧ w = w' := by
  have ha := assertE
  go_enter Try.func32, Try.ntmps32
  go_wp2
  go_ret
  exact ⟨rfl, rfl⟩
theorem is_nil (x : Int) (w : World) (hx : x ≠ 0) : Calls Try.prog 11 #[.nilIface, .int .i64 x] w fun e w' => e = .returned (.bool false) ∧ w = w' := by
  have h : (0 == x) = false := by simpa using fun h => hx h.symm
  go_enter Try.func11, Try.ntmps11
  go_wp2_with (go_at_call 32; refine (num_nil _).mono ?_; rintro e w' ⟨rfl, rfl⟩)
  go_ret
  exact ⟨rfl, rfl⟩
theorem is_same (x : Int) (w : World) (hx : x ≠ 0) : Calls Try.prog 11 #[.iface 30 (.int .i64 x), .int .i64 x] w fun e w' => e = .returned (.bool true) ∧ w = w' := by
  have h : (x == 0) = false := by simpa using hx
  have h' : (x != 0) = true := by simpa using hx
  go_enter Try.func11, Try.ntmps11
  go_wp2_with (go_at_call 32; refine (num_err _ _).mono ?_; rintro e w' ⟨rfl, rfl⟩)
  go_ret
  exact ⟨rfl, rfl⟩
theorem is_other (k x : Int) (w : World) (hx : k ≠ x) : Calls Try.prog 11 #[.iface 30 (.int .i64 k), .int .i64 x] w fun e w' => e = .returned (.bool false) ∧ w = w' := by
  have h : (k == x) = false := by simpa using hx
  go_enter Try.func11, Try.ntmps11
  go_wp2_with (go_at_call 32; refine (num_err _ _).mono ?_; rintro e w' ⟨rfl, rfl⟩)
  go_ret
  exact ⟨rfl, rfl⟩
theorem of_nums (l : List UInt8) : ((l.map fun b => (b.toNat : Int)).map fun n : Int => UInt8.ofNat n.toNat) = l := by
  induction l with
  | nil => rfl
  | cons x l ih => simp only [List.map_cons, ih, Int.toNat_natCast, UInt8.ofNat_toNat]
theorem str_of (w : World) (A : Option Addr) (n c B : Nat) (l : List UInt8) (hr : Reads w B 1 A n (l.map byteV)) :
    (convert 28 9 (.slice A n c)).run Try.prog w = .ok (.string ⟨l.toArray⟩) w := by
  rcases Nat.eq_zero_or_pos n with h0 | h0
  · subst h0
    have hl : l = [] := List.eq_nil_of_length_eq_zero (by have := hr.1; simpa using this)
    subst hl
    rcases A with _ | ad
    · exact run_convert_bytes_nil w 28 5 Try.underlying28 Try.underlying5 0 c 9 Try.underlying9
    · rw [run_convert_bytes_string w 28 9 5 _ _ _ Try.underlying28 Try.underlying5 Try.underlying9]
      have := run_bytesToString (P := Try.prog) w ad 0 c [] (run_loadCells_list (P := Try.prog) w ad [] (fun j v hj => by simp at hj))
      exact this
  · obtain ⟨b, o, rfl, _, hc⟩ := hr.form h0
    have hl : l.length = n := by have := hr.1; simpa using this
    have := run_convert_bytes_arg (P := Try.prog) w 28 5 Try.underlying28 Try.underlying5 b o n c (l.map fun b => (b.toNat : Int)) (by simpa using hl) (fun i hi => by
      have h2 : (l.map byteV)[i]? = some (byteV (l[i]'(by omega))) := by simp [hl, hi]
      rw [hc i _ h2]
      simp [byteV, hl, hi, List.getD]) 9 Try.underlying9
    rw [this]
    unfold strOfNums
    rw [of_nums]
/-- The two byte slices have the same elements, or not. -/
theorem bytes_eq (A1 A2 : Option Addr) (n1 n2 c1 c2 B1 B2 : Nat) (l1 l2 : List UInt8) (w : World) (hr1 : Reads w B1 1 A1 n1 (l1.map byteV)) (hr2 : Reads w B2 1 A2 n2 (l2.map byteV)) :
    Calls Try.prog 23 #[.slice A1 n1 c1, .slice A2 n2 c2] w fun e w' => e = .returned (.bool (l1 == l2)) ∧ w = w' := by
  have e1 := str_of w A1 n1 c1 B1 l1 hr1
  have e2 := str_of w A2 n2 c2 B2 l2 hr2
  clear hr1 hr2
  go_enter Try.func23, Try.ntmps23
  go_wp2
  go_ret
  exact ⟨rfl, rfl⟩
end Go.Proofs.Ythmbmecodddkeaa
