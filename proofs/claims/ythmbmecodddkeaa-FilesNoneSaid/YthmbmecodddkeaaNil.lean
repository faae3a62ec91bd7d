/- The methods of a nil file system. -/
import Derived.Test.YthmbmecodddkeaaBegin
namespace Go.Proofs.Ythmbmecodddkeaa
open Go.RowKit Go.WideMaps
def NilE (w : World) (v : Value) (e : Ending) (w' : World) : Prop := e = .returned v ∧ Below w.heap.size w w'
theorem fail_nil (k : Int) (w : World) : Calls Try.prog 28 #[.pointer none, .int .i64 k] w (RetW w (.tuple #[])) := by
  go_enter Try.func28, Try.ntmps28
  go_wp2_with fail
  go_end0
  exact ⟨rfl, rfl⟩
theorem crash_nil (A : Option Addr) (m c : Nat) (w : World) : Calls Try.prog 21 #[.pointer none, .slice A m c] w (RetW w (.tuple #[])) := by
  go_enter Try.func21, Try.ntmps21
  go_wp2_with fail
  go_end0
  exact ⟨rfl, rfl⟩
theorem read_nil (nm : ByteArray) (w : World) : Calls Try.prog 14 #[.pointer none, .string nm] w (RetW w (.tuple #[.slice none 0 0, errV 5])) := by
  go_enter Try.func14, Try.ntmps14
  go_wp2_with fail
  go_ret2
  exact ⟨rfl, rfl⟩
theorem size_nil (nm : ByteArray) (w : World) : Calls Try.prog 13 #[.pointer none, .string nm] w (RetW w (.tuple #[.int .i64 0, errV 5])) := by
  go_enter Try.func13, Try.ntmps13
  go_wp2_with fail
  go_ret2
  exact ⟨rfl, rfl⟩
theorem names_nil (w : World) : Calls Try.prog 12 #[.pointer none] w (RetW w (.slice none 0 0)) := by
  go_enter Try.func12, Try.ntmps12
  go_wp2_with fail
  go_ret
  exact ⟨rfl, rfl⟩
theorem off_nil (w : World) : Calls Try.prog 22 #[.pointer none] w (RetW w (.bool false)) := by
  go_enter Try.func22, Try.ntmps22
  go_wp2_with fail
  go_ret
  exact ⟨rfl, rfl⟩
theorem copy_nil (w : World) : Calls Try.prog 26 #[.pointer none] w (RetW w (.pointer none)) := by
  go_enter Try.func26, Try.ntmps26
  go_wp2_with fail
  go_ret
  exact ⟨rfl, rfl⟩
theorem begin_nil (A : Option Addr) (m c : Nat) (w : World) : Calls Try.prog 29 #[.pointer none, .slice A m c] w (RetW w (errV 5)) := by
  go_enter Try.func29, Try.ntmps29
  go_wp2_with fail
  go_ret
  exact ⟨rfl, rfl⟩
theorem errV5 : errV 5 = .iface 30 (.int .i64 5) := rfl
theorem append_nil (nm : ByteArray) (A : Option Addr) (m c : Nat) (w : World) : Calls Try.prog 10 #[.pointer none, .string nm, .slice A m c] w (NilE w (errV 5)) := by
  go_enter Try.func10, Try.ntmps10
  go_wp2_with fail
  refine (begin_nil _ _ _ _).mono ?_
  rintro e w' ⟨rfl, rfl⟩
  rw [errV5]
  go_wp2_with fail
  go_ret
  exact ⟨rfl, (Below.refl _ _).alloc (Nat.le_refl _) _⟩
theorem sync_nil (nm : ByteArray) (w : World) : Calls Try.prog 15 #[.pointer none, .string nm] w (NilE w (errV 5)) := by
  go_enter Try.func15, Try.ntmps15
  go_wp2_with fail
  refine (begin_nil _ _ _ _).mono ?_
  rintro e w' ⟨rfl, rfl⟩
  rw [errV5]
  go_wp2_with fail
  go_ret
  exact ⟨rfl, (Below.refl _ _).alloc (Nat.le_refl _) _⟩
theorem trunc_nil (nm : ByteArray) (k : Int) (w : World) : Calls Try.prog 16 #[.pointer none, .string nm, .int .i64 k] w (NilE w (errV 5)) := by
  go_enter Try.func16, Try.ntmps16
  go_wp2_with fail
  refine (begin_nil _ _ _ _).mono ?_
  rintro e w' ⟨rfl, rfl⟩
  rw [errV5]
  go_wp2_with fail
  go_ret
  exact ⟨rfl, (Below.refl _ _).alloc (Nat.le_refl _) _⟩
theorem rename_nil (a b : ByteArray) (w : World) : Calls Try.prog 18 #[.pointer none, .string a, .string b] w (NilE w (errV 5)) := by
  go_enter Try.func18, Try.ntmps18
  go_wp2_with fail
  refine (begin_nil _ _ _ _).mono ?_
  rintro e w' ⟨rfl, rfl⟩
  rw [errV5]
  go_wp2_with fail
  go_ret
  exact ⟨rfl, (Below.refl _ _).alloc (Nat.le_refl _) _⟩
theorem remove_nil (nm : ByteArray) (w : World) : Calls Try.prog 17 #[.pointer none, .string nm] w (NilE w (errV 5)) := by
  go_enter Try.func17, Try.ntmps17
  go_wp2_with fail
  refine (begin_nil _ _ _ _).mono ?_
  rintro e w' ⟨rfl, rfl⟩
  rw [errV5]
  go_wp2_with fail
  go_ret
  exact ⟨rfl, (Below.refl _ _).alloc (Nat.le_refl _) _⟩
end Go.Proofs.Ythmbmecodddkeaa
