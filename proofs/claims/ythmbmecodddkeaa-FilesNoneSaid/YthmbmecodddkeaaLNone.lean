/- The walk of the law FilesNone. -/
import Derived.Test.YthmbmecodddkeaaAlive
import Derived.Test.YthmbmecodddkeaaNil
namespace Go.Proofs.Ythmbmecodddkeaa
open Go.RowKit Go.WideMaps
def e5 : Value := .iface 30 (.int .i64 5)
set_option maxRecDepth 100000 in
set_option maxHeartbeats 400000 in
theorem none_any (nm : ByteArray) (k : Int) (w : World) : Calls Try.prog 7 #[.string nm, .int .i64 k] w (AwEnd w) := by
  go_enter Try.func7, Try.ntmps7
  go_wp2_with fail
  refine (alive_any w).mono ?_
  rintro e w1 ⟨rfl, hb⟩
  go_wp2_with fail
  refine (fail_nil k w1).mono ?_
  rintro e w' ⟨rfl, rfl⟩
  go_wp2_with fail
  refine (crash_nil _ _ _ _).mono ?_
  rintro e w' ⟨rfl, rfl⟩
  have hb := hb.alloc hb.size (.cells #[.int .i64 k] 3)
  generalize w1.alloc (.cells #[.int .i64 k] 3) = w1 at *
  go_wp2_with fail
  refine (read_nil _ _).mono ?_
  rintro e w' ⟨rfl, rfl⟩
  rw [errV5]
  go_wp2_with fail
  refine (size_nil _ _).mono ?_
  rintro e w' ⟨rfl, rfl⟩
  rw [errV5]
  go_wp2_with fail
  refine (names_nil _).mono ?_
  rintro e w' ⟨rfl, rfl⟩
  go_wp2_with fail
  refine (off_nil _).mono ?_
  rintro e w' ⟨rfl, rfl⟩
  go_wp2_with fail
  refine (copy_nil _).mono ?_
  rintro e w' ⟨rfl, rfl⟩
  go_wp2_with fail
  refine (append_nil _ _ _ _ _).mono ?_
  rintro e w2 ⟨rfl, hq⟩
  have hb := hb.trans (hq.mono hb.size)
  clear hq
  rw [errV5]
  go_wp2_with fail
  refine (sync_nil _ _).mono ?_
  rintro e w3 ⟨rfl, hq⟩
  have hb := hb.trans (hq.mono hb.size)
  clear hq
  rw [errV5]
  go_wp2_with fail
  refine (trunc_nil _ _ _).mono ?_
  rintro e w4 ⟨rfl, hq⟩
  have hb := hb.trans (hq.mono hb.size)
  clear hq
  rw [errV5]
  go_wp2_with fail
  refine (rename_nil _ _ _).mono ?_
  rintro e w5 ⟨rfl, hq⟩
  have hb := hb.trans (hq.mono hb.size)
  clear hq
  rw [errV5]
  go_wp2_with fail
  refine (remove_nil _ _).mono ?_
  rintro e w6 ⟨rfl, hq⟩
  have hb := hb.trans (hq.mono hb.size)
  clear hq
  rw [errV5]
  go_wp2_with fail
  obtain ⟨w7, hw7⟩ : ∃ w7, w7 = w6.alloc (.cells #[.iface 30 (.int .i64 5), .iface 30 (.int .i64 5), .iface 30 (.int .i64 5), .iface 30 (.int .i64 5), .iface 30 (.int .i64 5), .iface 30 (.int .i64 5), .iface 30 (.int .i64 5)] 26) := ⟨_, rfl⟩
  rw [← hw7]
  have hb7 : Below w.heap.size w w7 := by rw [hw7]; exact hb.alloc hb.size _
  have hc : ∀ j, j < 7 → w7.cell? ⟨w6.heap.size, j, none⟩ = some (.iface 30 (.int .i64 5)) := by
    intro j hj
    rw [hw7, cell_of_row _ _ _ _ _ (0, 0) (heap_alloc_new w6 _)]
    have : j = 0 ∨ j = 1 ∨ j = 2 ∨ j = 3 ∨ j = 4 ∨ j = 5 ∨ j = 6 := by omega
    rcases this with rfl | rfl | rfl | rfl | rfl | rfl | rfl <;> rfl
  have HC := Lib.hid hc
  clear hc hw7 hb
  go_loop [72] (fun i => ∃ j : Nat, j ≤ 7 ∧ i = .int .i64 j) (fun i => 7 - (intOf i).toNat)
  case atStart => exact ⟨0, by omega, rfl⟩
  case round =>
    obtain ⟨j, hj, rfl⟩ := hrel
    by_cases hlt : j < 7
    · have c0 := HC.out j hlt
      go_wp2_with fail
      refine (is_same 5 w7 (by decide)).mono ?_
      rintro e w' ⟨rfl, rfl⟩
      go_wp2_with fail
      go_round
      case rel => exact ⟨j + 1, by omega, by go_num⟩
      case measure => simp [intOf]; omega
    · go_wp2_with fail
      go_ret
      exact ⟨rfl, hb7⟩
end Go.Proofs.Ythmbmecodddkeaa
