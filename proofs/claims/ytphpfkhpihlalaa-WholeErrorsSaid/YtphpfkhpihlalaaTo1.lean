/- evergreentop.at. -/
import Derived.Test.YtphpfkhpihlalaaSp6
namespace Go.Proofs.Ytphpfkhpihlalaa
open Go.RowKit
theorem at_law (k n : Int) (hn : 0 < n) : (k.tmod n + n).tmod n = k % n := by
  have h1 : 0 ≤ k % n := Int.emod_nonneg _ (by omega)
  have h2 : k % n < n := Int.emod_lt_of_pos _ hn
  have h3 : k.tmod n = k % n ∨ k.tmod n = k % n - n := by
    rw [Int.tmod_eq_emod]
    split
    · left; omega
    · right
      rw [show ((n.natAbs : Nat) : Int) = n by omega]
  rcases h3 with h3 | h3 <;> rw [h3]
  · rw [Int.tmod_eq_emod_of_nonneg (by omega)]; simp
  · rw [show k % n - n + n = k % n by omega, Int.tmod_eq_emod_of_nonneg h1, Int.emod_emod]
theorem tmod_lt (k n : Int) (hn : 0 < n) : -n < k.tmod n ∧ k.tmod n < n := by
  have h1 : 0 ≤ k % n := Int.emod_nonneg _ (by omega)
  have h2 : k % n < n := Int.emod_lt_of_pos _ hn
  rw [Int.tmod_eq_emod]
  split
  · omega
  · omega
set_option maxRecDepth 100000 in
theorem at92_any (k n : Int) (w : World) (hn : 0 < n) (hn1 : n ≤ 1152921504606846977) : Calls Try.prog 92 #[.int .i64 k, .int .i64 n] w fun e w' => e = .returned (.int .i64 (k % n)) ∧ w' = w := by
  have hn0 : (n == 0) = false := by simp; omega
  have h1 := tmod_lt k n hn
  have s1 : IntKind.i64.wrap (k.tmod n) = k.tmod n := IntWalk.i64_in _ (by omega)
  have s2 : IntKind.i64.wrap (k.tmod n + n) = k.tmod n + n := IntWalk.i64_in _ (by omega)
  have h2 := at_law k n hn
  have h3 : 0 ≤ k % n := Int.emod_nonneg _ (by omega)
  have h4 : k % n < n := Int.emod_lt_of_pos _ hn
  have h5 : (k.tmod n + n) % n = k % n := by rw [← Int.tmod_eq_emod_of_nonneg (by omega)]; exact h2
  have H5 := Lib.hid h5
  clear h2 h3 h4 h5
  go_enter Try.func92, Try.ntmps92
  go_wp2_with fail
  go_ret
  exact ⟨by rw [H5.out]; rfl, rfl⟩
end Go.Proofs.Ytphpfkhpihlalaa
