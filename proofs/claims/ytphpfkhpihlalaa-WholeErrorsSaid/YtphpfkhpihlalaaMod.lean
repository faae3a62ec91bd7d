/- The walks of modular.Reduce, Add, Mul, Pow. -/
import Derived.Test.YtphpfkhpihlalaaProg
import Derived.Test.YtphpfkhpihlalaaShelf
import Derived.Test.YtphpfkhpihlalaaMem
import Derived.WalkKit
import Derived.WalkSpells
import Derived.WalkLawsBesides
import Derived.Lib.Hide
namespace Go.Proofs.Ytphpfkhpihlalaa
open Go.RowKit
/-- The chapter's modulus, 2^61 - 1. -/
def mP : Nat := 2305843009213693951
theorem mP_val : mP = 2305843009213693951 := rfl
attribute [irreducible] mP
theorem and61 (x : Nat) (h : x < 18446744073709551616) : bits BinOp.and IntKind.u64 (x : Int) 2305843009213693951 = ((x % 2305843009213693952 : Nat) : Int) :=
  (u64_and_nat x 2305843009213693951 h (by decide)).trans (congrArg Nat.cast (nat_mask61 x))
theorem wrap_u64 (x : Int) (h0 : 0 ≤ x) (h : x < 18446744073709551616) : IntKind.u64.wrap x = x := by
  simp only [IntKind.wrap, IntKind.signed, IntKind.bits]
  simp only [Bool.false_eq_true, if_false, Bool.false_and]
  omega
/-- What Reduce needs, with letters for the parts. -/
theorem red_law (x : Nat) (h : x < 18446744073709551616) : ∃ R Q S D : Int, bits BinOp.and IntKind.u64 (x : Int) 2305843009213693951 = R ∧ (x : Int) / 2305843009213693952 = Q ∧ IntKind.u64.wrap (R + Q) = S ∧ IntKind.u64.wrap (S - 2305843009213693951) = D ∧ (S < 2305843009213693951 → S = ((x % mP : Nat) : Int)) ∧ (2305843009213693951 ≤ S → D = ((x % mP : Nat) : Int)) := by
  refine ⟨_, _, _, _, and61 x h, rfl, wrap_u64 _ (by omega) (by omega), rfl, fun hs => ?_, fun hs => ?_⟩
  · rw [mP_val]; omega
  · rw [wrap_u64 _ (by omega) (by omega), mP_val]; omega
set_option maxRecDepth 100000 in
theorem reduce_any (x : Nat) (w : World) (h : x < 18446744073709551616) : Calls Try.prog 74 #[.int .u64 x] w fun e w' => e = .returned (.int .u64 (x % mP : Nat)) ∧ w' = w := by
  obtain ⟨R, Q, S, D, e1, e2, e3, e4, h1, h2⟩ := red_law x h
  clear h
  generalize ((x % mP : Nat) : Int) = z at *
  generalize (x : Int) = X at *
  have H1 := Lib.hid h1
  have H2 := Lib.hid h2
  clear h1 h2
  by_cases hs : S < 2305843009213693951
  · go_enter Try.func74, Try.ntmps74
    go_wp2_with fail
    go_ret
    exact ⟨by rw [H1.out hs]; rfl, rfl⟩
  · go_enter Try.func74, Try.ntmps74
    go_wp2_with fail
    go_ret
    exact ⟨by rw [H2.out (by omega)]; rfl, rfl⟩
theorem mP_lt (x : Nat) : x % mP < 2305843009213693951 := by rw [mP_val]; omega
set_option maxRecDepth 100000 in
theorem madd_any (a b : Nat) (w : World) (ha : a < 18446744073709551616) (hb : b < 18446744073709551616) : Calls Try.prog 46 #[.int .u64 a, .int .u64 b] w fun e w' => e = .returned (.int .u64 ((a + b) % mP : Nat)) ∧ w' = w := by
  have h1 := fun W => reduce_any a W ha
  have h2 := fun W => reduce_any b W hb
  have h3 := fun W => reduce_any (a % mP + b % mP) W (by have := mP_lt a; have := mP_lt b; omega)
  have e1 : IntKind.u64.wrap (((a % mP : Nat) : Int) + ((b % mP : Nat) : Int)) = ((a % mP + b % mP : Nat) : Int) := by
    have := mP_lt a; have := mP_lt b
    rw [wrap_u64 _ (by omega) (by omega)]; rfl
  rw [← Nat.add_mod] at h3
  clear ha hb
  generalize ((a % mP : Nat) : Int) = A at *
  generalize ((b % mP : Nat) : Int) = B at *
  generalize ((a % mP + b % mP : Nat) : Int) = S at *
  generalize (((a + b) % mP : Nat) : Int) = Z at *
  generalize (a : Int) = X at *
  generalize (b : Int) = Y at *
  go_enter Try.func46, Try.ntmps46
  go_wp2_with fail
  refine (h1 _).mono ?_
  rintro e w' ⟨rfl, rfl⟩
  go_wp2_with fail
  refine (h2 _).mono ?_
  rintro e w' ⟨rfl, rfl⟩
  go_wp2_with fail
  refine (h3 _).mono ?_
  rintro e w' ⟨rfl, rfl⟩
  go_wp2_with fail
  go_ret
  exact ⟨rfl, rfl⟩
theorem mul_law (u v : Nat) (hu : u < 2305843009213693951) (hv : v < 2305843009213693951) :
    u * v / 18446744073709551616 * 8 + u * v % 18446744073709551616 / 2305843009213693952 + u * v % 18446744073709551616 % 2305843009213693952 < 18446744073709551616 ∧ u * v / 18446744073709551616 * 8 < 18446744073709551616 ∧ (u * v / 18446744073709551616 * 8 + u * v % 18446744073709551616 / 2305843009213693952 + u * v % 18446744073709551616 % 2305843009213693952) % mP = u * v % mP := by
  have hm : u * v ≤ 2305843009213693951 * 2305843009213693951 := Nat.mul_le_mul (Nat.le_of_lt hu) (Nat.le_of_lt hv)
  rw [mP_val]
  generalize u * v = p at *
  omega
set_option maxRecDepth 100000 in
theorem mmul_any (a b : Nat) (w : World) (ha : a < 18446744073709551616) (hb : b < 18446744073709551616) : Calls Try.prog 47 #[.int .u64 a, .int .u64 b] w fun e w' => e = .returned (.int .u64 (a * b % mP : Nat)) ∧ w' = w := by
  have h1 := fun W => reduce_any a W ha
  have h2 := fun W => reduce_any b W hb
  have la := mP_lt a
  have lb := mP_lt b
  have h3 := fun W => Try.bits_Mul64 (a % mP) (b % mP) (by omega) (by omega) W
  obtain ⟨k1, k2, k3⟩ := mul_law (a % mP) (b % mP) la lb
  rw [← Nat.mul_mod] at k3
  have h4 := fun W => reduce_any _ W k1
  rw [k3] at h4
  generalize a % mP * (b % mP) = p at *
  have e1 := and61 (p % 18446744073709551616) (by omega)
  have e2 : IntKind.u64.wrap (((p / 18446744073709551616 : Nat) : Int) * 8) = ((p / 18446744073709551616 * 8 : Nat) : Int) := by rw [wrap_u64 _ (by omega) (by omega)]; omega
  have e3 : ((p % 18446744073709551616 : Nat) : Int) / 2305843009213693952 = ((p % 18446744073709551616 / 2305843009213693952 : Nat) : Int) := rfl
  have e4 : IntKind.u64.wrap (((p / 18446744073709551616 * 8 : Nat) : Int) + ((p % 18446744073709551616 / 2305843009213693952 : Nat) : Int)) = ((p / 18446744073709551616 * 8 + p % 18446744073709551616 / 2305843009213693952 : Nat) : Int) := by rw [wrap_u64 _ (by omega) (by omega)]; rfl
  have e5 : IntKind.u64.wrap (((p / 18446744073709551616 * 8 + p % 18446744073709551616 / 2305843009213693952 : Nat) : Int) + ((p % 18446744073709551616 % 2305843009213693952 : Nat) : Int)) = ((p / 18446744073709551616 * 8 + p % 18446744073709551616 / 2305843009213693952 + p % 18446744073709551616 % 2305843009213693952 : Nat) : Int) := by rw [wrap_u64 _ (by omega) (by omega)]; rfl
  clear k1 k2 k3 la lb ha hb
  generalize ((p / 18446744073709551616 * 8 + p % 18446744073709551616 / 2305843009213693952 + p % 18446744073709551616 % 2305843009213693952 : Nat) : Int) = V at *
  generalize ((p / 18446744073709551616 * 8 + p % 18446744073709551616 / 2305843009213693952 : Nat) : Int) = U at *
  generalize ((p / 18446744073709551616 * 8 : Nat) : Int) = T at *
  generalize ((p % 18446744073709551616 / 2305843009213693952 : Nat) : Int) = S at *
  generalize ((p % 18446744073709551616 % 2305843009213693952 : Nat) : Int) = R at *
  generalize ((p / 18446744073709551616 : Nat) : Int) = H at *
  generalize ((p % 18446744073709551616 : Nat) : Int) = L at *
  generalize ((a % mP : Nat) : Int) = A at *
  generalize ((b % mP : Nat) : Int) = B at *
  generalize ((a * b % mP : Nat) : Int) = Z at *
  generalize (a : Int) = X at *
  generalize (b : Int) = Y at *
  go_enter Try.func47, Try.ntmps47
  go_wp2_with fail
  refine (h1 _).mono ?_
  rintro e w' ⟨rfl, rfl⟩
  go_wp2_with fail
  refine (h2 _).mono ?_
  rintro e w' ⟨rfl, rfl⟩
  go_wp2_with fail
  refine (h3 _).mono ?_
  rintro e w' ⟨rfl, rfl⟩
  go_wp2_with fail
  refine (h4 _).mono ?_
  rintro e w' ⟨rfl, rfl⟩
  go_wp2_with fail
  go_ret
  exact ⟨rfl, rfl⟩
end Go.Proofs.Ytphpfkhpihlalaa
