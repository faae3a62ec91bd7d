/- The walk of modular.Pow; digest.Unit, digest.Letter. -/
import Derived.Test.YtphpfkhpihlalaaMod
import Derived.LoopTactic
namespace Go.Proofs.Ytphpfkhpihlalaa
open Go.RowKit
theorem pow_odd (r a m : Nat) (h : m % 2 = 1) : r * a % mP * (a * a % mP) ^ (m / 2) % mP = r * a ^ m % mP := by
  have e : m = m / 2 + m / 2 + 1 := by omega
  conv => rhs; rw [e, Nat.pow_succ, Nat.pow_add, ← Nat.mul_pow]
  rw [Nat.mul_mod (r * a % mP), Nat.mod_mod, ← Nat.pow_mod, ← Nat.mul_mod]
  congr 1
  ac_rfl
theorem pow_even (r a m : Nat) (h : m % 2 ≠ 1) : r * (a * a % mP) ^ (m / 2) % mP = r * a ^ m % mP := by
  have e : m = m / 2 + m / 2 := by omega
  conv => rhs; rw [e, Nat.pow_add, ← Nat.mul_pow]
  rw [Nat.mul_mod r, ← Nat.pow_mod, ← Nat.mul_mod]
def PowRel (Z : Nat) (x0 x1 x5 : Value) : Prop := ∃ a m r : Nat, x0 = .int .u64 a ∧ x1 = .int .u64 m ∧ x5 = .int .u64 r ∧ a < 2305843009213693951 ∧ r < 2305843009213693951 ∧ m < 18446744073709551616 ∧ r * a ^ m % mP = Z
theorem powRel_law {Z : Nat} {x0 x1 x5 : Value} (h : PowRel Z x0 x1 x5) : ∃ A M R H Q : Int, x0 = .int .u64 A ∧ x1 = .int .u64 M ∧ x5 = .int .u64 R ∧ M % 2 = H ∧ M / 2 = Q ∧ IntKind.u64.wrap (M.tdiv 2) = Q ∧ 0 ≤ M ∧ 0 ≤ Q ∧ (M = 0 → R = Z) ∧
    (∀ W, Calls Try.prog 47 #[.int .u64 R, .int .u64 A] W fun e W' => (∃ R' : Int, e = .returned (.int .u64 R') ∧ (H = 1 → ∀ W, Calls Try.prog 47 #[.int .u64 A, .int .u64 A] W fun e W' => (∃ A' : Int, e = .returned (.int .u64 A') ∧ PowRel Z (.int .u64 A') (.int .u64 Q) (.int .u64 R')) ∧ W' = W)) ∧ W' = W) ∧
    (H ≠ 1 → ∀ W, Calls Try.prog 47 #[.int .u64 A, .int .u64 A] W fun e W' => (∃ A' : Int, e = .returned (.int .u64 A') ∧ PowRel Z (.int .u64 A') (.int .u64 Q) (.int .u64 R)) ∧ W' = W) := by
  obtain ⟨a, m, r, rfl, rfl, rfl, ha, hr, hm, hz⟩ := h
  refine ⟨_, _, _, _, _, rfl, rfl, rfl, rfl, rfl, by rw [Int.tdiv_eq_ediv_of_nonneg (by omega), wrap_u64 _ (by omega) (by omega)], by omega, by omega, fun h0 => ?_, fun W => ?_, fun hh W => ?_⟩
  · have : m = 0 := by omega
    subst this
    rw [← hz, Nat.pow_zero, Nat.mul_one, Nat.mod_eq_of_lt (by rw [mP_val]; exact hr)]
  · refine (mmul_any r a W (by omega) (by omega)).mono ?_
    rintro e W' ⟨rfl, rfl⟩
    refine ⟨⟨_, rfl, fun hh W => ?_⟩, rfl⟩
    refine (mmul_any a a W (by omega) (by omega)).mono ?_
    rintro e W' ⟨rfl, rfl⟩
    exact ⟨⟨_, rfl, _, m / 2, _, rfl, rfl, rfl, mP_lt _, mP_lt _, by omega, by rw [pow_odd _ _ _ (by omega)]; exact hz⟩, rfl⟩
  · refine (mmul_any a a W (by omega) (by omega)).mono ?_
    rintro e W' ⟨rfl, rfl⟩
    exact ⟨⟨_, rfl, _, m / 2, _, rfl, rfl, rfl, mP_lt _, hr, by omega, by rw [pow_even _ _ _ (by omega)]; exact hz⟩, rfl⟩
theorem powRel_start (a n : Nat) (hn : n < 18446744073709551616) : PowRel (a ^ n % mP) (.int .u64 (a % mP : Nat)) (.int .u64 n) (.int .u64 1) :=
  ⟨_, n, 1, rfl, rfl, rfl, mP_lt _, by omega, hn, by rw [Nat.one_mul, ← Nat.pow_mod]⟩
set_option maxRecDepth 100000 in
theorem pow_any (a n : Nat) (w : World) (ha : a < 18446744073709551616) (hn : n < 18446744073709551616) : Calls Try.prog 111 #[.int .u64 a, .int .u64 n] w fun e w' => e = .returned (.int .u64 (a ^ n % mP : Nat)) ∧ w' = w := by
  have h1 := fun W => reduce_any a W ha
  have hs := Lib.hid (powRel_start a n hn)
  clear ha hn
  generalize a ^ n % mP = Z at *
  generalize ((a % mP : Nat) : Int) = A at *
  generalize (a : Int) = X at *
  generalize (n : Int) = Y at *
  go_enter Try.func111, Try.ntmps111
  go_wp2_with fail
  refine (h1 _).mono ?_
  clear h1
  rintro e w' ⟨rfl, rfl⟩
  go_wp2_with fail
  go_loop [0, 1, 5] (fun x0 x1 x5 => PowRel Z x0 x1 x5) (fun _ x1 _ => (intOf x1).toNat)
  case atStart => exact hs.out
  case round =>
    obtain ⟨A', M, R, H, Q, rfl, rfl, rfl, e1, e2, e3, hm0, hq0, hend, hodd, heven⟩ := powRel_law hrel
    clear hrel hs
    have HE := Lib.hid hend
    have HO := Lib.hid hodd
    have HV := Lib.hid heven
    have E1 := Lib.hid e1
    have E2 := Lib.hid e2
    clear e2
    clear hend hodd heven
    by_cases hM : 0 < M
    · by_cases hH : H = 1
      · subst hH
        go_wp2_with fail
        refine (HO.out _).mono ?_
        rintro e w' ⟨⟨R', rfl, h2⟩, rfl⟩
        have H2 := Lib.hid (h2 (by trivial))
        clear h2
        go_wp2_with fail
        refine (H2.out _).mono ?_
        rintro e w' ⟨⟨A2, rfl, h3⟩, rfl⟩
        have H3 := Lib.hid h3
        clear h3
        go_wp2_with fail
        go_round
        · exact H3.out
        · simp only [intOf]; have := E2.out; omega
      · have hHd : (H == 1) = false := by simpa using hH
        go_wp2_with fail
        refine (HV.out hH _).mono ?_
        rintro e w' ⟨⟨A2, rfl, h3⟩, rfl⟩
        have H3 := Lib.hid h3
        clear h3
        go_wp2_with fail
        go_round
        · exact H3.out
        · simp only [intOf]; have := E2.out; omega
    · have hd : decide (0 < M) = false := decide_eq_false hM
      go_wp2_with fail
      go_ret
      exact ⟨by rw [HE.out (by omega)]; rfl, rfl⟩
end Go.Proofs.Ytphpfkhpihlalaa
