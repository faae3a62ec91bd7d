/- Plain laws of letter sets: the words of a set, bit by bit. -/
import Derived.Test.YtfdpohceoabinaaRx
namespace Go.Proofs.Ytfdpohceoabinaa
theorem wdN_lt (S : LS) (i : Nat) : ∀ n, wdN S i n < 2 ^ n
  | 0 => by simp [wdN]
  | n + 1 => by
    have := wdN_lt S i n
    rw [wdN, Nat.pow_succ]
    split <;> omega
theorem wdN_bit (S : LS) (i : Nat) : ∀ n j, (wdN S i n).testBit j = (decide (j < n) && S (64 * i + j))
  | 0, j => by simp [wdN]
  | n + 1, j => by
    have ih := wdN_bit S i n
    have hlt := wdN_lt S i n
    rw [wdN]
    by_cases hS : S (64 * i + n) = true
    · rw [if_pos hS, Nat.add_comm]
      rcases Nat.lt_trichotomy j n with h | h | h
      · rw [Nat.testBit_two_pow_add_gt h, ih]
        simp [h, Nat.lt_succ_of_lt h]
      · subst h
        rw [Nat.testBit_two_pow_add_eq, ih]
        simp [hS]
      · rw [Nat.testBit_lt_two_pow (Nat.lt_of_lt_of_le (by omega : 2 ^ n + wdN S i n < 2 ^ (n + 1)) (Nat.pow_le_pow_right (by omega) (by omega)))]
        simp
        omega
    · rw [if_neg hS, Nat.add_zero, ih]
      rcases Nat.lt_trichotomy j n with h | h | h
      · simp [h, Nat.lt_succ_of_lt h]
      · subst h
        simp [hS]
      · rw [decide_eq_false (by omega), decide_eq_false (by omega)]
theorem wd_lt (S : LS) (i : Nat) : wd S i < 2 ^ 64 := wdN_lt S i 64
theorem wd_bit (S : LS) (i j : Nat) : (wd S i).testBit j = (decide (j < 64) && S (64 * i + j)) := wdN_bit S i 64 j
theorem wd_ext {S : LS} {i x : Nat} (h : ∀ j, x.testBit j = (decide (j < 64) && S (64 * i + j))) : x = wd S i :=
  Nat.eq_of_testBit_eq fun j => by rw [h, wd_bit]
theorem wd_congr {S R : LS} {i : Nat} (h : ∀ j, j < 64 → S (64 * i + j) = R (64 * i + j)) : wd S i = wd R i :=
  wd_ext fun j => by
    rw [wd_bit]
    by_cases hj : j < 64
    · rw [h j hj]
    · simp [hj]
theorem wd_none (i : Nat) : wd noneS i = 0 := (wd_ext fun j => by simp [noneS]).symm
theorem wd_or (S R : LS) (i : Nat) : wd (orS S R) i = wd S i ||| wd R i := (wd_ext fun j => by rw [Nat.testBit_or, wd_bit, wd_bit]; cases decide (j < 64) <;> simp [orS]).symm
theorem wd_one_at (b : Nat) : wd (oneS b) (b / 64) = 2 ^ (b % 64) := (wd_ext fun j => by
  rw [Nat.testBit_two_pow]
  unfold oneS
  rw [Bool.eq_iff_iff]
  simp
  omega).symm
theorem wd_one_off {b i : Nat} (h : i ≠ b / 64) : wd (oneS b) i = 0 := (wd_ext fun j => by
  unfold oneS
  simp
  intro hj
  omega).symm
theorem wd_not (S : LS) (i : Nat) : wd (notS S) i = 2 ^ 64 - 1 - wd S i := (wd_ext fun j => by
  have := wd_lt S i
  rw [show 2 ^ 64 - 1 - wd S i = 2 ^ 64 - (wd S i + 1) by omega, Nat.testBit_two_pow_sub_succ this, wd_bit]
  unfold notS
  cases h : decide (j < 64) <;> simp).symm
/-- The four words of a set. -/
def wds (S : LS) : List Nat := [wd S 0, wd S 1, wd S 2, wd S 3]
theorem wds_get (S : LS) {i : Nat} (h : i < 4) : (wds S)[i]? = some (wd S i) := by
  match i, h with
  | 0, _ => rfl
  | 1, _ => rfl
  | 2, _ => rfl
  | 3, _ => rfl
theorem wds_set (S : LS) (b : Nat) (hb : b < 256) : wds (orS S (oneS b)) = (wds S).set (b / 64) (wd S (b / 64) ||| 2 ^ (b % 64)) := by
  have h : b / 64 < 4 := by omega
  have e := wd_one_at b
  have o := fun i (hi : i ≠ b / 64) => wd_one_off (b := b) hi
  unfold wds
  rw [wd_or, wd_or, wd_or, wd_or]
  generalize b / 64 = q at *
  match q, h with
  | 0, _ => rw [e, o 1 (by omega), o 2 (by omega), o 3 (by omega)]; simp
  | 1, _ => rw [e, o 0 (by omega), o 2 (by omega), o 3 (by omega)]; simp
  | 2, _ => rw [e, o 0 (by omega), o 1 (by omega), o 3 (by omega)]; simp
  | 3, _ => rw [e, o 0 (by omega), o 1 (by omega), o 2 (by omega)]; simp
theorem wds_congr {S R : LS} (h : ∀ n, n < 256 → S n = R n) : wds S = wds R := by
  unfold wds
  rw [wd_congr (S := S) (R := R) (i := 0) fun j hj => h _ (by omega), wd_congr (S := S) (R := R) (i := 1) fun j hj => h _ (by omega), wd_congr (S := S) (R := R) (i := 2) fun j hj => h _ (by omega), wd_congr (S := S) (R := R) (i := 3) fun j hj => h _ (by omega)]
theorem Rx.set_congr {S R : LS} (h : ∀ n, n < 256 → S n = R n) : Rx.set S = Rx.set R := by
  have := wds_congr h
  unfold wds at this
  injection this with h0 h1
  injection h1 with h1 h2
  injection h2 with h2 h3
  injection h3 with h3 h4
  unfold Rx.set
  rw [h0, h1, h2, h3]
theorem spanS_step (S : LS) {a b : Nat} (h : a ≤ b + 1) : ∀ n, orS (orS S (fun n => decide (a ≤ n) && decide (n < b + 1))) (oneS (b + 1)) n = orS S (fun n => decide (a ≤ n) && decide (n < b + 2)) n := by
  intro n
  unfold orS oneS
  cases S n
  · rw [Bool.eq_iff_iff]
    simp
    omega
  · simp
end Go.Proofs.Ytfdpohceoabinaa
