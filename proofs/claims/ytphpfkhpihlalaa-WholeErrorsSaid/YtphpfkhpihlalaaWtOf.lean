/- The weight of a text, in plain words; that of two texts one after the other is the join. -/
import Derived.Test.YtphpfkhpihlalaaWtK
namespace Go.Proofs.Ytphpfkhpihlalaa
def digF (v : Nat) (l : List UInt8) : Nat := l.foldl (fun v b => (v * 1103515245 % mP + (b.toNat + 1)) % mP) v
theorem digF_eq (l : List UInt8) : ∀ v : Nat, v < mP → digF v l = (v * (1103515245 ^ l.length % mP) % mP + digF 0 l) % mP := by
  induction l with
  | nil => intro v h; simp [digF]; rw [Nat.mod_eq_of_lt h]
  | cons b l ih =>
    intro v h
    have h1 := ih ((v * 1103515245 % mP + (b.toNat + 1)) % mP) (Nat.mod_lt _ (by rw [mP_val]; decide))
    have h2 := ih ((0 * 1103515245 % mP + (b.toNat + 1)) % mP) (Nat.mod_lt _ (by rw [mP_val]; decide))
    show digF _ l = (_ + digF _ l) % mP
    rw [h1, h2]
    simp only [Nat.mod_add_mod, Nat.add_mod_mod, Nat.mod_mul_mod, Nat.mul_mod_mod, Nat.zero_mul, Nat.zero_add, List.length_cons, Nat.pow_succ]
    congr 1
    generalize 1103515245 ^ l.length = X
    rw [Nat.add_mul, Nat.mul_comm X, Nat.mul_assoc]
    omega
theorem digF_lt (l : List UInt8) : digF 0 l < mP := by
  have : ∀ (l : List UInt8) (v : Nat), v < mP → digF v l < mP := by
    intro l
    induction l with
    | nil => exact fun v h => h
    | cons b l ih => exact fun v _ => ih _ (Nat.mod_lt _ (by rw [mP_val]; decide))
  exact this l 0 (by rw [mP_val]; decide)
def Dig.of (l : List UInt8) : Dig := ⟨digF 0 l, 1103515245 ^ l.length % mP⟩
theorem Dig.of_append (a b : List UInt8) : Dig.of (a ++ b) = (Dig.of a).join (Dig.of b) := by
  unfold Dig.of Dig.join
  simp only [Dig.mk.injEq]
  refine ⟨?_, by rw [List.length_append, Nat.pow_add, Nat.mul_mod]⟩
  rw [← digF_eq b _ (digF_lt a)]
  unfold digF
  rw [List.foldl_append]
theorem Dig.of_one (b : UInt8) : Dig.of [b] = Dig.letter b := by
  have := b.toNat_lt
  simp only [Dig.of, Dig.letter, digF, List.foldl, List.length_singleton, mP_val]
  congr 1 <;> omega
/-- Letters ahead of the first line feed. -/
def hdL (l : List UInt8) : Nat := (l.takeWhile (· != 10)).length
def nlL (l : List UInt8) : Nat := l.count 10
/-- The weight of a text. -/
def Wt.of (l : List UInt8) : Wt := ⟨l.length, nlL l, hdL l, hdL l.reverse, Dig.of l⟩
theorem nl_append (a b : List UInt8) : nlL (a ++ b) = nlL a + nlL b := List.count_append ..
theorem hd_append (a b : List UInt8) : hdL (a ++ b) = if nlL a = 0 then a.length + hdL b else hdL a := by
  induction a with
  | nil => simp [nlL]
  | cons x a ih =>
    unfold hdL nlL at ih ⊢
    by_cases h : x = 10
    · subst h; simp
    · have h1 : (x != 10) = true := by simp [h]
      have h2 : (x == 10) = false := by simp [h]
      simp only [List.cons_append, List.takeWhile_cons, h1, if_true, List.length_cons, ih, List.count_cons, h2, Bool.false_eq_true, if_false, Nat.add_zero]
      split <;> omega
theorem nl_rev (a : List UInt8) : nlL a.reverse = nlL a := List.count_reverse ..
theorem Wt.of_append (a b : List UInt8) : Wt.of (a ++ b) = (Wt.of a).join (Wt.of b) := by
  unfold Wt.of Wt.join
  simp only [Wt.mk.injEq]
  refine ⟨by simp, by rw [nl_append]; simp, ?_, ?_, Dig.of_append a b⟩
  · rw [hd_append]
    by_cases h : nlL a = 0
    · simp [h]
    · simp [h]
  · rw [List.reverse_append, hd_append, nl_rev]
    by_cases h : nlL b = 0
    · simp [h]
    · simp [h]
theorem Wt.of_one (b : UInt8) : Wt.of [b] = Wt.letter b := by
  unfold Wt.of Wt.letter
  rw [Dig.of_one]
  by_cases h : b = 10
  · subst h; simp [nlL, hdL]
  · have h1 : (b != 10) = true := by simp [h]
    have h2 : (b == 10) = false := by simp [h]
    simp [nlL, hdL, h, h1, h2]
theorem Wt.of_nil : Wt.of [] = Wt.unit := by simp [Wt.of, Wt.unit, Dig.of, Dig.unit, digF, nlL, hdL, mP_val]
theorem Wt.letter_ok (b : UInt8) : (Wt.letter b).ok := by
  have := b.toNat_lt
  unfold Wt.letter
  split <;> refine ⟨?_, ?_, ?_, ?_, ?_, ?_, ?_, ?_⟩ <;> simp [Dig.letter, mP_val] <;> omega
theorem Wt.unit_ok : Wt.unit.ok := by
  refine ⟨?_, ?_, ?_, ?_, ?_, ?_, ?_, ?_⟩ <;> simp [Wt.unit, Dig.unit, mP_val]
theorem Wt.of_ok (l : List UInt8) (h : l.length ≤ 1152921504606846976) : (Wt.of l).ok := by
  induction l with
  | nil => rw [Wt.of_nil]; exact Wt.unit_ok
  | cons b l ih =>
    have h1 := ih (by simp at h; omega)
    have : b :: l = [b] ++ l := rfl
    rw [this, Wt.of_append]
    refine Wt.ok.join (by rw [Wt.of_one]; exact Wt.letter_ok b) h1 ?_
    simp only [Wt.of, List.length_singleton]
    simp at h
    omega
end Go.Proofs.Ytphpfkhpihlalaa
