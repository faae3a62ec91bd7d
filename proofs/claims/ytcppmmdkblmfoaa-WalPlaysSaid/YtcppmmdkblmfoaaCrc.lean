/- Plain facts on the register of the CRC: linear, injective; four steps by a table; bit by bit. No program is named. -/
namespace Go.Proofs.Ytcppmmdkblmfoaa
namespace Crc
/-- One step of the register. -/
def T (x : Nat) : Nat := if x % 2 = 1 then (x / 2) ^^^ 2197175160 else x / 2
/-- Several steps. -/
def Tn : Nat → Nat → Nat
  | 0, x => x
  | k + 1, x => T (Tn k x)

theorem xor_div2 (x y : Nat) : (x ^^^ y) / 2 = x / 2 ^^^ y / 2 := by
  have := Nat.shiftRight_xor_distrib (i := 1) (a := x) (b := y)
  simpa [Nat.shiftRight_eq_div_pow] using this
theorem xor_mod2 (x y : Nat) : (x ^^^ y) % 2 = (x % 2 + y % 2) % 2 := by
  have h := Nat.xor_mod_two_pow (n := 1) (a := x) (b := y)
  simp only [Nat.pow_one] at h
  rw [h]
  rcases Nat.mod_two_eq_zero_or_one x with a | a <;> rcases Nat.mod_two_eq_zero_or_one y with b | b <;> simp [a, b]
theorem T_lin (x y : Nat) : T (x ^^^ y) = T x ^^^ T y := by
  unfold T
  rw [xor_div2, xor_mod2]
  rcases Nat.mod_two_eq_zero_or_one x with a | a <;> rcases Nat.mod_two_eq_zero_or_one y with b | b <;> simp [a, b]
  · ac_rfl
  · ac_rfl
  · have : x / 2 ^^^ 2197175160 ^^^ (y / 2 ^^^ 2197175160) = (x / 2 ^^^ y / 2) ^^^ (2197175160 ^^^ 2197175160) := by ac_rfl
    rw [this]; simp
theorem T_two (x : Nat) : T (2 * x) = x := by
  unfold T; rw [if_neg (by omega)]; omega
theorem Tn_lin (k x y : Nat) : Tn k (x ^^^ y) = Tn k x ^^^ Tn k y := by
  induction k with
  | zero => rfl
  | succ k ih => simp [Tn, ih, T_lin]
theorem Tn_add (k j x : Nat) : Tn (k + j) x = Tn k (Tn j x) := by
  induction k with
  | zero => simp [Tn]
  | succ k ih => rw [Nat.succ_add]; simp [Tn, ih]
theorem T_lt {x : Nat} (h : x < 4294967296) : T x < 4294967296 := by
  unfold T
  split
  · exact Nat.xor_lt_two_pow (n := 32) (by omega) (by decide)
  · omega
theorem Tn_lt {x : Nat} (k : Nat) (h : x < 4294967296) : Tn k x < 4294967296 := by
  induction k with
  | zero => exact h
  | succ k ih => exact T_lt ih
theorem T_zero {x : Nat} (h : x < 4294967296) (e : T x = 0) : x = 0 := by
  unfold T at e
  split at e
  · have : x / 2 = 2197175160 := by
      have h1 : x / 2 ^^^ 2197175160 ^^^ 2197175160 = 0 ^^^ 2197175160 := by rw [e]
      rw [Nat.xor_assoc] at h1; simpa using h1
    omega
  · omega
theorem xor_zero_eq {x y : Nat} (h : x ^^^ y = 0) : x = y := by
  have : x ^^^ y ^^^ y = 0 ^^^ y := by rw [h]
  rw [Nat.xor_assoc] at this; simpa using this
theorem T_inj {x y : Nat} (hx : x < 4294967296) (hy : y < 4294967296) (h : T x = T y) : x = y := by
  refine xor_zero_eq (T_zero (Nat.xor_lt_two_pow (n := 32) hx hy) ?_)
  rw [T_lin, h]; simp
theorem Tn_inj (k : Nat) {x y : Nat} (hx : x < 4294967296) (hy : y < 4294967296) (h : Tn k x = Tn k y) : x = y := by
  induction k with
  | zero => exact h
  | succ k ih => exact ih (T_inj (Tn_lt k hx) (Tn_lt k hy) h)
theorem four (x : Nat) : Tn 4 x = x / 16 ^^^ Tn 4 (x % 16) := by
  have h : x = 2 * (2 * (2 * (2 * (x / 16)))) ^^^ x % 16 := by
    have : 2 * (2 * (2 * (2 * (x / 16)))) = (x / 16) <<< 4 := by rw [Nat.shiftLeft_eq]; omega
    rw [this]
    have h2 := Nat.shiftLeft_add_eq_or_of_lt (a := x / 16) (b := x % 16) (i := 4) (by omega)
    have h3 : (x / 16) <<< 4 ||| x % 16 = (x / 16) <<< 4 ^^^ x % 16 := by
      apply Nat.eq_of_testBit_eq
      intro i
      simp only [Nat.testBit_or, Nat.testBit_xor, Nat.testBit_shiftLeft]
      by_cases hi : 4 ≤ i
      · have : (x % 16).testBit i = false := Nat.testBit_lt_two_pow (Nat.lt_of_lt_of_le (Nat.mod_lt _ (by decide)) (Nat.pow_le_pow_right (n := 2) (by decide) hi))
        simp [this]
      · simp [hi]
    rw [← h3, ← h2, Nat.shiftLeft_eq]; omega
  conv => lhs; rw [h]
  rw [Tn_lin]
  simp [Tn, T_two]
/-- One byte. -/
def byte (x b : Nat) : Nat := Tn 8 (x ^^^ b)
theorem byte_eq (x b : Nat) : byte x b = Tn 4 (x ^^^ b) / 16 ^^^ Tn 4 (Tn 4 (x ^^^ b) % 16) := by
  rw [← four, ← Tn_add]; rfl
/-- The register after bytes. -/
def reg (x : Nat) (l : List Nat) : Nat := l.foldl byte x
/-- The checksum. -/
def sum (l : List Nat) : Nat := 4294967295 ^^^ reg 4294967295 l
theorem byte_lt {x b : Nat} (hx : x < 4294967296) (hb : b < 256) : byte x b < 4294967296 := Tn_lt 8 (Nat.xor_lt_two_pow (n := 32) hx (by omega))
theorem reg_lt : ∀ (l : List Nat) {x : Nat}, x < 4294967296 → (∀ b ∈ l, b < 256) → reg x l < 4294967296
  | [], _, hx, _ => hx
  | b :: l, x, hx, h => reg_lt l (byte_lt hx (h b (by simp))) (fun c hc => h c (by simp [hc]))
theorem reg_inj : ∀ (l : List Nat) {x y : Nat}, x < 4294967296 → y < 4294967296 → (∀ b ∈ l, b < 256) → reg x l = reg y l → x = y
  | [], _, _, _, _, _, h => h
  | b :: l, x, y, hx, hy, hl, h => by
    have hb := hl b (by simp)
    have h1 := reg_inj l (byte_lt hx hb) (byte_lt hy hb) (fun c hc => hl c (by simp [hc])) h
    have h2 := Tn_inj 8 (Nat.xor_lt_two_pow (n := 32) hx (by omega)) (Nat.xor_lt_two_pow (n := 32) hy (by omega)) h1
    have : x ^^^ b ^^^ b = y ^^^ b ^^^ b := by rw [h2]
    rw [Nat.xor_assoc, Nat.xor_assoc] at this; simpa using this
theorem reg_append (x : Nat) (l r : List Nat) : reg x (l ++ r) = reg (reg x l) r := by simp [reg]
theorem reg_change (x : Nat) (hx : x < 4294967296) (l r : List Nat) (b c : Nat) (hl : ∀ y ∈ l, y < 256) (hr : ∀ y ∈ r, y < 256) (hb : b < 256) (hc : c < 256) (hne : b ≠ c) :
    reg x (l ++ b :: r) ≠ reg x (l ++ c :: r) := by
  intro h
  rw [reg_append, reg_append] at h
  have hz := reg_lt l hx hl
  have h1 := reg_inj r (byte_lt hz hb) (byte_lt hz hc) hr h
  have h2 := Tn_inj 8 (Nat.xor_lt_two_pow (n := 32) hz (by omega)) (Nat.xor_lt_two_pow (n := 32) hz (by omega)) h1
  apply hne
  have : reg x l ^^^ (reg x l ^^^ b) = reg x l ^^^ (reg x l ^^^ c) := by rw [h2]
  rw [← Nat.xor_assoc, ← Nat.xor_assoc] at this; simpa using this
theorem sum_lt (l : List Nat) (h : ∀ b ∈ l, b < 256) : sum l < 4294967296 := Nat.xor_lt_two_pow (n := 32) (by decide) (reg_lt l (by decide) h)
theorem sum_change (l r : List Nat) (b c : Nat) (hl : ∀ y ∈ l, y < 256) (hr : ∀ y ∈ r, y < 256) (hb : b < 256) (hc : c < 256) (hne : b ≠ c) : sum (l ++ b :: r) ≠ sum (l ++ c :: r) := by
  intro h
  refine reg_change 4294967295 (by decide) l r b c hl hr hb hc hne ?_
  have : 4294967295 ^^^ sum (l ++ b :: r) = 4294967295 ^^^ sum (l ++ c :: r) := by rw [h]
  unfold sum at this
  rw [← Nat.xor_assoc, ← Nat.xor_assoc] at this; simpa using this
/-- The reference's bits: after k bits the register y, with y ^^^ b / 2^k = Tn k (x ^^^ b). -/
theorem bit_step {y b z : Nat} (k : Nat) (h : y ^^^ b / 2 ^ k = Tn k z) :
    T (y ^^^ b / 2 ^ k % 2) ^^^ b / 2 ^ (k + 1) = Tn (k + 1) z := by
  have e : b / 2 ^ k = b / 2 ^ k % 2 ^^^ 2 * (b / 2 ^ (k + 1)) := by
    generalize hq : b / 2 ^ k = q
    have hq2 : b / 2 ^ (k + 1) = q / 2 := by rw [Nat.pow_succ, ← Nat.div_div_eq_div_mul, hq]
    rw [hq2]
    have h2 := Nat.shiftLeft_add_eq_or_of_lt (a := q / 2) (b := q % 2) (i := 1) (by omega)
    have h3 : (q / 2) <<< 1 ||| q % 2 = (q / 2) <<< 1 ^^^ q % 2 := by
      apply Nat.eq_of_testBit_eq
      intro i
      simp only [Nat.testBit_or, Nat.testBit_xor, Nat.testBit_shiftLeft]
      by_cases hi : 1 ≤ i
      · have : (q % 2).testBit i = false := Nat.testBit_lt_two_pow (Nat.lt_of_lt_of_le (Nat.mod_lt _ (by decide)) (Nat.pow_le_pow_right (n := 2) (by decide) hi))
        simp [this]
      · simp [hi]
    have h4 : (q / 2) <<< 1 = 2 * (q / 2) := by rw [Nat.shiftLeft_eq]; omega
    rw [Nat.xor_comm, ← h4, ← h3, ← h2, h4]; omega
  simp only [Tn]
  rw [← h]
  conv => rhs; rw [e]
  rw [← Nat.xor_assoc, T_lin _ (2 * _), T_two]
theorem bit_end {y b x : Nat} (hb : b < 256) (h : y ^^^ b / 2 ^ 8 = Tn 8 (x ^^^ b)) : y = byte x b := by
  have : b / 2 ^ 8 = 0 := by omega
  rw [this] at h; simpa [byte] using h
end Crc
end Go.Proofs.Ytcppmmdkblmfoaa
