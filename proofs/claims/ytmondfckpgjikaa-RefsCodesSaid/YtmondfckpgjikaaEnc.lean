/- Plain: the encoding of numbers and tables, and that it determines what it encodes. No program is named. -/
import Derived.Test.YtmondfckpgjikaaPlain
namespace Go.Proofs.Ytmondfckpgjikaa
def vput (n : Nat) : List UInt8 := if h : n < 128 then [UInt8.ofNat n] else UInt8.ofNat (n % 128 + 128) :: vput (n / 128)
theorem vput_lt {n : Nat} (h : n < 128) : vput n = [UInt8.ofNat n] := by rw [vput, dif_pos h]
theorem vput_ge {n : Nat} (h : ¬ n < 128) : vput n = UInt8.ofNat (n % 128 + 128) :: vput (n / 128) := by rw [vput, dif_neg h]
theorem vput_len : ∀ (k n : Nat), n < 128 ^ (k + 1) → (vput n).length ≤ k + 1
  | 0, n, h => by rw [vput_lt (by omega)]; simp
  | k + 1, n, h => by
    by_cases hn : n < 128
    · rw [vput_lt hn]; simp
    · rw [vput_ge hn]
      have := vput_len k (n / 128) (by rw [Nat.pow_succ] at h; exact Nat.div_lt_of_lt_mul (by rw [Nat.mul_comm]; exact h))
      simp; omega
theorem vput_le {n : Nat} (h : n < 18446744073709551616) : (vput n).length ≤ 10 := vput_len 9 n (by omega)
theorem ofNat_inj {a b : Nat} (ha : a < 256) (hb : b < 256) (h : UInt8.ofNat a = UInt8.ofNat b) : a = b := by
  have := congrArg UInt8.toNat h
  rwa [UInt8.toNat_ofNat', UInt8.toNat_ofNat', Nat.mod_eq_of_lt (by omega), Nat.mod_eq_of_lt (by omega)] at this
/-- An encoded number in front tells the number, and what follows it. -/
theorem vput_inj (n : Nat) : ∀ (m : Nat) (a b : List UInt8), vput n ++ a = vput m ++ b → n = m ∧ a = b := by
  induction n using Nat.strongRecOn with
  | ind n ih =>
    intro m a b h
    by_cases hn : n < 128
    · by_cases hm : m < 128
      · rw [vput_lt hn, vput_lt hm] at h
        simp only [List.singleton_append, List.cons.injEq] at h
        exact ⟨ofNat_inj (by omega) (by omega) h.1, h.2⟩
      · rw [vput_lt hn, vput_ge hm] at h
        simp only [List.cons_append, List.cons.injEq] at h
        have := ofNat_inj (by omega) (by omega) h.1
        omega
    · by_cases hm : m < 128
      · rw [vput_ge hn, vput_lt hm] at h
        simp only [List.cons_append, List.cons.injEq] at h
        have := ofNat_inj (by omega) (by omega) h.1
        omega
      · rw [vput_ge hn, vput_ge hm] at h
        simp only [List.cons_append, List.cons.injEq] at h
        have h1 := ofNat_inj (by omega) (by omega) h.1
        obtain ⟨h2, h3⟩ := ih (n / 128) (by omega) (m / 128) a b h.2
        exact ⟨by omega, h3⟩
def kindB (t : Bool) : UInt8 := if t then 1 else 0
def encR (r : Row) : List UInt8 := vput r.name.length ++ r.name ++ kindB r.tag :: vput r.n.toNat
def encT (l : List Row) : List UInt8 := vput l.length ++ l.flatMap encR
theorem encR_inj {r s : Row} {a b : List UInt8} (hr : 0 ≤ r.n) (hs : 0 ≤ s.n) (h : encR r ++ a = encR s ++ b) : r = s ∧ a = b := by
  unfold encR at h
  simp only [List.append_assoc, List.cons_append] at h
  obtain ⟨h1, h2⟩ := vput_inj _ _ _ _ h
  obtain ⟨h3, h4⟩ := List.append_inj h2 h1
  simp only [List.cons.injEq] at h4
  obtain ⟨h5, h6⟩ := h4
  obtain ⟨h7, h8⟩ := vput_inj _ _ _ _ h6
  obtain ⟨rn, rx, rt⟩ := r
  obtain ⟨sn, sx, st⟩ := s
  simp only at *
  have ht : rt = st := by cases rt <;> cases st <;> simp [kindB] at h5 ⊢
  have hn : rx = sx := by omega
  subst h3 ht hn
  exact ⟨rfl, h8⟩
theorem rows_inj : ∀ (l m : List Row) (a b : List UInt8), l.length = m.length → (∀ r ∈ l, 0 ≤ r.n) → (∀ r ∈ m, 0 ≤ r.n) → l.flatMap encR ++ a = m.flatMap encR ++ b → l = m ∧ a = b
  | [], [], a, b, _, _, _, h => ⟨rfl, by simpa using h⟩
  | [], _ :: _, _, _, h, _, _, _ => by simp at h
  | _ :: _, [], _, _, h, _, _, _ => by simp at h
  | r :: l, s :: m, a, b, hl, h1, h2, h => by
    simp only [List.flatMap_cons, List.append_assoc] at h
    obtain ⟨h3, h4⟩ := encR_inj (h1 r (by simp)) (h2 s (by simp)) h
    obtain ⟨h5, h6⟩ := rows_inj l m a b (by simpa using hl) (fun r hr => h1 r (by simp [hr])) (fun r hr => h2 r (by simp [hr])) h4
    exact ⟨by rw [h3, h5], h6⟩
theorem encT_inj {l m : List Row} (h1 : ∀ r ∈ l, 0 ≤ r.n) (h2 : ∀ r ∈ m, 0 ≤ r.n) (h : encT l = encT m) : l = m := by
  unfold encT at h
  obtain ⟨h3, h4⟩ := vput_inj _ _ _ _ h
  exact (rows_inj l m [] [] h3 h1 h2 (by simpa using h4)).1
end Go.Proofs.Ytmondfckpgjikaa
