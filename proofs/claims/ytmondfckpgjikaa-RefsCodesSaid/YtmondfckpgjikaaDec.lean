/- Plain: decoding numbers and tables; what it answers at an encoding, at one with a byte more, and at one with a byte less. No program is named. -/
import Derived.Test.YtmondfckpgjikaaEnc
namespace Go.Proofs.Ytmondfckpgjikaa
/-- A number at the beginning, and how many bytes it has: from byte i on, acc being what was read. -/
def vtk (i acc : Nat) : List UInt8 → Option (Nat × Nat)
  | [] => none
  | x :: t => if i = 9 ∧ 1 < x.toNat then none else
      if x.toNat < 128 then (if x.toNat = 0 ∧ 0 < i then none else some (acc + x.toNat % 128 * 128 ^ i, i + 1)) else vtk (i + 1) (acc + x.toNat % 128 * 128 ^ i) t
theorem pow9 : (128 : Nat) ^ 9 = 9223372036854775808 := by decide
theorem vtk_put (n : Nat) : ∀ (i acc : Nat) (r : List UInt8), i ≤ 9 → (0 < i → 0 < n) → n * 128 ^ i < 18446744073709551616 → vtk i acc (vput n ++ r) = some (acc + n * 128 ^ i, i + (vput n).length) := by
  induction n using Nat.strongRecOn with
  | ind n ih =>
    intro i acc r hi hp hn
    by_cases h : n < 128
    · have e : (UInt8.ofNat n).toNat = n := by rw [UInt8.toNat_ofNat', Nat.mod_eq_of_lt (by omega)]
      rw [vput_lt h, List.singleton_append]
      unfold vtk
      rw [e, if_neg, if_pos h, if_neg, Nat.mod_eq_of_lt h]
      · rfl
      · rintro ⟨h1, h2⟩; have := hp h2; omega
      · rintro ⟨rfl, h2⟩
        rw [pow9] at hn
        omega
    · have e : (UInt8.ofNat (n % 128 + 128)).toNat = n % 128 + 128 := by rw [UInt8.toNat_ofNat', Nat.mod_eq_of_lt (by omega)]
      have hi9 : i ≠ 9 := by
        rintro rfl
        rw [pow9] at hn
        omega
      have e2 : (n % 128 + 128) % 128 = n % 128 := by omega
      have e3 : n % 128 * 128 ^ i + n / 128 * 128 ^ (i + 1) = n * 128 ^ i := by
        rw [Nat.pow_succ, Nat.mul_comm (128 ^ i) 128, ← Nat.mul_assoc, ← Nat.add_mul]
        congr 1
        omega
      rw [vput_ge h, List.cons_append]
      rw [vtk, e, if_neg (by omega), if_neg (by omega), e2, ih (n / 128) (by omega) (i + 1) _ r (by omega) (by omega) (by
        have : n / 128 * 128 ^ (i + 1) ≤ n * 128 ^ i := by omega
        omega)]
      rw [Nat.add_assoc, e3]
      simp
      omega
theorem vtk_cut (n : Nat) : ∀ (i acc : Nat), vtk i acc (vput n).dropLast = none := by
  induction n using Nat.strongRecOn with
  | ind n ih =>
    intro i acc
    by_cases h : n < 128
    · rw [vput_lt h]
      rfl
    · have e : (UInt8.ofNat (n % 128 + 128)).toNat = n % 128 + 128 := by rw [UInt8.toNat_ofNat', Nat.mod_eq_of_lt (by omega)]
      have hne : vput (n / 128) ≠ [] := by
        by_cases h2 : n / 128 < 128
        · rw [vput_lt h2]; simp
        · rw [vput_ge h2]; simp
      rw [vput_ge h, List.dropLast_cons_of_ne_nil hne, vtk, e]
      split
      · rfl
      · rw [if_neg (by omega)]
        exact ih (n / 128) (by omega) _ _
theorem vtk_le : ∀ (l : List UInt8) (i acc m u : Nat), i ≤ 9 → acc < 128 ^ i → vtk i acc l = some (m, u) → m < 18446744073709551616 ∧ u ≤ i + l.length ∧ 1 ≤ u
  | [], _, _, _, _, _, _, h => by cases h
  | x :: t, i, acc, m, u, hi, ha, h => by
    have hx : x.toNat < 256 := UInt8.toNat_lt x
    have hpow : (128 : Nat) ^ i ≤ 9223372036854775808 := by
      rw [← pow9]; exact Nat.pow_le_pow_right (by decide) hi
    rw [vtk] at h
    split at h
    · cases h
    · rename_i h9
      split at h
      · split at h
        · cases h
        · injection h with h
          injection h with h1 h2
          refine ⟨?_, by simp; omega, by omega⟩
          by_cases h91 : i = 9
          · subst h91
            have : x.toNat % 128 ≤ 1 := by omega
            have := Nat.mul_le_mul_right (128 ^ 9) this
            omega
          · have hp2 : (128 : Nat) ^ (i + 1) ≤ 9223372036854775808 := by
              rw [← pow9]; exact Nat.pow_le_pow_right (by decide) (by omega)
            have : x.toNat % 128 * 128 ^ i ≤ 127 * 128 ^ i := Nat.mul_le_mul_right _ (by omega)
            rw [Nat.pow_succ] at hp2
            omega
      · rename_i h128
        have h91 : i ≠ 9 := by rintro rfl; exact h9 ⟨rfl, by omega⟩
        have h3 : x.toNat % 128 * 128 ^ i ≤ 127 * 128 ^ i := Nat.mul_le_mul_right _ (by omega)
        have := vtk_le t (i + 1) _ m u (by omega) (by rw [Nat.pow_succ]; omega) h
        refine ⟨this.1, by simp; omega, this.2.2⟩
/-- Take: the rows that bytes encode. -/
def dec : Nat → List UInt8 → List UInt8 → List Row → Option (List Row)
  | 0, _, b, acc => if b = [] then some acc else none
  | c + 1, before, b, acc => match vtk 0 0 b with
    | none => none
    | some (n, u) => if 32 < n then none else if b.length - u < n then none else
        if validB ((b.drop u).take n) = false ∨ bytesBefore before ((b.drop u).take n) = false then none else
        match b.drop (u + n) with
        | [] => none
        | k :: t => if 1 < k.toNat then none else match vtk 0 0 t with
          | none => none
          | some (m, u2) => if 9223372036854775807 < m then none else dec c ((b.drop u).take n) (t.drop u2) (putR ⟨(b.drop u).take n, m, k.toNat == 1⟩ acc)
def take (b : List UInt8) : Option (List Row) := match vtk 0 0 b with
  | none => none
  | some (n, u) => dec n [] (b.drop u) []
theorem putR_last (x : Row) : ∀ l : List Row, (∀ r ∈ l, bytesBefore r.name x.name = true) → putR x l = l ++ [x]
  | [], _ => rfl
  | y :: t, h => by
    have hy := h y (by simp)
    have hne : y.name ≠ x.name := fun e => by rw [e, WideAt.bytes_irrefl] at hy; cases hy
    have hb : ¬ bytesBefore x.name y.name = true := fun hb => by
      have := WideShapes.bytes_trans _ _ _ hb hy
      rw [WideAt.bytes_irrefl] at this
      cases this
    rw [putR, if_neg hne, if_neg hb, putR_last x t (fun r hr => h r (by simp [hr]))]
    rfl
theorem valid_len {l : List UInt8} (h : validB l = true) : 1 ≤ l.length ∧ l.length ≤ 32 := by
  unfold validB at h
  simp only [Bool.and_eq_true, decide_eq_true_eq] at h
  exact ⟨h.1.1, h.1.2⟩
theorem before_nil {l : List UInt8} (h : 1 ≤ l.length) : bytesBefore [] l = true := by
  cases l with
  | nil => simp at h
  | cons x t => rfl
/-- One row: the decoder goes on behind it. -/
theorem dec_row (c : Nat) (before : List UInt8) (r : Row) (b : List UInt8) (acc : List Row) (hv : validB r.name = true) (hn : 0 ≤ r.n ∧ r.n ≤ 9223372036854775807) (hb : bytesBefore before r.name = true) :
    dec (c + 1) before (encR r ++ b) acc = dec c r.name b (putR r acc) := by
  obtain ⟨h1, h2⟩ := valid_len hv
  have e1 : encR r ++ b = vput r.name.length ++ (r.name ++ (kindB r.tag :: (vput r.n.toNat ++ b))) := by simp [encR]
  have v1 := vtk_put r.name.length 0 0 (r.name ++ (kindB r.tag :: (vput r.n.toNat ++ b))) (by omega) (by omega) (by omega)
  have v2 := vtk_put r.n.toNat 0 0 b (by omega) (by omega) (by omega)
  simp only [Nat.pow_zero, Nat.mul_one, Nat.zero_add] at v1 v2
  rw [dec, e1, v1]
  have d1 : (vput r.name.length ++ (r.name ++ (kindB r.tag :: (vput r.n.toNat ++ b)))).drop (vput r.name.length).length = r.name ++ (kindB r.tag :: (vput r.n.toNat ++ b)) := List.drop_left
  have d2 : (r.name ++ (kindB r.tag :: (vput r.n.toNat ++ b))).take r.name.length = r.name := List.take_left
  have d3 : (vput r.name.length ++ (r.name ++ (kindB r.tag :: (vput r.n.toNat ++ b)))).drop ((vput r.name.length).length + r.name.length) = kindB r.tag :: (vput r.n.toNat ++ b) := by
    rw [← List.drop_drop, d1, List.drop_left]
  simp only
  rw [d1, d2, d3, if_neg (by omega), if_neg (by simp), if_neg (by rw [hv, hb]; simp)]
  simp only
  rw [if_neg (by cases r.tag <;> simp [kindB]), v2]
  simp only
  rw [if_neg (by omega), List.drop_left]
  congr 2
  obtain ⟨rn, rx, rt⟩ := r
  simp only at hn ⊢
  congr 1
  · omega
  · cases rt <;> rfl
/-- All rows. -/
theorem dec_rows (tail : List UInt8) : ∀ (l : List Row) (c : Nat) (before : List UInt8) (acc : List Row), (∀ r ∈ l, validB r.name = true) → (∀ r ∈ l, 0 ≤ r.n ∧ r.n ≤ 9223372036854775807) → Rising l →
    (∀ r ∈ l, bytesBefore before r.name = true) → (∀ q ∈ acc, ∀ r ∈ l, bytesBefore q.name r.name = true) → dec (l.length + c) before (l.flatMap encR ++ tail) acc = dec c ((l.getLast?.map (·.name)).getD before) tail (acc ++ l)
  | [], c, before, acc, _, _, _, _, _ => by simp
  | r :: l, c, before, acc, hv, hn, hR, hb, ha => by
    obtain ⟨h1, h2⟩ := List.pairwise_cons.1 hR
    have e : (r :: l).flatMap encR ++ tail = encR r ++ (l.flatMap encR ++ tail) := by simp
    have el : (r :: l).length + c = (l.length + c) + 1 := by simp; omega
    rw [e, el, dec_row _ before r _ acc (hv r (by simp)) (hn r (by simp)) (hb r (by simp)), putR_last r acc (fun q hq => ha q hq r (by simp)),
      dec_rows tail l c r.name (acc ++ [r]) (fun q hq => hv q (by simp [hq])) (fun q hq => hn q (by simp [hq])) h2 h1 (fun q hq s hs => by
        rw [List.mem_append] at hq
        rcases hq with hq | hq
        · exact ha q hq s (by simp [hs])
        · simp at hq; subst hq; exact h1 s hs)]
    cases l with
    | nil => simp
    | cons x t =>
      rw [List.getLast?_cons_cons]
      cases h : (x :: t).getLast? with
      | none => simp at h
      | some y => simp
theorem take_enc (l : List Row) (hv : ∀ r ∈ l, validB r.name = true) (hn : ∀ r ∈ l, 0 ≤ r.n ∧ r.n ≤ 9223372036854775807) (hR : Rising l) (hl : l.length < 1000000) (tail : List UInt8) :
    take (encT l ++ tail) = if tail = [] then some l else none := by
  have v1 := vtk_put l.length 0 0 (l.flatMap encR ++ tail) (by omega) (by omega) (by omega)
  simp only [Nat.pow_zero, Nat.mul_one, Nat.zero_add] at v1
  have e : encT l ++ tail = vput l.length ++ (l.flatMap encR ++ tail) := by simp [encT]
  unfold take
  rw [e, v1]
  simp only
  rw [List.drop_left]
  have := dec_rows tail l 0 [] [] hv hn hR (fun r hr => before_nil (valid_len (hv r hr)).1) (fun q hq => by cases hq)
  rw [Nat.add_zero] at this
  rw [this, dec]
  simp
theorem take_cut (l : List Row) (hv : ∀ r ∈ l, validB r.name = true) (hn : ∀ r ∈ l, 0 ≤ r.n ∧ r.n ≤ 9223372036854775807) (hR : Rising l) (hl : l.length < 1000000) :
    take (encT l).dropLast = none := by
  rcases List.eq_nil_or_concat l with rfl | ⟨m, r, rfl⟩
  · rw [show encT [] = [0] by unfold encT; rw [List.length_nil, vput_lt (by decide)]; rfl]
    rfl
  · have hne : vput r.n.toNat ≠ [] := by
      by_cases h2 : r.n.toNat < 128
      · rw [vput_lt h2]; simp
      · rw [vput_ge h2]; simp
    have e : (encT (m.concat r)).dropLast = vput (m.length + 1) ++ (m.flatMap encR ++ (vput r.name.length ++ (r.name ++ (kindB r.tag :: (vput r.n.toNat).dropLast)))) := by
      have : encT (m.concat r) = (vput (m.length + 1) ++ (m.flatMap encR ++ (vput r.name.length ++ (r.name ++ [kindB r.tag])))) ++ vput r.n.toNat := by
        simp [encT, encR]
      rw [this, List.dropLast_append_of_ne_nil hne]
      simp
    have hl2 : m.length + 1 < 1000000 := by simpa using hl
    have v1 := vtk_put (m.length + 1) 0 0 (m.flatMap encR ++ (vput r.name.length ++ (r.name ++ (kindB r.tag :: (vput r.n.toNat).dropLast)))) (by omega) (by omega) (by omega)
    simp only [Nat.pow_zero, Nat.mul_one, Nat.zero_add] at v1
    rw [List.concat_eq_append] at hv hn hR
    have hvr := hv r (by simp)
    obtain ⟨h1, h2⟩ := valid_len hvr
    have hRm := List.pairwise_append.1 hR
    unfold take
    rw [e, v1]
    simp only
    rw [List.drop_left, dec_rows _ m 1 [] [] (fun q hq => hv q (by simp [hq])) (fun q hq => hn q (by simp [hq])) hRm.1 (fun q hq => before_nil (valid_len (hv q (by simp [hq]))).1) (fun q hq => by cases hq)]
    have v2 := vtk_put r.name.length 0 0 (r.name ++ (kindB r.tag :: (vput r.n.toNat).dropLast)) (by omega) (by omega) (by omega)
    simp only [Nat.pow_zero, Nat.mul_one, Nat.zero_add] at v2
    rw [dec, v2]
    have d1 : (vput r.name.length ++ (r.name ++ (kindB r.tag :: (vput r.n.toNat).dropLast))).drop ((vput r.name.length).length + r.name.length) = kindB r.tag :: (vput r.n.toNat).dropLast := by
      rw [← List.drop_drop, List.drop_left, List.drop_left]
    simp only
    rw [d1]
    simp only [vtk_cut]
    repeat' split
    all_goals rfl
end Go.Proofs.Ytmondfckpgjikaa
