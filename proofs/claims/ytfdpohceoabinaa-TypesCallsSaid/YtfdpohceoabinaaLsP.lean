/- Plain: the inside of a class, place by place; slices of a string. -/
import Derived.Test.YtfdpohceoabinaaElem2
import Derived.Test.YtfdpohceoabinaaLet2
namespace Go.Proofs.Ytfdpohceoabinaa
open Go.RowKit
theorem elemP_pos {l : List UInt8} {b : UInt8} {u : Nat} (h : elemP l = some (b, u)) : 1 ≤ u ∧ u ≤ l.length := by
  rcases l with _ | ⟨c, t⟩
  · cases h
  rw [elemP_cons] at h
  split at h
  · cases h
  split at h
  · injection h with h; injection h with h1 h2; subst h2; simp
  split at h
  · cases h
  · rename_i x k e
    have := escP_pos e
    injection h with h; injection h with h1 h2; omega
theorem lsP_step (t : List UInt8) (f k : Nat) (S : LS) (hk : k < t.length) : lsP (f + 1) (t.drop k) S = match elemP (t.drop k) with
    | none => none
    | some (lo, u) => if t[k + u]? = some 45 then (match elemP (t.drop (k + u + 1)) with
        | none => none
        | some (hi, u') => if hi < lo then none else lsP f (t.drop (k + u + 1 + u')) (orS S (spanS lo.toNat hi.toNat)))
      else lsP f (t.drop (k + u)) (orS S (spanS lo.toNat lo.toNat)) := by
  have hd : t.drop k = t[k] :: t.drop (k + 1) := by rw [List.drop_eq_getElem_cons hk]
  have h0 : lsP (f + 1) (t.drop k) S = match elemP (t.drop k) with
      | none => none
      | some (lo, u) => match (t.drop k).drop u with
        | 45 :: t' => match elemP t' with
          | none => none
          | some (hi, u') => if hi < lo then none else lsP f (t'.drop u') (orS S (spanS lo.toNat hi.toNat))
        | t' => lsP f t' (orS S (spanS lo.toNat lo.toNat)) := by
    rw [hd]
    rfl
  rw [h0]
  rcases elemP (t.drop k) with _ | ⟨lo, u⟩
  · rfl
  simp only
  rw [List.drop_drop]
  rcases hc : t[k + u]? with _ | c
  · have : t.drop (k + u) = [] := by
      have := List.getElem?_eq_none_iff.1 hc
      rw [List.drop_eq_nil_iff]; omega
    rw [this]
    rw [if_neg (by simp)]
  · have hl := at_lt hc
    have hg : t[k + u] = c := by rw [List.getElem?_eq_getElem hl] at hc; injection hc
    have hd2 : t.drop (k + u) = c :: t.drop (k + u + 1) := by rw [List.drop_eq_getElem_cons hl, hg]
    by_cases h45 : c = 45
    · subst h45
      rw [if_pos rfl, hd2]
      simp only
      rcases elemP (t.drop (k + u + 1)) with _ | ⟨hi, u'⟩
      · rfl
      simp only [List.drop_drop]
    · rw [if_neg (by simpa using h45), hd2]
      split
      · rename_i t' he
        injection he with he _
        exact absurd he h45
      · rfl
theorem lsP_end (t : List UInt8) (f k : Nat) (S : LS) (hk : t.length ≤ k) : lsP (f + 1) (t.drop k) S = some S := by
  rw [List.drop_eq_nil_iff.2 hk]
  rfl
theorem sliceT (t : List UInt8) (k : Nat) (hk : k ≤ t.length) (w : World) : (Instr.slice 9 (.string ⟨t.toArray⟩) (some (.int .i64 k)) none none).run Try.prog w = .ok (.string ⟨(t.drop k).toArray⟩) w := by
  have hs : (ByteArray.mk t.toArray).size = t.length := by simp [ByteArray.size]
  have e : (ByteArray.mk t.toArray).extract k t.length = ⟨(t.drop k).toArray⟩ := by
    rw [ByteArray.extract_mk]
    congr 2
    exact List.take_of_length_le (by simp)
  have hi : 0 ≤ (k : Int) ∧ (k : Int) ≤ ((t.length : Nat) : Int) := ⟨by omega, by omega⟩
  simp [Instr.slice, Instr.sliceBounds, Instr.sliceBound, asIntOf, run_underlying Try.underlying9, hs, hi, e]
  intro hc
  omega
theorem sliceT2 (t : List UInt8) (i j : Nat) (hi : i ≤ j) (hj : j ≤ t.length) (w : World) : (Instr.slice 9 (.string ⟨t.toArray⟩) (some (.int .i64 i)) (some (.int .i64 j)) none).run Try.prog w = .ok (.string ⟨((t.drop i).take (j - i)).toArray⟩) w := by
  have hs : (ByteArray.mk t.toArray).size = t.length := by simp [ByteArray.size]
  rw [run_slice_string _ _ _ _ _ _ _ Try.underlying9 (by omega) (by omega) (by omega), ← ByteArray.extract_mk]
  rfl
end Go.Proofs.Ytfdpohceoabinaa
