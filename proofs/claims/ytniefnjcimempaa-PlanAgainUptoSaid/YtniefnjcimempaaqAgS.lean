/- Plain laws: the sizes that Tree reckons are those of the trees; k times t ++ t. -/
import Derived.Test.YtniefnjcimempaaqRn
import Derived.Test.YtniefnjcimempaaqTreeW
namespace Go.Proofs.Ytniefnjcimempaa
open Go.RowKit
theorem sizes_ok {l : List St} (hc : checkR l = 0) : ∀ k, k ≤ l.length → ∀ i, i < k → (zk l k).getD i 0 = min ((growR l i).size : Int) 4097
  | 0, _, i, hi => by omega
  | k + 1, hk, i, hi => by
    have hs : l[k]? = some l[k] := List.getElem?_eq_getElem hk
    obtain ⟨o, F⟩ := stepE_zero ((checkR_zero hc).2.2 k _ hs)
    have ih := sizes_ok hc k (by omega)
    have hlen := zk_length (l := l) (k := k) (by omega)
    rw [zk_succ hs, List.getD_eq_getElem?_getD]
    by_cases hik : i < k
    · rw [List.getElem?_append_left (by omega), ← List.getD_eq_getElem?_getD]
      exact ih i hik
    · have hik : i = k := by omega
      subst hik
      rw [List.getElem?_append_right (by omega), hlen, Nat.sub_self]
      show min (baseN l[i].op + sumAt (zk l i) l[i].args) 4097 = _
      rw [growR_eq (checkR_back hc) hs, nodeR_size F.op (by rw [List.length_map]; exact F.len)]
      exact (cap_sum (zk l i) (fun a => growR l a.toNat) (baseN l[i].op) (by have := baseN_bd l[i].op; omega) l[i].args (fun a ha => by
        have := F.back a ha
        exact ih a.toNat (by omega))).1
theorem sizesR_ok {l : List St} (hc : checkR l = 0) (i : Nat) (hi : i < l.length) : (sizesR l).getD i 0 = min ((growR l i).size : Int) 4097 := by
  rw [← zk_all]
  exact sizes_ok hc l.length (Nat.le_refl _) i hi
/-- The plan of k times t ++ t. -/
def largeL : Nat → List St
  | 0 => [⟨nRef, [], 0, [116], 3⟩]
  | k + 1 => largeL k ++ [⟨[43, 43], [(k : Int), (k : Int)], 0, [], 3⟩]
theorem largeL_length : ∀ k, (largeL k).length = k + 1
  | 0 => rfl
  | k + 1 => by rw [largeL, List.length_append, largeL_length k]; rfl
theorem largeL_get : ∀ (k i : Nat), i ≤ k → (largeL k)[i]? = some (if i = 0 then ⟨nRef, [], 0, [116], 3⟩ else ⟨[43, 43], [(i : Int) - 1, (i : Int) - 1], 0, [], 3⟩)
  | 0, i, hi => by
    have : i = 0 := by omega
    subst this
    rfl
  | k + 1, i, hi => by
    rw [largeL]
    by_cases h : i ≤ k
    · rw [List.getElem?_append_left (by rw [largeL_length]; omega)]
      exact largeL_get k i h
    · have : i = k + 1 := by omega
      subst this
      rw [List.getElem?_append_right (by rw [largeL_length]; omega), largeL_length, Nat.sub_self, if_neg (by omega)]
      show some _ = some _
      rw [show ((k + 1 : Nat) : Int) - 1 = (k : Int) by omega]
theorem largeL_ty (k : Nat) (a : Nat) (ha : a ≤ k) : tyAt (largeL k) (a : Int) = 3 := by
  unfold tyAt
  rw [Int.toNat_natCast, largeL_get k a ha]
  dsimp only
  split <;> rfl
theorem largeL_ok {k : Nat} (hk : k ≤ 4000) : checkR (largeL k) = 0 := by
  have hl := largeL_length k
  unfold checkR
  rw [if_neg (by omega)]
  refine (checkF_zero _ _).2 (fun j s hs => ?_)
  have hj := (List.getElem?_eq_some_iff.1 hs).1
  rw [largeL_get k j (by omega)] at hs
  injection hs with hs
  rw [Nat.zero_add]
  by_cases h0 : j = 0
  · subst h0
    rw [if_pos rfl] at hs
    subst hs
    unfold stepE
    rw [show opR (St.mk nRef [] 0 [116] 3).op = some ⟨[], 3, true, false⟩ from by show opR nRef = _; unfold opR; rw [if_neg (by decide), if_pos (.inr rfl)]]
    dsimp only
    rw [if_neg (by simp), if_neg (by simp), if_neg (by simp), if_neg, if_neg (by simp)]
    unfold typedR
    simp [isCmpT, nRef]
  · rw [if_neg h0] at hs
    subst hs
    obtain ⟨m, rfl⟩ : ∃ m, j = m + 1 := ⟨j - 1, by omega⟩
    have ht := largeL_ty k m (by omega)
    rw [show ((m + 1 : Nat) : Int) - 1 = (m : Int) by omega]
    unfold stepE
    rw [show opR (St.mk [43, 43] [(m : Int), (m : Int)] 0 [] 3).op = some ⟨[3, 3], 3, false, false⟩ from by show opR [43, 43] = _; rw [sig_op (q := ([3, 3], 3)) (by kernel_rfl)]; rfl]
    dsimp only
    rw [if_neg (by simp), if_neg (by simp; omega), if_neg (by simp), if_neg, if_neg (by simp)]
    unfold typedR
    rw [if_neg (show ¬ isCmpT [43, 43] = true by decide)]
    simp [ht]
theorem largeL_size {k : Nat} (hk : k ≤ 4000) : ∀ i, i ≤ k → ((growR (largeL k) i).size : Int) + 1 = 2 ^ (i + 1)
  | 0, _ => by
    have hs := largeL_get k 0 (Nat.zero_le _)
    rw [growR_eq (checkR_back (largeL_ok hk)) hs]
    rfl
  | i + 1, hi => by
    have hs := largeL_get k (i + 1) hi
    rw [if_neg (by omega), show ((i + 1 : Nat) : Int) - 1 = (i : Int) by omega] at hs
    have ih := largeL_size hk i (by omega)
    rw [growR_eq (checkR_back (largeL_ok hk)) hs, nodeR_size (o := ⟨[3, 3], 3, false, false⟩) (by show opR [43, 43] = _; rw [sig_op (q := ([3, 3], 3)) (by kernel_rfl)]; rfl) rfl]
    show (baseN [43, 43] + sumZ [growR (largeL k) (i : Int).toNat, growR (largeL k) (i : Int).toNat]) + 1 = _
    rw [sumZ_cons, sumZ_cons, sumZ_nil, Int.toNat_natCast, show baseN [43, 43] = 1 by decide, Int.pow_succ]
    omega
theorem large_small {k : Nat} (hk : k ≤ 11) : ((growR (largeL k) k).size : Int) ≤ 4095 := by
  have h := largeL_size (k := k) (by omega) k (Nat.le_refl _)
  have : (2 : Int) ^ (k + 1) ≤ 2 ^ 12 := by
    have := Nat.pow_le_pow_right (n := 2) (by decide) (show k + 1 ≤ 12 by omega)
    exact_mod_cast this
  have : (2 : Int) ^ 12 = 4096 := by decide
  omega
theorem large_large {k : Nat} (hk : 11 < k) (hk2 : k ≤ 4000) : 4097 ≤ ((growR (largeL k) k).size : Int) := by
  have h := largeL_size hk2 k (Nat.le_refl _)
  have : (2 : Int) ^ 13 ≤ 2 ^ (k + 1) := by
    have := Nat.pow_le_pow_right (n := 2) (by decide) (show 13 ≤ k + 1 by omega)
    exact_mod_cast this
  have : (2 : Int) ^ 13 = 8192 := by decide
  omega
end Go.Proofs.Ytniefnjcimempaa
