/- Plain: the commit numbers of a table, increasing, each once: inserted one by one, or sorted and compacted. No program is named. -/
import Derived.Test.YtmondfckpgjikaaPlain
import Derived.Lib.RowBridge
namespace Go.Proofs.Ytmondfckpgjikaa
open Go.Lib
def leI : Int → Int → Bool := fun x y => decide (x ≤ y)
def posI (x : Int) : List Int → Nat
  | [] => 0
  | y :: t => if y < x then posI x t + 1 else 0
def insI (x : Int) (out : List Int) : List Int := if out[posI x out]? = some x then out else out.take (posI x out) ++ x :: out.drop (posI x out)
def refT (l : List Row) : List Int := l.foldl (fun o r => insI r.n o) []
def tgts (l : List Row) : List Int := compact ((l.map (·.n)).mergeSort leI)
theorem posI_le (x : Int) : ∀ out : List Int, posI x out ≤ out.length
  | [] => Nat.le_refl _
  | y :: t => by simp only [posI]; split <;> simp; exact posI_le x t
theorem posI_lt (x : Int) : ∀ (out : List Int) (j : Nat) (hj : j < out.length), j < posI x out → out[j] < x
  | y :: t, 0, _, h => by
    simp only [posI] at h
    split at h
    · assumption
    · omega
  | y :: t, j + 1, hj, h => by
    simp only [posI] at h
    split at h
    · exact posI_lt x t j (by simpa using hj) (by omega)
    · omega
theorem posI_ge (x : Int) : ∀ (out : List Int) (hj : posI x out < out.length), ¬ out[posI x out] < x
  | y :: t, hj => by
    by_cases h : y < x
    · have e : posI x (y :: t) = posI x t + 1 := by simp [posI, h]
      have := posI_ge x t (by rw [e] at hj; simpa using hj)
      simpa [e] using this
    · have e : posI x (y :: t) = 0 := by simp [posI, h]
      simpa [e] using h
theorem posI_at {x : Int} {out : List Int} {k : Nat} (hk : k ≤ out.length) (h : ∀ j (hj : j < out.length), j < k → out[j] < x) (he : ∀ hj : k < out.length, ¬ out[k] < x) : posI x out = k := by
  rcases Nat.lt_trichotomy (posI x out) k with h1 | h1 | h1
  · have hl : posI x out < out.length := by omega
    exact absurd (h _ hl h1) (posI_ge x out hl)
  · exact h1
  · have hl : k < out.length := by have := posI_le x out; omega
    exact absurd (posI_lt x out k hl h1) (he hl)
def SI (l : List Int) : Prop := l.Pairwise (· < ·)
theorem insI_mem (x y : Int) (out : List Int) : y ∈ insI x out ↔ y = x ∨ y ∈ out := by
  unfold insI
  split
  · rename_i h
    have := List.mem_of_getElem? h
    constructor
    · exact .inr
    · rintro (rfl | h)
      · exact this
      · exact h
  · rw [List.mem_append, List.mem_cons]
    constructor
    · rintro (h | h | h)
      · exact .inr (List.mem_of_mem_take h)
      · exact .inl h
      · exact .inr (List.mem_of_mem_drop h)
    · rintro (h | h)
      · exact .inr (.inl h)
      · rw [← List.take_append_drop (posI x out) out, List.mem_append] at h
        rcases h with h | h
        · exact .inl h
        · exact .inr (.inr h)
theorem insI_si {x : Int} {out : List Int} (h : SI out) : SI (insI x out) := by
  unfold insI
  split
  · exact h
  · rename_i hne
    unfold SI at h ⊢
    have hsplit := h
    rw [← List.take_append_drop (posI x out) out, List.pairwise_append] at hsplit
    obtain ⟨h1, h2, h3⟩ := hsplit
    have hlt : ∀ a ∈ out.take (posI x out), a < x := fun a ha => by
      obtain ⟨j, hj, rfl⟩ := List.getElem_of_mem ha
      simp only [List.length_take] at hj
      rw [List.getElem_take]
      exact posI_lt x out j (by omega) (by omega)
    have hgt : ∀ b ∈ out.drop (posI x out), x < b := fun b hb => by
      have hl : posI x out < out.length := by
        rcases Nat.lt_or_ge (posI x out) out.length with h | h
        · exact h
        · rw [List.drop_of_length_le h] at hb; cases hb
      have h0 : x < out[posI x out] := by
        have := posI_ge x out hl
        have hn : out[posI x out] ≠ x := fun e => hne (by rw [List.getElem?_eq_getElem hl, e])
        omega
      rw [List.drop_eq_getElem_cons hl] at hb h2
      rcases List.mem_cons.1 hb with rfl | hb
      · exact h0
      · have := (List.pairwise_cons.1 h2).1 b hb
        omega
    rw [List.pairwise_append]
    refine ⟨h1, List.pairwise_cons.2 ⟨hgt, h2⟩, fun a ha b hb => ?_⟩
    rcases List.mem_cons.1 hb with rfl | hb
    · exact hlt a ha
    · exact h3 a ha b hb
theorem refT_snoc (l : List Row) (r : Row) : refT (l ++ [r]) = insI r.n (refT l) := by simp [refT]
theorem foldT (l : List Row) : ∀ o : List Int, SI o → SI (l.foldl (fun o r => insI r.n o) o) ∧ ∀ y, y ∈ l.foldl (fun o r => insI r.n o) o ↔ y ∈ o ∨ y ∈ l.map (·.n) := by
  induction l with
  | nil => intro o h; exact ⟨h, fun y => by simp⟩
  | cons r t ih =>
    intro o h
    obtain ⟨h1, h2⟩ := ih _ (insI_si (x := r.n) h)
    refine ⟨h1, fun y => ?_⟩
    rw [List.foldl_cons, h2 y, insI_mem, List.map_cons, List.mem_cons]
    constructor
    · rintro ((h | h) | h)
      · exact .inr (.inl h)
      · exact .inl h
      · exact .inr (.inr h)
    · rintro (h | h | h)
      · exact .inl (.inr h)
      · exact .inl (.inl h)
      · exact .inr h
theorem insI_len (x : Int) (out : List Int) : (insI x out).length ≤ out.length + 1 := by
  unfold insI
  split
  · omega
  · simp; have := posI_le x out; omega
theorem refT_len : ∀ (n : Nat) (l : List Row), l.length = n → (refT l).length ≤ n
  | 0, l, h => by
    obtain rfl := List.eq_nil_of_length_eq_zero h
    simp [refT]
  | n + 1, l, h => by
    have hne : l ≠ [] := by intro e; subst e; simp at h
    have e := List.dropLast_concat_getLast hne
    have hl : l.dropLast.length = n := by simp; omega
    have ih := refT_len n l.dropLast hl
    rw [← e, refT_snoc]
    have := insI_len (l.getLast hne).n (refT l.dropLast)
    omega
theorem sorted_leI (l : List Int) : (l.mergeSort leI).Pairwise (· ≤ ·) := by
  have := List.pairwise_mergeSort (le := leI) (fun a b c h1 h2 => by simp only [leI, decide_eq_true_eq] at *; omega) (fun a b => by simp only [leI, Bool.or_eq_true, decide_eq_true_eq]; omega) l
  exact this.imp fun {a b} h => by simpa [leI] using h
theorem get_bang (zs : List Int) {j : Nat} (hj : j < zs.length) : zs.toArray[j]! = zs[j] := by simp [hj]
theorem compact_mem (zs : List Int) (y : Int) : y ∈ compact zs ↔ y ∈ zs := by
  unfold compact compactUpTo
  constructor
  · intro h
    obtain ⟨j, hj, rfl⟩ := List.mem_map.1 h
    have hj' := List.mem_range.1 (List.mem_filter.1 hj).1
    rw [get_bang zs hj']
    exact List.getElem_mem hj'
  · intro h
    obtain ⟨j, hj, rfl⟩ := List.getElem_of_mem h
    clear h
    induction j with
    | zero => exact List.mem_map.2 ⟨0, List.mem_filter.2 ⟨List.mem_range.2 hj, by simp [keeps]⟩, get_bang zs hj⟩
    | succ j ih =>
      by_cases hk : keeps zs.toArray (j + 1) = true
      · exact List.mem_map.2 ⟨j + 1, List.mem_filter.2 ⟨List.mem_range.2 hj, hk⟩, get_bang zs hj⟩
      · have e : zs[j + 1] = zs[j] := by
          have := hk
          simp [keeps, hj, show j < zs.length by omega] at this
          exact this
        rw [e]
        exact ih (by omega)
theorem compact_si {zs : List Int} (h : zs.Pairwise (· ≤ ·)) : SI (compact zs) := by
  unfold compact compactUpTo SI
  rw [List.pairwise_map]
  have hr := (List.pairwise_lt_range (n := zs.length)).filter (keeps zs.toArray)
  refine hr.imp_of_mem fun {i j} hi hj hij => ?_
  have hi' := List.mem_range.1 (List.mem_filter.1 hi).1
  have hj' := List.mem_range.1 (List.mem_filter.1 hj).1
  have hk := (List.mem_filter.1 hj).2
  rw [get_bang zs hi', get_bang zs hj']
  have hp := List.pairwise_iff_getElem.1 h
  obtain ⟨j, rfl⟩ : ∃ m, j = m + 1 := ⟨j - 1, by omega⟩
  have hne : zs[j + 1] ≠ zs[j] := by
    simp [keeps, hj', show j < zs.length by omega] at hk
    exact hk
  have h1 := hp j (j + 1) (by omega) hj' (by omega)
  rcases Nat.eq_or_lt_of_le (show i ≤ j by omega) with rfl | hlt
  · omega
  · have h2 := hp i j hi' (by omega) hlt
    omega
theorem si_ext {a b : List Int} (ha : SI a) (hb : SI b) (h : ∀ y, y ∈ a ↔ y ∈ b) : a = b := by
  have nd : ∀ l : List Int, SI l → l.Nodup := fun l hl => hl.imp fun {a b} h e => by omega
  have hp : a.Perm b := (List.perm_ext_iff_of_nodup (nd a ha) (nd b hb)).2 h
  exact List.Perm.eq_of_pairwise (le := (· < ·)) (fun x y _ _ h1 h2 => by omega) ha hb hp
theorem refT_tgts (l : List Row) : refT l = tgts l := by
  obtain ⟨h1, h2⟩ := foldT l [] List.Pairwise.nil
  refine si_ext h1 (compact_si (sorted_leI _)) fun y => ?_
  have h3 := h2 y
  unfold refT tgts
  rw [h3, compact_mem, List.mem_mergeSort]
  simp
end Go.Proofs.Ytmondfckpgjikaa
