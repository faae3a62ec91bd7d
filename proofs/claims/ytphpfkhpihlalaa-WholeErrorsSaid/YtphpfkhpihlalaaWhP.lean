/- What the calls on texts give, in plain words: depths near each other, copies of a text, parts of a text. -/
import Derived.Test.YtphpfkhpihlalaaStP
namespace Go.Proofs.Ytphpfkhpihlalaa
theorem near_iff {a b : Nat} : near a b = true ↔ a ≤ b + 1 ∧ b ≤ a + 1 := by simp [near]
/-- A text, k times. -/
def rep (k : Nat) (t : List UInt8) : List UInt8 := (List.replicate k t).flatten
theorem rep_zero (t : List UInt8) : rep 0 t = [] := rfl
theorem rep_add (a b : Nat) (t : List UInt8) : rep (a + b) t = rep a t ++ rep b t := by
  unfold rep
  rw [← List.flatten_append, List.replicate_append_replicate]
theorem rep_one (t : List UInt8) : rep 1 t = t := by simp [rep]
theorem rep_len (k : Nat) (t : List UInt8) : (rep k t).length = k * t.length := by
  induction k with
  | zero => simp [rep]
  | succ k ih => rw [rep_add, List.length_append, ih, rep_one, Nat.succ_mul]
theorem rep_get (k : Nat) (t : List UInt8) (i : Nat) (h : i < k * t.length) : (rep k t)[i]? = t[i % t.length]? := by
  induction k generalizing i with
  | zero => omega
  | succ k ih =>
    have ht : 0 < t.length := by
      rcases Nat.eq_zero_or_pos t.length with h0 | h0
      · rw [h0] at h; omega
      · exact h0
    rw [Nat.add_comm k 1, rep_add, rep_one]
    rcases Nat.lt_or_ge i t.length with h1 | h1
    · rw [List.getElem?_append_left h1, Nat.mod_eq_of_lt h1]
    · rw [List.getElem?_append_right h1, ih (i - t.length) (by rw [Nat.succ_mul] at h; omega)]
      rw [Nat.mod_eq_sub_mod h1]
/-- A balanced text, or none at all. -/
def TxO (E : List En) (id : Nat) (t : List UInt8) (d : Nat) : Prop := (id = 0 ∧ t = [] ∧ d = 0) ∨ Tx E id t d
theorem TxO.ext {E E' : List En} {id d : Nat} {t : List UInt8} (h : TxO E id t d) (he : Ext E E') : TxO E' id t d := h.imp (fun h => h) fun h => h.ext he
theorem TxO.none (E : List En) : TxO E 0 [] 0 := .inl ⟨rfl, rfl, rfl⟩
theorem TxO.at_ {E : List En} {id d : Nat} {t : List UInt8} (h : TxO E id t d) : ∃ z, atE E id = some z ∧ z.t = t ∧ z.depth = d ∧ z.even = true := by
  rcases h with ⟨rfl, rfl, rfl⟩ | h
  · exact ⟨En.unit, rfl, rfl, rfl, rfl⟩
  · exact h.at_
theorem TxO.len {E : List En} {id d : Nat} {t : List UInt8} (h : TxO E id t d) (k : EOk E) : t.length ≤ 1152921504606846976 ∧ d < 87 ∧ (id = 0 ↔ t = []) := by
  rcases h with ⟨rfl, rfl, rfl⟩ | h
  · simp
  · have := h.len k
    refine ⟨this.2.1, this.2.2, fun h0 => ?_, fun h0 => ?_⟩
    · have := h.pos; omega
    · rw [h0] at this; simp at this
/-- How far two depths are apart. -/
def gap (a b : Nat) : Nat := max a b - min a b
end Go.Proofs.Ytphpfkhpihlalaa
