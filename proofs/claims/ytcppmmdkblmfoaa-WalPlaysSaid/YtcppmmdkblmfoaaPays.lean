/- Words for a list of byte slices in memory. No function of the program is named. -/
import Derived.Test.YtcppmmdkblmfoaaSum
namespace Go.Proofs.Ytcppmmdkblmfoaa
open Go.RowKit
/-- v is a slice that reads as the bytes p; its block is not N. -/
def PayOk (w : World) (N : Option Nat) (v : Value) (p : List UInt8) : Prop :=
  ∃ A n c, v = .slice A n c ∧ n ≤ c ∧ p.length = n ∧ (0 < n → ∃ ad : Addr, A = some ad ∧ ad.block < w.heap.size ∧ some ad.block ≠ N ∧ ∀ j u, (p.map byteV)[j]? = some u → w.cell? (ad.add j) = some u)
theorem PayOk.reads {w : World} {N : Option Nat} {v : Value} {p : List UInt8} (h : PayOk w N v p) : ∃ A c, v = .slice A p.length c ∧ p.length ≤ c ∧ Reads w w.heap.size 1 A p.length (p.map byteV) := by
  obtain ⟨A, n, c, rfl, hc, rfl, h⟩ := h
  refine ⟨A, c, rfl, hc, by simp, fun hn => ?_⟩
  obtain ⟨ad, e, hb, _, hc⟩ := h hn
  exact ⟨ad, e, hb, hc⟩
theorem PayOk.move {w w' : World} {N N' : Option Nat} {v : Value} {p : List UInt8} (h : PayOk w N v p) (hg : w.grownBy w' N) (hN : ∀ g, N' = some g → N = some g ∨ w.heap.size ≤ g) : PayOk w' N' v p := by
  obtain ⟨A, n, c, rfl, hc, hl, h⟩ := h
  refine ⟨A, n, c, rfl, hc, hl, fun hn => ?_⟩
  obtain ⟨ad, e, hb, hne, hc⟩ := h hn
  refine ⟨ad, e, Nat.lt_of_lt_of_le hb hg.size, ?_, fun j u hu => ?_⟩
  · intro e
    rcases hN _ e.symm with h | h
    · exact hne h.symm
    · omega
  · rw [← hc j u hu]
    exact World.cell?_of_block (hg.block _ (by rw [block_of_add]; exact hb) (by rw [block_of_add]; exact hne))
theorem PayOk.below {w w' : World} {N : Option Nat} {v : Value} {p : List UInt8} (h : PayOk w N v p) (hb : Below w.heap.size w w') : PayOk w' N v p := h.move (only_of_below hb N) (fun _ hg => .inl hg)
theorem PayOk.of_reads {w : World} {N : Option Nat} {B : Nat} {A : Option Addr} {n c : Nat} {p : List UInt8} (hr : Reads w B 1 A n (p.map byteV)) (hB : B ≤ w.heap.size) (hc : n ≤ c) (hN : ∀ g, N = some g → B ≤ g) : PayOk w N (.slice A n c) p := by
  refine ⟨A, n, c, rfl, hc, by have := hr.1; simpa using this, fun hn => ?_⟩
  obtain ⟨ad, e, hb, h⟩ := hr.2 hn
  exact ⟨ad, e, by omega, fun h2 => by have := hN _ h2.symm; omega, h⟩
theorem PayOk.of_own {w : World} {N : Option Nat} {base n c : Nat} {A : Option Addr} {p : List UInt8} (h : w.ownsRow base 5 1 (.slice A n c) n (p.map byteV)) (hc : n ≤ c) (hN : ∀ g, N = some g → g < base) : PayOk w N (.slice A n c) p := by
  have hr := Reads.of_own h
  refine ⟨A, n, c, rfl, hc, by have := hr.1; simpa using this, fun hn => ?_⟩
  obtain ⟨ad, e, hb, hcell⟩ := hr.2 hn
  refine ⟨ad, e, hb, fun h2 => ?_, hcell⟩
  obtain ⟨g, cap, hv, hbase, _⟩ := h.form hn
  have e2 : A = some ⟨g, 0, none⟩ := by injection hv
  rw [e] at e2
  injection e2 with e2
  have := hN _ h2.symm
  rw [e2] at this; simp at this; omega
def Pays (w : World) (N : Option Nat) (vs : List Value) (ps : List (List UInt8)) : Prop :=
  vs.length = ps.length ∧ ∀ (i : Nat) (v : Value) (p : List UInt8), vs[i]? = some v → ps[i]? = some p → PayOk w N v p
theorem Pays.nil (w : World) (N : Option Nat) : Pays w N [] [] := ⟨rfl, fun i v p h => by simp at h⟩
theorem Pays.move {w w' : World} {N N' : Option Nat} {vs : List Value} {ps : List (List UInt8)} (h : Pays w N vs ps) (hg : w.grownBy w' N) (hN : ∀ g, N' = some g → N = some g ∨ w.heap.size ≤ g) : Pays w' N' vs ps :=
  ⟨h.1, fun i v p hv hp => (h.2 i v p hv hp).move hg hN⟩
theorem Pays.below {w w' : World} {N : Option Nat} {vs : List Value} {ps : List (List UInt8)} (h : Pays w N vs ps) (hb : Below w.heap.size w w') : Pays w' N vs ps :=
  ⟨h.1, fun i v p hv hp => (h.2 i v p hv hp).below hb⟩
theorem Pays.free {w : World} {N : Option Nat} {vs : List Value} {ps : List (List UInt8)} (h : Pays w N vs ps) : Pays w none vs ps :=
  h.move (World.grownBy.refl w N) (fun _ hg => by cases hg)
theorem Pays.snoc {w : World} {N : Option Nat} {vs : List Value} {ps : List (List UInt8)} {v : Value} {p : List UInt8} (h : Pays w N vs ps) (hv : PayOk w N v p) : Pays w N (vs ++ [v]) (ps ++ [p]) := by
  refine ⟨by simp [h.1], fun i v' p' h1 h2 => ?_⟩
  have hl := h.1
  rw [List.getElem?_append] at h1 h2
  by_cases hi : i < vs.length
  · rw [if_pos hi] at h1; rw [if_pos (by omega)] at h2
    exact h.2 i v' p' h1 h2
  · rw [if_neg hi] at h1; rw [if_neg (by omega)] at h2
    rw [← hl] at h2
    generalize i - vs.length = k at *
    rcases k with _ | k
    · simp at h1 h2; subst h1 h2; exact hv
    · simp at h1
theorem Pays.at_ {w : World} {N : Option Nat} {vs : List Value} {ps : List (List UInt8)} (h : Pays w N vs ps) (i : Nat) (hi : i < ps.length) : ∃ v, vs[i]? = some v ∧ PayOk w N v ps[i] := by
  have hv : i < vs.length := by rw [h.1]; exact hi
  exact ⟨vs[i], List.getElem?_eq_getElem hv, h.2 i _ _ (List.getElem?_eq_getElem hv) (List.getElem?_eq_getElem hi)⟩
theorem Pays.one {w : World} {N : Option Nat} {vs : List Value} {ps : List (List UInt8)} (h : Pays w N vs ps) : ∀ u ∈ vs, u.oneCell' = true := by
  intro u hu
  obtain ⟨i, hi, rfl⟩ := List.getElem_of_mem hu
  obtain ⟨v, hv, A, n, c, rfl, _⟩ := h.at_ i (by rw [← h.1]; exact hi)
  rw [List.getElem?_eq_getElem hi] at hv
  injection hv with hv
  rw [hv]; rfl
theorem Reads.take_ {w : World} {B n k : Nat} {A : Option Addr} {xs : List Value} (h : Reads w B 1 A n xs) (hk : k ≤ n) : Reads w B 1 A k (xs.take k) := by
  refine ⟨by have := h.1; simp; omega, fun hn => ?_⟩
  obtain ⟨ad, e, hb, hc⟩ := h.2 (by omega)
  exact ⟨ad, e, hb, fun j u hu => hc j u (by rw [List.getElem?_take] at hu; split at hu; exact hu; cases hu)⟩
end Go.Proofs.Ytcppmmdkblmfoaa
