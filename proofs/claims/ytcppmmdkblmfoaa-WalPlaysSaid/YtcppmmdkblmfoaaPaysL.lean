/- Words for a list of byte slices that lie from a block on. No function of the program is named. -/
import Derived.Test.YtcppmmdkblmfoaaSame
import Derived.Test.YtcppmmdkblmfoaaSys
namespace Go.Proofs.Ytcppmmdkblmfoaa
open Go.RowKit
/-- As PayOk; and its block is lo or behind. -/
def PayL (lo : Nat) (w : World) (N : Option Nat) (v : Value) (p : List UInt8) : Prop :=
  ∃ A n c, v = .slice A n c ∧ n ≤ c ∧ p.length = n ∧ (0 < n → ∃ ad : Addr, A = some ad ∧ lo ≤ ad.block ∧ ad.block < w.heap.size ∧ some ad.block ≠ N ∧ ∀ j u, (p.map byteV)[j]? = some u → w.cell? (ad.add j) = some u)
section
variable {lo lo' : Nat} {w w' : World} {N N' : Option Nat} {v : Value} {p : List UInt8} {vs : List Value} {ps : List (List UInt8)}
theorem PayL.ok (h : PayL lo w N v p) : PayOk w N v p := by
  obtain ⟨A, n, c, h1, h2, h3, h⟩ := h
  refine ⟨A, n, c, h1, h2, h3, fun hn => ?_⟩
  obtain ⟨ad, e, _, h4⟩ := h hn
  exact ⟨ad, e, h4⟩
theorem PayL.move (h : PayL lo w N v p) (hg : w.grownBy w' N) (hN : ∀ g, N' = some g → N = some g ∨ w.heap.size ≤ g) : PayL lo w' N' v p := by
  obtain ⟨A, n, c, rfl, hc, hl, h⟩ := h
  refine ⟨A, n, c, rfl, hc, hl, fun hn => ?_⟩
  obtain ⟨ad, e, hlo, hb, hne, hc⟩ := h hn
  refine ⟨ad, e, hlo, Nat.lt_of_lt_of_le hb hg.size, ?_, fun j u hu => ?_⟩
  · intro e
    rcases hN _ e.symm with h | h
    · exact hne h.symm
    · omega
  · rw [← hc j u hu]
    exact World.cell?_of_block (hg.block _ (by rw [block_of_add]; exact hb) (by rw [block_of_add]; exact hne))
theorem PayL.below (h : PayL lo w N v p) (hb : Below w.heap.size w w') : PayL lo w' N v p := h.move (only_of_below hb N) (fun _ hg => .inl hg)
theorem PayL.of_own {base n c : Nat} {A : Option Addr} (h : w.ownsRow base 5 1 (.slice A n c) n (p.map byteV)) (hc : n ≤ c) (hN : ∀ g, N = some g → g < base) (hlo : lo ≤ base) : PayL lo w N (.slice A n c) p := by
  have hr := Reads.of_own h
  refine ⟨A, n, c, rfl, hc, by have := hr.1; simpa using this, fun hn => ?_⟩
  obtain ⟨ad, e, hb, hcell⟩ := hr.2 hn
  obtain ⟨g, cap, hv, hbase, _⟩ := h.form hn
  have e2 : A = some ⟨g, 0, none⟩ := by injection hv
  rw [e] at e2
  injection e2 with e2
  refine ⟨ad, e, by rw [e2]; show lo ≤ g; omega, hb, fun h2 => ?_, hcell⟩
  have := hN _ h2.symm
  rw [e2] at this; simp at this; omega
theorem PayL.keptF {F : Nat → Prop} (h : PayL lo w N v p) (hk : Kept F w w') (hF : ∀ i, F i → i < lo ∨ w.heap.size ≤ i) : PayL lo w' N v p := by
  obtain ⟨A, n, c, rfl, hc, hl, h⟩ := h
  refine ⟨A, n, c, rfl, hc, hl, fun hn => ?_⟩
  obtain ⟨ad, e, hlo, hb, hne, hcc⟩ := h hn
  refine ⟨ad, e, hlo, Nat.lt_of_lt_of_le hb hk.size, hne, fun j u hu => ?_⟩
  rw [← hcc j u hu]
  exact hk.cell (by rw [block_of_add]; exact hb) (by rw [block_of_add]; intro hf; have := hF _ hf; omega)
def PaysL (lo : Nat) (w : World) (N : Option Nat) (vs : List Value) (ps : List (List UInt8)) : Prop :=
  vs.length = ps.length ∧ ∀ (i : Nat) (v : Value) (p : List UInt8), vs[i]? = some v → ps[i]? = some p → PayL lo w N v p
theorem PaysL.ok (h : PaysL lo w N vs ps) : Pays w N vs ps := ⟨h.1, fun i v p hv hp => (h.2 i v p hv hp).ok⟩
theorem PaysL.nil (lo : Nat) (w : World) (N : Option Nat) : PaysL lo w N [] [] := ⟨rfl, fun i v p h => by simp at h⟩
theorem PaysL.move (h : PaysL lo w N vs ps) (hg : w.grownBy w' N) (hN : ∀ g, N' = some g → N = some g ∨ w.heap.size ≤ g) : PaysL lo w' N' vs ps :=
  ⟨h.1, fun i v p hv hp => (h.2 i v p hv hp).move hg hN⟩
theorem PaysL.below (h : PaysL lo w N vs ps) (hb : Below w.heap.size w w') : PaysL lo w' N vs ps :=
  ⟨h.1, fun i v p hv hp => (h.2 i v p hv hp).below hb⟩
theorem PaysL.keptF {F : Nat → Prop} (h : PaysL lo w N vs ps) (hk : Kept F w w') (hF : ∀ i, F i → i < lo ∨ w.heap.size ≤ i) : PaysL lo w' N vs ps :=
  ⟨h.1, fun i v p hv hp => (h.2 i v p hv hp).keptF hk hF⟩
theorem PaysL.snoc (h : PaysL lo w N vs ps) (hv : PayL lo w N v p) : PaysL lo w N (vs ++ [v]) (ps ++ [p]) := by
  refine ⟨by simp [h.1], fun i v' p' h1 h2 => ?_⟩
  have hl := h.1
  rw [List.getElem?_append] at h1 h2
  by_cases hi : i < vs.length
  · rw [if_pos hi] at h1; rw [if_pos (by omega)] at h2
    exact h.2 i v' p' h1 h2
  · rw [if_neg hi] at h1; rw [if_neg (by omega)] at h2
    rw [← hl] at h2
    generalize i - vs.length = k at *
    rcases k with _ | k
    · simp at h1 h2; subst h1 h2; exact hv
    · simp at h1
theorem PaysL.at_ (h : PaysL lo w N vs ps) (i : Nat) (hi : i < ps.length) : ∃ v, vs[i]? = some v ∧ PayL lo w N v ps[i] := by
  have hv : i < vs.length := by rw [h.1]; exact hi
  exact ⟨vs[i], List.getElem?_eq_getElem hv, h.2 i _ _ (List.getElem?_eq_getElem hv) (List.getElem?_eq_getElem hi)⟩
theorem PaysL.one (h : PaysL lo w N vs ps) : ∀ u ∈ vs, u.oneCell' = true := h.ok.one
end
end Go.Proofs.Ytcppmmdkblmfoaa
