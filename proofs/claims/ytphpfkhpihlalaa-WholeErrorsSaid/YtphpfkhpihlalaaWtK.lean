/- The weight of two texts, in plain words. -/
import Derived.Test.YtphpfkhpihlalaaWtV
namespace Go.Proofs.Ytphpfkhpihlalaa
open Go.RowKit
def Wt.join (a b : Wt) : Wt := ⟨a.len + b.len, a.lines + b.lines, if a.lines = 0 then a.len + b.head else a.head, if b.lines = 0 then b.len + a.tail else b.tail, a.dig.join b.dig⟩
theorem Wt.ok.lines1 {x : Wt} (h : x.ok) : x.lines ≤ x.len := by
  by_cases h0 : x.lines = 0
  · rw [h0]; exact h.len0
  · have := h.some_ h0; omega
theorem Wt.ok.head1 {x : Wt} (h : x.ok) : 0 ≤ x.head ∧ x.head ≤ x.len ∧ 0 ≤ x.tail ∧ x.tail ≤ x.len := by
  have := h.len0
  by_cases h0 : x.lines = 0
  · have := h.none_ h0; omega
  · have := h.some_ h0; omega
theorem Wt.ok.join {a b : Wt} (ha : a.ok) (hb : b.ok) (h : a.len + b.len ≤ 1152921504606846976) : (a.join b).ok := by
  have a0 := ha.len0
  have b0 := hb.len0
  have a1 := ha.lines0
  have b1 := hb.lines0
  have an := ha.none_
  have bn := hb.none_
  have as_ := ha.some_
  have bs_ := hb.some_
  refine ⟨by simp only [Wt.join]; omega, h, by simp only [Wt.join]; omega, fun h0 => ?_, fun h0 => ?_, mP_lt _, fun h0 => ?_, ?_⟩
  · simp only [Wt.join] at h0 ⊢
    have x0 : a.lines = 0 := by omega
    have y0 : b.lines = 0 := by omega
    rw [if_pos x0, if_pos y0]
    have := an x0; have := bn y0
    omega
  · simp only [Wt.join] at h0 ⊢
    by_cases x0 : a.lines = 0 <;> by_cases y0 : b.lines = 0 <;> simp only [x0, y0, if_true, if_false] <;> simp only [x0, y0, true_implies, not_true_eq_false, not_false_eq_true, ne_eq] at an bn as_ bs_ <;> omega
  · simp only [Wt.join] at h0
    have := ha.v0 (by omega); have := hb.v0 (by omega)
    simp [Wt.join, Dig.join, *]
  · simp only [Wt.join, Dig.join]
    rw [ha.s, hb.s, ← Nat.mul_mod, ← Nat.pow_add]
    congr 2
    omega
end Go.Proofs.Ytphpfkhpihlalaa
