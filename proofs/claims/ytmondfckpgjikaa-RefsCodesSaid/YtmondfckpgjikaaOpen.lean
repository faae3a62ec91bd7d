/- The opener of []Step: the argument's cells as a list of steps. -/
import Derived.Test.YtmondfckpgjikaaPlay
import Derived.Test.YtmondfckpgjikaaRows
import Derived.Deep.Slices
import Derived.Deep.Fields
import Derived.ChangeSame
namespace Go.Proofs.Ytmondfckpgjikaa
open Go.RowKit Go.ChangeShapes Go.WideShapes Go.Deep
theorem list_of_fun (len : Nat) (Q : Nat → St → Prop) (h : ∀ i, i < len → ∃ st, Q i st) : ∃ l : List St, l.length = len ∧ ∀ i (hi : i < l.length), Q i l[i] := by
  induction len with
  | zero => exact ⟨[], rfl, fun i hi => by simp at hi⟩
  | succ k ih =>
    obtain ⟨l, hl, hq⟩ := ih fun i hi => h i (by omega)
    obtain ⟨st, hs⟩ := h k (by omega)
    refine ⟨l ++ [st], by simp [hl], fun i hi => ?_⟩
    by_cases hik : i < l.length
    · rw [List.getElem_append_left hik]; exact hq i hik
    · have : i = l.length := by simp at hi; omega
      subst this
      rw [List.getElem_append_right (Nat.le_refl _)]
      simp [hl, hs]
theorem reads_steps {w : World} {x : Addr} {len : Nat} (h : ∀ i, i < len → ∃ st : St, st.ok ∧ w.cell? (x.add (i * 4 + 0)) = some (.int .u8 (st.op : Int)) ∧ w.cell? (x.add (i * 4 + 1)) = some (.string st.name) ∧
      w.cell? (x.add (i * 4 + 2)) = some (.int .i64 st.old) ∧ w.cell? (x.add (i * 4 + 3)) = some (.int .i64 st.n)) :
    ∃ l : List St, Reads w w.heap.size 4 (some x) len (cellsS l) ∧ l.length = len ∧ ∀ st ∈ l, st.ok := by
  obtain ⟨l, hl, hq⟩ := list_of_fun len _ h
  refine ⟨l, ⟨by rw [cellsS_len, hl], fun hn => ?_⟩, hl, fun st hs => ?_⟩
  · have h0 := (hq 0 (by omega)).2.1
    have hb := block_lt_of_cell h0
    rw [block_of_add] at hb
    refine ⟨x, rfl, hb, fun j u hu => ?_⟩
    have hj : j < (cellsS l).length := (List.getElem?_eq_some_iff.1 hu).1
    rw [cellsS_len] at hj
    have hi : j / 4 < l.length := by omega
    have e : j = j / 4 * 4 + j % 4 := by omega
    have hm : j % 4 < 4 := Nat.mod_lt _ (by decide)
    rw [e, cellsS_at l (j / 4) hi (j % 4) hm] at hu
    obtain ⟨_, q0, q1, q2, q3⟩ := hq (j / 4) hi
    rw [e]
    generalize j / 4 = i at *
    have : j % 4 = 0 ∨ j % 4 = 1 ∨ j % 4 = 2 ∨ j % 4 = 3 := by omega
    rcases this with h | h | h | h <;> rw [h] at hu ⊢ <;> simp [stL] at hu <;> subst hu <;> assumption
  · obtain ⟨i, hi, rfl⟩ := List.getElem_of_mem hs
    exact (hq i hi).1
section
variable {H : Type} {enc : TypeId × Value → H} {P : Program} {w : World} {base : Nat} {spare : Nat → Bool} {held : Bool}
theorem open_slice_fields {t e : TypeId} {fs : Array Field} {fuel : Nat} {cs : List Value} {x : DataW H × List MemPlace} (ht : P.underlying t = some (.slice e)) (he : P.underlying e = some (.struct fs))
    (hone : oneCellFields P fs = true) (hC : P.cellsOf e = fs.size) (h : DataW.trod enc P w base spare held fuel t cs = some x) :
    (cs = [.slice none 0 0] ∧ x = (.nil, [])) ∨
    ∃ (a : Addr) (len cap m : Nat) (D : Nat → DataW H) (Pl : Nat → List MemPlace), cs = [.slice (some a) len cap] ∧ base ≤ a.block ∧ len ≤ cap ∧ cap ≤ maxLen ∧ m = (if spare a.block then cap else len) ∧
      x = (.slice ((List.range len).map D) ((List.range (m - len)).map fun j => D (len + j)), MemPlace.row a (m * fs.size) ++ (List.range m).flatMap Pl) ∧
      ∀ i, i < m → ∃ (ys : List (DataW H × List MemPlace)) (n : Nat), D i = .agg (ys.map (·.1)) ∧ Pl i = ys.flatMap (·.2) ∧ ys.length = fs.size ∧
        ∀ (j : Nat) (f : Field), fs[j]? = some f → ∃ (v : Value) (y : DataW H × List MemPlace), w.cell? (a.add (i * fs.size + j)) = some v ∧ ys[j]? = some y ∧ DataW.trod enc P w base spare held n f.type [v] = some y := by
  rcases open_slice ht h with h0 | ⟨a, len, cap, m, n, D, Pl, hcs, hb, hl, hm, hmm, hx, hi⟩
  · exact .inl h0
  · refine .inr ⟨a, len, cap, m, D, Pl, hcs, hb, hl, hm, hmm, by rw [hC] at hx; exact hx, fun i him => ?_⟩
    obtain ⟨cs', hc, ht'⟩ := hi i him
    rw [hC] at hc
    obtain ⟨ys, n', hn', hy, hlen, hyl, hf⟩ := DataW.trod_struct he ht'
    obtain ⟨_, hcl, hat⟩ := World.cells?_some hc
    simp only [Prod.mk.injEq] at hy
    refine ⟨ys, n', hy.1, hy.2, hyl, fun j f hj => ?_⟩
    obtain ⟨ho, hk⟩ := hone_of hone j f hj
    have hjl : j < fs.size := (Array.getElem?_eq_some_iff.1 hj).1
    have hcell := hat j hjl
    have hv : cs'[j]? = some (cs'[j]'(by omega)) := List.getElem?_eq_getElem (by omega)
    have h1 := hf j f hj
    rw [ho, hk] at h1
    have hone' : (cs'.drop j).take 1 = [cs'[j]'(by omega)] := by
      rw [List.drop_eq_getElem_cons (by omega)]
      rfl
    rw [hone'] at h1
    have hys : ys[j]? = some (ys[j]'(by omega)) := List.getElem?_eq_getElem (by omega)
    refine ⟨_, _, ?_, hys, h1.trans hys⟩
    rw [← Go.Deep.add_add, hcell, hv]
end
theorem open_steps {H : Type} {enc : TypeId × Value → H} {w : World} {base fuel : Nat} {spare : Nat → Bool} {held : Bool} {A : Option Addr} {len cap : Nat} {x : DataW H × List MemPlace}
    (h : DataW.trod enc Try.prog w base spare held fuel 35 [.slice A len cap] = some x) :
    ∃ l : List St, Reads w w.heap.size 4 A len (cellsS l) ∧ l.length = len ∧ ∀ st ∈ l, st.ok := by
  rcases open_slice_fields Try.underlying35 Try.underlying48 (by kernel_rfl) (by kernel_rfl) h with ⟨hcs, _⟩ | ⟨a, len', cap', m, D, Pl, hcs, _, hl, _, hm, _, hall⟩
  · simp at hcs
    obtain ⟨rfl, rfl, rfl⟩ := hcs
    exact ⟨[], Reads.none_, rfl, fun st hs => by cases hs⟩
  · simp at hcs
    obtain ⟨rfl, rfl, rfl⟩ := hcs
    refine reads_steps fun i hi => ?_
    have him : i < m := by rw [hm]; split <;> omega
    obtain ⟨ys, n, _, _, _, hf⟩ := hall i him
    obtain ⟨v0, y0, g0, _, t0⟩ := hf 0 _ rfl
    obtain ⟨v1, y1, g1, _, t1⟩ := hf 1 _ rfl
    obtain ⟨v2, y2, g2, _, t2⟩ := hf 2 _ rfl
    obtain ⟨v3, y3, g3, _, t3⟩ := hf 3 _ rfl
    obtain ⟨z0, e0, _, z0w⟩ := DataW.trod_int Try.underlying5 t0
    obtain ⟨z1, e1, _, z1w⟩ := DataW.trod_string Try.underlying9 t1
    obtain ⟨z2, e2, _, _⟩ := DataW.trod_int Try.underlying3 t2
    obtain ⟨z3, e3, _, _⟩ := DataW.trod_int Try.underlying3 t3
    simp at e0 e1 e2 e3
    subst e0 e1 e2 e3
    simp [Lit.wf, IntKind.min, IntKind.max, IntKind.signed, IntKind.bits] at z0w
    refine ⟨⟨z0.toNat, z1, z2, z3⟩, ⟨by simp only; omega, z1w⟩, ?_, g1, g2, g3⟩
    rw [show ((z0.toNat : Nat) : Int) = z0 by omega]
    exact g0
end Go.Proofs.Ytmondfckpgjikaa
