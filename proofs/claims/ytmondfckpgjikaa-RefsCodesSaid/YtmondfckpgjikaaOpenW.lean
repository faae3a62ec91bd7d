/- The opener of []Step with the numbers' bounds; rows with bounded numbers. -/
import Derived.Test.YtmondfckpgjikaaOpenSt
import Derived.Test.YtmondfckpgjikaaTPut
namespace Go.Proofs.Ytmondfckpgjikaa
open Go.RowKit Go.ChangeShapes Go.WideShapes Go.Deep
def St.okW (st : St) : Prop := st.ok ∧ st.n ≤ 9223372036854775807
theorem reads_stepsW {w : World} {x : Addr} {len : Nat} (h : ∀ i, i < len → ∃ st : St, st.okW ∧ w.cell? (x.add (i * 4 + 0)) = some (.int .u8 (st.op : Int)) ∧ w.cell? (x.add (i * 4 + 1)) = some (.string st.name) ∧
      w.cell? (x.add (i * 4 + 2)) = some (.int .i64 st.old) ∧ w.cell? (x.add (i * 4 + 3)) = some (.int .i64 st.n)) :
    ∃ l : List St, Reads w w.heap.size 4 (some x) len (cellsS l) ∧ l.length = len ∧ ∀ st ∈ l, st.okW := by
  obtain ⟨l, hl, hq⟩ := list_of_fun len _ h
  refine ⟨l, ⟨by rw [cellsS_len, hl], fun hn => ?_⟩, hl, fun st hs => ?_⟩
  · have h0 := (hq 0 (by omega)).2.1
    have hb := block_lt_of_cell h0
    rw [block_of_add] at hb
    refine ⟨x, rfl, hb, fun j u hu => ?_⟩
    have hj : j < (cellsS l).length := (List.getElem?_eq_some_iff.1 hu).1
    rw [cellsS_len] at hj
    have hi : j / 4 < l.length := by omega
    have e : j = j / 4 * 4 + j % 4 := by omega
    have hm : j % 4 < 4 := Nat.mod_lt _ (by decide)
    rw [e, cellsS_at l (j / 4) hi (j % 4) hm] at hu
    obtain ⟨_, q0, q1, q2, q3⟩ := hq (j / 4) hi
    rw [e]
    generalize j / 4 = i at *
    have : j % 4 = 0 ∨ j % 4 = 1 ∨ j % 4 = 2 ∨ j % 4 = 3 := by omega
    rcases this with h | h | h | h <;> rw [h] at hu ⊢ <;> simp [stL] at hu <;> subst hu <;> assumption
  · obtain ⟨i, hi, rfl⟩ := List.getElem_of_mem hs
    exact (hq i hi).1
theorem open_stepsW {H : Type} {enc : TypeId × Value → H} {w : World} {base fuel : Nat} {spare : Nat → Bool} {held : Bool} {A : Option Addr} {len cap : Nat} {x : DataW H × List MemPlace}
    (h : DataW.trod enc Try.prog w base spare held fuel 35 [.slice A len cap] = some x) :
    ∃ l : List St, Reads w w.heap.size 4 A len (cellsS l) ∧ l.length = len ∧ ∀ st ∈ l, st.okW := by
  rcases open_slice_fields Try.underlying35 Try.underlying48 (by kernel_rfl) (by kernel_rfl) h with ⟨hcs, _⟩ | ⟨a, len', cap', m, D, Pl, hcs, _, hl, _, hm, _, hall⟩
  · simp at hcs
    obtain ⟨rfl, rfl, rfl⟩ := hcs
    exact ⟨[], Reads.none_, rfl, fun st hs => by cases hs⟩
  · simp at hcs
    obtain ⟨rfl, rfl, rfl⟩ := hcs
    refine reads_stepsW fun i hi => ?_
    have him : i < m := by rw [hm]; split <;> omega
    obtain ⟨ys, n, _, _, _, hf⟩ := hall i him
    obtain ⟨v0, y0, g0, _, t0⟩ := hf 0 _ rfl
    obtain ⟨v1, y1, g1, _, t1⟩ := hf 1 _ rfl
    obtain ⟨v2, y2, g2, _, t2⟩ := hf 2 _ rfl
    obtain ⟨v3, y3, g3, _, t3⟩ := hf 3 _ rfl
    obtain ⟨z0, e0, _, z0w⟩ := DataW.trod_int Try.underlying5 t0
    obtain ⟨z1, e1, _, z1w⟩ := DataW.trod_string Try.underlying9 t1
    obtain ⟨z2, e2, _, _⟩ := DataW.trod_int Try.underlying3 t2
    obtain ⟨z3, e3, _, z3w⟩ := DataW.trod_int Try.underlying3 t3
    simp at e0 e1 e2 e3
    subst e0 e1 e2 e3
    simp [Lit.wf, IntKind.min, IntKind.max, IntKind.signed, IntKind.bits] at z0w z3w
    refine ⟨⟨z0.toNat, z1, z2, z3⟩, ⟨⟨by simp only; omega, z1w⟩, by simp only; omega⟩, ?_, g1, g2, g3⟩
    rw [show ((z0.toNat : Nat) : Int) = z0 by omega]
    exact g0
theorem allB_put {x : Row} {l : List Row} (h : AllB l) (hx : 0 ≤ x.n ∧ x.n ≤ 9223372036854775807) : AllB (putR x l) := fun r hr => by
  rcases mem_putR x l r hr with rfl | hr
  · exact hx
  · exact h r hr
theorem allB_step (l : List Row) (st : St) (h : AllB l) (hs : st.n ≤ 9223372036854775807) : AllB (stepR l st).1 := by
  have hd : ∀ nm, AllB (dropR nm l) := fun nm r hr => h r (List.mem_filter.1 hr).1
  unfold stepR branchR tagR delR
  by_cases hx : st.n < 0
  · simp only [hx, true_or, if_true]
    repeat' split
    all_goals first | exact h | exact hd _
  · have hp : ∀ nm t, AllB (putR ⟨nm, st.n, t⟩ l) := fun nm t => allB_put h ⟨by simp only; omega, hs⟩
    repeat' split
    all_goals first | exact h | exact hp _ _ | exact hd _
theorem allB_fold : ∀ (sts : List St) (l : List Row), AllB l → (∀ st ∈ sts, st.n ≤ 9223372036854775807) → AllB (sts.foldl (fun r st => (stepR r st).1) l)
  | [], _, h, _ => h
  | st :: t, l, h, hs => allB_fold t _ (allB_step l st h (hs st (by simp))) fun s hs' => hs s (by simp [hs'])
theorem allB_rows (sts : List St) (h : ∀ st ∈ sts, st.n ≤ 9223372036854775807) : AllB (rowsOf sts) := allB_fold sts [] (fun r h => by cases h) h
end Go.Proofs.Ytmondfckpgjikaa
