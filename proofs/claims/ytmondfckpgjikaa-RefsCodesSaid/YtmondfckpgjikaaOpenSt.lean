/- The openers of Step (a struct by value) and of []int. -/
import Derived.Test.YtmondfckpgjikaaOpen
import Derived.Lib.SmallJoins
import Derived.OpenShut
import Derived.SizedLaws
namespace Go.Proofs.Ytmondfckpgjikaa
open Go.RowKit Go.ChangeShapes Go.WideShapes Go.Deep
theorem sized_len {H : Type} {P : Program} {ts : List TypeId} {ds : List (DataW H)} (h : (DataW.weightsEach P ts ds).all (· ≤ reachBytes) = true) {j : Nat} {t e : TypeId} {d : DataW H} (ht : ts[j]? = some t) (hd : ds[j]? = some d) (hu : P.underlying t = some (.slice e)) (len by' : Nat) (hl : Joins.sliceLen d = len) (hb : P.bytesOf e = by') :
    len * by' ≤ 140737488351232 := by
  subst hl hb
  cases d with
  | slice es sp =>
    have := sized_slice h ht hd hu
    exact Nat.le_trans (Nat.mul_le_mul_right _ (Nat.le_add_right _ _)) this
  | _ => simp [Joins.sliceLen]
set_option maxRecDepth 100000 in
theorem open_step {H : Type} {enc : TypeId × Value → H} {w : World} {base : Nat} {spare : Nat → Bool} {held : Bool} {r : Reach} {b0 : Nat} {v : Value} {d : DataW H} {p : List MemPlace}
    (hv : Value.okWide Try.prog w r b0 48 v) (h : DataW.Trod enc Try.prog w base spare held 48 v d p) : ∃ st : St, v = stV st ∧ st.ok := by
  obtain ⟨v0, v1, v2, v3, y0, y1, y2, y3, n, rfl, _, _, t0, t1, t2, t3⟩ := Joins.open_agg4 Try.underlying48 (by kernel_rfl) (by kernel_rfl) hv h
  obtain ⟨z0, e0, _, z0w⟩ := DataW.trod_int Try.underlying5 t0
  obtain ⟨z1, e1, _, z1w⟩ := DataW.trod_string Try.underlying9 t1
  obtain ⟨z2, e2, _, _⟩ := DataW.trod_int Try.underlying3 t2
  obtain ⟨z3, e3, _, _⟩ := DataW.trod_int Try.underlying3 t3
  simp at e0 e1 e2 e3
  subst e0 e1 e2 e3
  simp [Lit.wf, IntKind.min, IntKind.max, IntKind.signed, IntKind.bits] at z0w
  refine ⟨⟨z0.toNat, z1, z2, z3⟩, ?_, ⟨by simp only; omega, z1w⟩⟩
  unfold stV
  simp only
  rw [show ((z0.toNat : Nat) : Int) = z0 by omega]
theorem open_intlist {H : Type} {enc : TypeId × Value → H} {w : World} {base fuel : Nat} {spare : Nat → Bool} {held : Bool} {A : Option Addr} {len cap : Nat} {x : DataW H × List MemPlace}
    (h : DataW.trod enc Try.prog w base spare held fuel 46 [.slice A len cap] = some x) :
    ∃ l : List Int, Reads w w.heap.size 1 A len (l.map (Value.int .i64)) ∧ (l.length = len ∧ len ≤ cap) ∧ ∀ z ∈ l, (Lit.int .i64 z).wf = true := by
  rcases open_ints Try.underlying46 Try.underlying3 (by kernel_rfl) h with ⟨hcs, _⟩ | ⟨x, l, c, zs, hcs, _, hl, hm, hz, _, hcell, hwz⟩
  · simp at hcs
    obtain ⟨rfl, rfl, rfl⟩ := hcs
    exact ⟨[], Reads.none_, ⟨rfl, Nat.le_refl _⟩, fun z hz => by cases hz⟩
  · simp at hcs
    obtain ⟨rfl, rfl, rfl⟩ := hcs
    have hle : len ≤ zs.length := by rw [hz]; split <;> omega
    have hlt : (zs.take len).length = len := by simp; omega
    refine ⟨zs.take len, ⟨by simp; omega, fun hn => ?_⟩, ⟨hlt, hl⟩, fun z hz => hwz z (List.mem_of_mem_take hz)⟩
    have hb : x.block < w.heap.size := by
      have := block_lt_of_cell (hcell 0 (by omega))
      rwa [block_of_add] at this
    refine ⟨x, rfl, hb, fun j u hu => ?_⟩
    rw [List.getElem?_map] at hu
    by_cases hj : j < len
    · have hjz : j < zs.length := by omega
      rw [List.getElem?_take, if_pos hj, List.getElem?_eq_getElem hjz] at hu
      simp only [Option.map_some, Option.some.injEq] at hu
      rw [hcell j hjz, ← hu]
      simp [List.getD, hjz]
    · rw [List.getElem?_take, if_neg hj] at hu; simp at hu
end Go.Proofs.Ytmondfckpgjikaa
