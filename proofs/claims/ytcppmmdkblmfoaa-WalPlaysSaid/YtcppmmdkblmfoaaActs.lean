/- The length of a slice that came in is within the reach. The opener of []Act: what the cells of the argument hold. -/
import Derived.Lib.SmallJoins
import Derived.OpenShut
import Derived.SizedLaws
import Derived.Test.YtcppmmdkblmfoaaArgs
import Derived.Test.YtcppmmdkblmfoaaRows
import Derived.Test.YtcppmmdkblmfoaaPaysL
import Derived.Deep.Slices
import Derived.Deep.Fields
import Derived.Deep.Matrix
import Derived.ChangeSame
namespace Go.Proofs.Ytcppmmdkblmfoaa
open Go.RowKit Go.ChangeShapes Go.WideShapes Go.Deep
theorem sized_len {H : Type} {P : Program} {ts : List TypeId} {ds : List (DataW H)} (h : (DataW.weightsEach P ts ds).all (· ≤ reachBytes) = true) {j : Nat} {t e : TypeId} {d : DataW H} (ht : ts[j]? = some t) (hd : ds[j]? = some d) (hu : P.underlying t = some (.slice e)) (len by' : Nat) (hl : Joins.sliceLen d = len) (hb : P.bytesOf e = by') :
    len * by' ≤ 140737488351232 := by
  subst hl hb
  cases d with
  | slice es sp =>
    have := sized_slice h ht hd hu
    exact Nat.le_trans (Nat.mul_le_mul_right _ (Nat.le_add_right _ _)) this
  | _ => simp [Joins.sliceLen]
end Go.Proofs.Ytcppmmdkblmfoaa
namespace Go.Proofs.Ytcppmmdkblmfoaa
open Go.RowKit Go.ChangeShapes Go.WideShapes Go.Deep
/-- The act at place i: its kind, its bytes, its number, and where they lie. -/
def ActAt (w : World) (b o i : Nat) : Prop :=
  ∃ (k : Nat) (A : Option Addr) (nb cb : Nat) (x : Int) (l : List UInt8), w.cell? ⟨b, o + i * 3, none⟩ = some (.int .u8 (k : Int)) ∧ w.cell? ⟨b, o + i * 3 + 1, none⟩ = some (.slice A nb cb) ∧ w.cell? ⟨b, o + i * 3 + 2, none⟩ = some (.int .i64 x) ∧
    k < 256 ∧ (-9223372036854775808 ≤ x ∧ x ≤ 9223372036854775807) ∧ nb ≤ cb ∧ Reads w w.heap.size 1 A nb (l.map byteV)
def ActsAt (w : World) (A : Option Addr) (n : Nat) : Prop := ∀ i, i < n → ∃ b o, A = some ⟨b, o, none⟩ ∧ b < w.heap.size ∧ ActAt w b o i
section
variable {H : Type} {enc : TypeId × Value → H} {P : Program} {w : World} {base : Nat} {spare : Nat → Bool} {held : Bool}
theorem open_slice_fields {t e : TypeId} {fs : Array Field} {fuel : Nat} {cs : List Value} {x : DataW H × List MemPlace} (ht : P.underlying t = some (.slice e)) (he : P.underlying e = some (.struct fs))
    (hone : oneCellFields P fs = true) (hC : P.cellsOf e = fs.size) (h : DataW.trod enc P w base spare held fuel t cs = some x) :
    (cs = [.slice none 0 0] ∧ x = (.nil, [])) ∨
    ∃ (a : Addr) (len cap m : Nat) (D : Nat → DataW H) (Pl : Nat → List MemPlace), cs = [.slice (some a) len cap] ∧ base ≤ a.block ∧ len ≤ cap ∧ cap ≤ maxLen ∧ m = (if spare a.block then cap else len) ∧
      x = (.slice ((List.range len).map D) ((List.range (m - len)).map fun j => D (len + j)), MemPlace.row a (m * fs.size) ++ (List.range m).flatMap Pl) ∧
      ∀ i, i < m → ∃ (ys : List (DataW H × List MemPlace)) (n : Nat), D i = .agg (ys.map (·.1)) ∧ Pl i = ys.flatMap (·.2) ∧ ys.length = fs.size ∧
        ∀ (j : Nat) (f : Field), fs[j]? = some f → ∃ (v : Value) (y : DataW H × List MemPlace), w.cell? (a.add (i * fs.size + j)) = some v ∧ ys[j]? = some y ∧ DataW.trod enc P w base spare held n f.type [v] = some y := by
  rcases open_slice ht h with h0 | ⟨a, len, cap, m, n, D, Pl, hcs, hb, hl, hm, hmm, hx, hi⟩
  · exact .inl h0
  · refine .inr ⟨a, len, cap, m, D, Pl, hcs, hb, hl, hm, hmm, by rw [hC] at hx; exact hx, fun i him => ?_⟩
    obtain ⟨cs', hc, ht'⟩ := hi i him
    rw [hC] at hc
    obtain ⟨ys, n', hn', hy, hlen, hyl, hf⟩ := DataW.trod_struct he ht'
    obtain ⟨_, hcl, hat⟩ := World.cells?_some hc
    simp only [Prod.mk.injEq] at hy
    refine ⟨ys, n', hy.1, hy.2, hyl, fun j f hj => ?_⟩
    obtain ⟨ho, hk⟩ := hone_of hone j f hj
    have hjl : j < fs.size := (Array.getElem?_eq_some_iff.1 hj).1
    have hcell := hat j hjl
    have hv : cs'[j]? = some (cs'[j]'(by omega)) := List.getElem?_eq_getElem (by omega)
    have h1 := hf j f hj
    rw [ho, hk] at h1
    have hone' : (cs'.drop j).take 1 = [cs'[j]'(by omega)] := by
      rw [List.drop_eq_getElem_cons (by omega)]
      rfl
    rw [hone'] at h1
    have hys : ys[j]? = some (ys[j]'(by omega)) := List.getElem?_eq_getElem (by omega)
    refine ⟨_, _, ?_, hys, h1.trans hys⟩
    rw [← Go.Deep.add_add, hcell, hv]
end
theorem open_bytes {H : Type} {enc : TypeId × Value → H} {w : World} {base fuel : Nat} {spare : Nat → Bool} {held : Bool} {v : Value} {x : DataW H × List MemPlace}
    (h : DataW.trod enc Try.prog w base spare held fuel 22 [v] = some x) : ∃ (A : Option Addr) (nb cb : Nat) (l : List UInt8), v = .slice A nb cb ∧ nb ≤ cb ∧ Reads w w.heap.size 1 A nb (l.map byteV) := by
  rcases open_ints Try.underlying22 Try.underlying5 (by kernel_rfl) h with ⟨hcs, _⟩ | ⟨x, l, c, zs, hcs, _, hl, hm, hz, _, hcell, hwz⟩
  · simp at hcs
    exact ⟨none, 0, 0, [], hcs, Nat.le_refl _, reads_nil w⟩
  · simp at hcs
    obtain ⟨bs, hr⟩ := reads_of_cells (len := l) (cap := zs.length) (by rw [hz]; split <;> omega) rfl hcell hwz
    exact ⟨_, _, _, bs, hcs, hl, hr⟩
theorem open_acts {H : Type} {enc : TypeId × Value → H} {w : World} {base fuel : Nat} {spare : Nat → Bool} {held : Bool} {A : Option Addr} {len cap : Nat} {x : DataW H × List MemPlace}
    (h : DataW.trod enc Try.prog w base spare held fuel 54 [.slice A len cap] = some x) : ActsAt w A len := by
  rcases open_slice_fields Try.underlying54 Try.underlying61 (by kernel_rfl) (by kernel_rfl) h with ⟨hcs, _⟩ | ⟨a, len', cap', m, D, Pl, hcs, _, hl, _, hm, _, hall⟩
  · simp at hcs
    obtain ⟨rfl, rfl, rfl⟩ := hcs
    intro i hi
    exact absurd hi (Nat.not_lt_zero _)
  · simp at hcs
    obtain ⟨rfl, rfl, rfl⟩ := hcs
    intro i hi
    have him : ∀ j, j < len → j < m := fun j hj => by rw [hm]; split <;> omega
    obtain ⟨b, o, spot⟩ := a
    have hspot : spot = none := by
      obtain ⟨ys, n, _, _, _, hf⟩ := hall 0 (him 0 (by omega))
      obtain ⟨v0, y0, g0, _, t0⟩ := hf 0 _ rfl
      simpa [Addr.add] using World.cell?_spot g0
    subst hspot
    obtain ⟨ys, n, _, _, _, hf⟩ := hall i (him i hi)
    obtain ⟨v0, y0, g0, _, t0⟩ := hf 0 _ rfl
    obtain ⟨v1, y1, g1, _, t1⟩ := hf 1 _ rfl
    obtain ⟨v2, y2, g2, _, t2⟩ := hf 2 _ rfl
    obtain ⟨z0, e0, _, z0w⟩ := DataW.trod_int Try.underlying5 t0
    obtain ⟨A1, nb, cb, l, e1, hc1, hr1⟩ := open_bytes t1
    obtain ⟨z2, e2, _, z2w⟩ := DataW.trod_int Try.underlying3 t2
    simp at e0 e2
    subst e0 e1 e2
    simp [Lit.wf, IntKind.min, IntKind.max, IntKind.signed, IntKind.bits] at z0w z2w
    rw [addr_add] at g0 g1 g2
    have hb := block_lt_of_cell g0
    refine ⟨b, o, rfl, hb, z0.toNat, A1, nb, cb, z2, l, ?_, g1, g2, by omega, ⟨by omega, by omega⟩, hc1, hr1⟩
    rw [show ((z0.toNat : Nat) : Int) = z0 by omega]
    exact g0
end Go.Proofs.Ytcppmmdkblmfoaa
