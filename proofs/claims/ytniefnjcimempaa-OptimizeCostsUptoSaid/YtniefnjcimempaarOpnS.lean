/- The opener of the steps that come in, and the bound on what they hold together. -/
import Derived.Test.YtniefnjcimempaaRows
import Derived.Test.YtniefnjcimempaarRzB
import Derived.Deep.Slices
import Derived.Deep.Fields
import Derived.Deep.Matrix
import Derived.ChangeSame
import Derived.Lib.SmallJoins
import Derived.JoinedCond
namespace Go.Proofs.Ytniefnjcimempaa
open Go.RowKit Go.ChangeShapes Go.WideShapes Go.Deep
theorem bulk_pos {H : Type} (d : DataW H) : 1 ≤ Rows.uptoBulk d := by
  cases d with
  | lit l => cases l <;> simp [Rows.uptoBulk]
  | nil => simp [Rows.uptoBulk]
  | ptr d => simp [Rows.uptoBulk]
  | slice elems spare => simp [Rows.uptoBulk]
  | agg parts => simp [Rows.uptoBulk]
  | iface t d => simp [Rows.uptoBulk]
  | map entries => simp [Rows.uptoBulk]
  | held h => simp [Rows.uptoBulk]
theorem bulk_len {H : Type} : ∀ l : List (DataW H), l.length ≤ Rows.uptoBulkAll l
  | [] => Nat.zero_le _
  | x :: r => by have := bulk_pos x; have := bulk_len r; simp only [Rows.uptoBulkAll, List.length_cons]; omega
theorem bulk_slice {H : Type} (d : DataW H) : Joins.sliceLen d ≤ Rows.uptoBulk d := by
  cases d with
  | slice elems spare => have := bulk_len elems; simp only [Joins.sliceLen, Rows.uptoBulk]; omega
  | lit l => simp [Joins.sliceLen]
  | nil => simp [Joins.sliceLen]
  | ptr d => simp [Joins.sliceLen]
  | agg parts => simp [Joins.sliceLen]
  | iface t d => simp [Joins.sliceLen]
  | map entries => simp [Joins.sliceLen]
  | held h => simp [Joins.sliceLen]
theorem bulk_mem {H : Type} {y : DataW H} : ∀ (l : List (DataW H)), y ∈ l → Rows.uptoBulk y ≤ Rows.uptoBulkAll l
  | [], h => by cases h
  | a :: t, h => by
    simp only [Rows.uptoBulkAll]
    rcases List.mem_cons.1 h with rfl | h
    · omega
    · have := bulk_mem t h; omega
theorem list_of_fun {α : Type} (len : Nat) (Q : Nat → α → Prop) (h : ∀ i, i < len → ∃ st, Q i st) : ∃ l : List α, l.length = len ∧ ∀ i (hi : i < l.length), Q i l[i] := by
  induction len with
  | zero => exact ⟨[], rfl, fun i hi => by simp at hi⟩
  | succ k ih =>
    obtain ⟨l, hl, hq⟩ := ih fun i hi => h i (by omega)
    obtain ⟨st, hs⟩ := h k (by omega)
    refine ⟨l ++ [st], by simp [hl], fun i hi => ?_⟩
    by_cases hik : i < l.length
    · rw [List.getElem_append_left hik]; exact hq i hik
    · have : i = l.length := by simp at hi; omega
      subst this
      rw [List.getElem_append_right (Nat.le_refl _)]
      simp [hl, hs]
theorem reads_of_ints {w : World} {x : Addr} {len cap : Nat} {zs : List Int} (hl : len ≤ cap) (hz : zs.length = cap)
    (hcell : ∀ i, i < zs.length → w.cell? (x.add i) = some (.int .i64 (zs.getD i 0))) : Reads w w.heap.size 1 (some x) len ((zs.take len).map (Value.int .i64)) := by
  refine ⟨by simp; omega, fun hn => ?_⟩
  have hb : x.block < w.heap.size := by
    have := block_lt_of_cell (hcell 0 (by omega))
    rwa [block_of_add] at this
  refine ⟨x, rfl, hb, fun j u hu => ?_⟩
  rw [List.getElem?_map] at hu
  by_cases hj : j < len
  · have hjz : j < zs.length := by omega
    rw [List.getElem?_take, if_pos hj, List.getElem?_eq_getElem hjz] at hu
    simp only [Option.map_some, Option.some.injEq] at hu
    rw [hcell j hjz, ← hu]
    simp [List.getD, hjz]
  · rw [List.getElem?_take, if_neg hj] at hu; simp at hu
section
variable {H : Type} {enc : TypeId × Value → H} {P : Program} {w : World} {base : Nat} {spare : Nat → Bool} {held : Bool}
theorem open_slice_fields {t e : TypeId} {fs : Array Field} {fuel : Nat} {cs : List Value} {x : DataW H × List MemPlace} (ht : P.underlying t = some (.slice e)) (he : P.underlying e = some (.struct fs))
    (hone : oneCellFields P fs = true) (hC : P.cellsOf e = fs.size) (h : DataW.trod enc P w base spare held fuel t cs = some x) :
    (cs = [.slice none 0 0] ∧ x = (.nil, [])) ∨
    ∃ (a : Addr) (len cap m : Nat) (D : Nat → DataW H) (Pl : Nat → List MemPlace), cs = [.slice (some a) len cap] ∧ base ≤ a.block ∧ len ≤ cap ∧ cap ≤ maxLen ∧ m = (if spare a.block then cap else len) ∧
      x = (.slice ((List.range len).map D) ((List.range (m - len)).map fun j => D (len + j)), MemPlace.row a (m * fs.size) ++ (List.range m).flatMap Pl) ∧
      ∀ i, i < m → ∃ (ys : List (DataW H × List MemPlace)) (n : Nat), D i = .agg (ys.map (·.1)) ∧ Pl i = ys.flatMap (·.2) ∧ ys.length = fs.size ∧
        ∀ (j : Nat) (f : Field), fs[j]? = some f → ∃ (v : Value) (y : DataW H × List MemPlace), w.cell? (a.add (i * fs.size + j)) = some v ∧ ys[j]? = some y ∧ DataW.trod enc P w base spare held n f.type [v] = some y := by
  rcases open_slice ht h with h0 | ⟨a, len, cap, m, n, D, Pl, hcs, hb, hl, hm, hmm, hx, hi⟩
  · exact .inl h0
  · refine .inr ⟨a, len, cap, m, D, Pl, hcs, hb, hl, hm, hmm, by rw [hC] at hx; exact hx, fun i him => ?_⟩
    obtain ⟨cs', hc, ht'⟩ := hi i him
    rw [hC] at hc
    obtain ⟨ys, n', hn', hy, hlen, hyl, hf⟩ := DataW.trod_struct he ht'
    obtain ⟨_, hcl, hat⟩ := World.cells?_some hc
    simp only [Prod.mk.injEq] at hy
    refine ⟨ys, n', hy.1, hy.2, hyl, fun j f hj => ?_⟩
    obtain ⟨ho, hk⟩ := hone_of hone j f hj
    have hjl : j < fs.size := (Array.getElem?_eq_some_iff.1 hj).1
    have hcell := hat j hjl
    have hv : cs'[j]? = some (cs'[j]'(by omega)) := List.getElem?_eq_getElem (by omega)
    have h1 := hf j f hj
    rw [ho, hk] at h1
    have hone' : (cs'.drop j).take 1 = [cs'[j]'(by omega)] := by
      rw [List.drop_eq_getElem_cons (by omega)]
      rfl
    rw [hone'] at h1
    have hys : ys[j]? = some (ys[j]'(by omega)) := List.getElem?_eq_getElem (by omega)
    refine ⟨_, _, ?_, hys, h1.trans hys⟩
    rw [← Go.Deep.add_add, hcell, hv]
end
theorem open_ints_at {H : Type} {enc : TypeId × Value → H} {w : World} {base fuel : Nat} {spare : Nat → Bool} {held : Bool} {v : Value} {x : DataW H × List MemPlace}
    (h : DataW.trod enc Try.prog w base spare held fuel 23 [v] = some x) : ∃ (A : Option Addr) (cb : Nat) (l : List Int), v = .slice A l.length cb ∧ Reads w w.heap.size 1 A l.length (l.map (Value.int .i64)) ∧ l.length ≤ Rows.uptoBulk x.1 ∧ ∀ k ∈ l, -9223372036854775808 ≤ k ∧ k ≤ 9223372036854775807 := by
  obtain ⟨x1, x2⟩ := x
  rcases open_ints Try.underlying23 Try.underlying3 (by kernel_rfl) h with ⟨hcs, _⟩ | ⟨x, l, c, zs, hcs, _, hl, hm, hz, _, hcell, hwz⟩
  · simp at hcs
    exact ⟨none, 0, [], hcs, Reads.none_, Nat.zero_le _, fun k hk => by cases hk⟩
  · simp at hcs
    subst hcs
    have hzl : l ≤ zs.length := by rw [hz]; split <;> omega
    have hlen : (zs.take l).length = l := by rw [List.length_take]; omega
    refine ⟨some x, c, zs.take l, by rw [hlen], by rw [hlen]; exact reads_of_ints hzl rfl hcell, ?_, fun k hk => ?_⟩
    · have := Joins.sliceLen_trod Try.underlying23 h
      rw [hlen, ← this]
      exact bulk_slice _
    · have := hwz k (List.mem_of_mem_take hk)
      simp [Lit.wf, IntKind.min, IntKind.max, IntKind.signed, IntKind.bits] at this
      omega
structure StOk (s : St) : Prop where
  args : s.args.length ≤ 1048576
  text : s.text.length ≤ 9223372036854775807
  op : s.op.length ≤ 9223372036854775807
  num : -9223372036854775808 ≤ s.num ∧ s.num ≤ 9223372036854775807
  ty : -9223372036854775808 ≤ s.ty ∧ s.ty ≤ 9223372036854775807
  ints : ∀ k ∈ s.args, -9223372036854775808 ≤ k ∧ k ≤ 9223372036854775807
  textB : s.text.length ≤ 1048576
theorem open_steps {H : Type} {enc : TypeId × Value → H} {w : World} {base fuel : Nat} {spare : Nat → Bool} {held : Bool} {A : Option Addr} {len cap : Nat} {x : DataW H × List MemPlace}
    (h : DataW.trod enc Try.prog w base spare held fuel 41 [.slice A len cap] = some x) (hx : Rows.uptoBulk x.1 ≤ 1048576) : ∃ l : List St, l.length = len ∧ ArgPl w A l ∧ len ≤ 1048576 ∧ ∀ s ∈ l, StOk s := by
  rcases open_slice_fields Try.underlying41 Try.underlying49 (by kernel_rfl) (by kernel_rfl) h with ⟨hcs, _⟩ | ⟨a, len', cap', m, D, Pl, hcs, _, hl, _, hm, hxe, hall⟩
  · simp at hcs
    obtain ⟨rfl, rfl, rfl⟩ := hcs
    exact ⟨[], rfl, fun i s hs => by simp at hs, by omega, fun s hs => by cases hs⟩
  · simp at hcs
    obtain ⟨rfl, rfl, rfl⟩ := hcs
    have him : ∀ j, j < len → j < m := fun j hj => by rw [hm]; split <;> omega
    rw [hxe] at hx
    simp only [Rows.uptoBulk] at hx
    have hlen := bulk_len ((List.range len).map D)
    rw [List.length_map, List.length_range] at hlen
    obtain ⟨b, o, spot⟩ := a
    obtain ⟨l, hll, hq⟩ := list_of_fun len (fun i (s : St) => spot = none ∧ StOk s ∧ ∃ As c, b < w.heap.size ∧ w.cell? ⟨b, o + i * 5, none⟩ = some (.string ⟨s.op.toArray⟩) ∧ w.cell? ⟨b, o + i * 5 + 1, none⟩ = some (.slice As s.args.length c) ∧
      w.cell? ⟨b, o + i * 5 + 2, none⟩ = some (.int .i64 s.num) ∧ w.cell? ⟨b, o + i * 5 + 3, none⟩ = some (.string ⟨s.text.toArray⟩) ∧ w.cell? ⟨b, o + i * 5 + 4, none⟩ = some (.int .i64 s.ty) ∧ Reads w w.heap.size 1 As s.args.length (s.args.map (Value.int .i64))) fun i hi => by
      have hspot : spot = none := by
        obtain ⟨ys, n, _, _, _, hf⟩ := hall 0 (him 0 (by omega))
        obtain ⟨v0, y0, g0, _, t0⟩ := hf 0 _ rfl
        simpa [Addr.add] using World.cell?_spot g0
      subst hspot
      obtain ⟨ys, n, hD, _, _, hf⟩ := hall i (him i hi)
      obtain ⟨v0, y0, g0, _, t0⟩ := hf 0 _ rfl
      obtain ⟨v1, y1, g1, e1, t1⟩ := hf 1 _ rfl
      obtain ⟨v2, y2, g2, _, t2⟩ := hf 2 _ rfl
      obtain ⟨v3, y3, g3, e3, t3⟩ := hf 3 _ rfl
      obtain ⟨v4, y4, g4, _, t4⟩ := hf 4 _ rfl
      obtain ⟨z0, f0, _, z0w⟩ := DataW.trod_string Try.underlying9 t0
      obtain ⟨Ak, ck, ks, f1, hr1, hb1, hk1⟩ := open_ints_at t1
      obtain ⟨z2, f2, _, z2w⟩ := DataW.trod_int Try.underlying3 t2
      obtain ⟨z3, f3, d3, z3w⟩ := DataW.trod_string Try.underlying9 t3
      obtain ⟨z4, f4, _, z4w⟩ := DataW.trod_int Try.underlying3 t4
      simp at f0 f2 f3 f4
      subst f0 f1 f2 f3 f4
      simp [Lit.wf, IntKind.min, IntKind.max, IntKind.signed, IntKind.bits] at z2w z4w
      rw [addr_add] at g0 g1 g2 g3 g4
      have hbi : Rows.uptoBulk (D i) ≤ 1048576 := by
        have := bulk_mem ((List.range len).map D) (List.mem_map.2 ⟨i, List.mem_range.2 hi, rfl⟩)
        omega
      have hb2 : Rows.uptoBulk y1.1 ≤ Rows.uptoBulk (D i) := by
        have := bulk_mem (ys.map (·.1)) (List.mem_map.2 ⟨y1, List.mem_of_getElem? e1, rfl⟩)
        rw [hD]
        simp only [Rows.uptoBulk]
        omega
      have hb3 : Rows.uptoBulk y3.1 ≤ Rows.uptoBulk (D i) := by
        have := bulk_mem (ys.map (·.1)) (List.mem_map.2 ⟨y3, List.mem_of_getElem? e3, rfl⟩)
        rw [hD]
        simp only [Rows.uptoBulk]
        omega
      rw [d3] at hb3
      simp only [Rows.uptoBulk] at hb3
      have hz0 : (⟨z0.data.toList.toArray⟩ : ByteArray) = z0 := by cases z0; simp
      have hz3 : (⟨z3.data.toList.toArray⟩ : ByteArray) = z3 := by cases z3; simp
      have hm0 : z0.data.toList.length ≤ 9223372036854775807 := by have : z0.size ≤ 9223372036854775807 := z0w; simpa using this
      have hm3 : z3.data.toList.length ≤ 9223372036854775807 := by have : z3.size ≤ 9223372036854775807 := z3w; simpa using this
      exact ⟨⟨z0.data.toList, ks, z2, z3.data.toList, z4⟩, rfl, ⟨by show ks.length ≤ _; omega, hm3, hm0, show (-9223372036854775808 : Int) ≤ z2 ∧ z2 ≤ 9223372036854775807 from by omega, show (-9223372036854775808 : Int) ≤ z4 ∧ z4 ≤ 9223372036854775807 from by omega, hk1, by show z3.data.toList.length ≤ _; omega⟩, Ak, ck, block_lt_of_cell g0, by dsimp only; rw [hz0]; exact g0, g1, g2, by dsimp only; rw [hz3]; exact g3, g4, hr1⟩
    refine ⟨l, hll, fun i s hs => ?_, by omega, fun s hs => ?_⟩
    · obtain ⟨hi, rfl⟩ := List.getElem?_eq_some_iff.1 hs
      obtain ⟨h1, _, As, c, h2⟩ := hq i hi
      subst h1
      exact ⟨b, o, As, c, rfl, h2⟩
    · obtain ⟨i, hi0⟩ := List.getElem?_of_mem hs
      obtain ⟨hi1, rfl⟩ := List.getElem?_eq_some_iff.1 hi0
      exact (hq i hi1).2.1
end Go.Proofs.Ytniefnjcimempaa
