/- The opener of []Act: what the cells of the argument hold, and the bound on what they hold together. -/
import Derived.Test.YthmbmecodddkeaaRows
import Derived.Test.YthmbmecodddkeaaStep
import Derived.Deep.Slices
import Derived.Deep.Fields
import Derived.Deep.Matrix
import Derived.ChangeSame
import Derived.Lib.SmallJoins
import Derived.JoinedCond
namespace Go.Proofs.Ythmbmecodddkeaa
open Go.RowKit Go.ChangeShapes Go.WideShapes Go.Deep
/-! ### the bulk of what is read -/
theorem bulk_pos {H : Type} (d : DataW H) : 1 ≤ Rows.uptoBulk d := by
  cases d with
  | lit l => cases l <;> simp [Rows.uptoBulk]
  | nil => simp [Rows.uptoBulk]
  | ptr d => simp [Rows.uptoBulk]
  | slice elems spare => simp [Rows.uptoBulk]
  | agg parts => simp [Rows.uptoBulk]
  | iface t d => simp [Rows.uptoBulk]
  | map entries => simp [Rows.uptoBulk]
  | held h => simp [Rows.uptoBulk]
theorem bulk_len {H : Type} : ∀ l : List (DataW H), l.length ≤ Rows.uptoBulkAll l
  | [] => Nat.zero_le _
  | x :: r => by have := bulk_pos x; have := bulk_len r; simp only [Rows.uptoBulkAll, List.length_cons]; omega
theorem bulk_slice {H : Type} (d : DataW H) : Joins.sliceLen d ≤ Rows.uptoBulk d := by
  cases d with
  | slice elems spare => have := bulk_len elems; simp only [Joins.sliceLen, Rows.uptoBulk]; omega
  | lit l => simp [Joins.sliceLen]
  | nil => simp [Joins.sliceLen]
  | ptr d => simp [Joins.sliceLen]
  | agg parts => simp [Joins.sliceLen]
  | iface t d => simp [Joins.sliceLen]
  | map entries => simp [Joins.sliceLen]
  | held h => simp [Joins.sliceLen]
theorem bulk_two {H : Type} : ∀ (l : List (DataW H)) (i j : Nat) (x y : DataW H), i < j → l[i]? = some x → l[j]? = some y → Rows.uptoBulk x + Rows.uptoBulk y ≤ Rows.uptoBulkAll l
  | [], i, j, x, y, _, h, _ => by simp at h
  | d :: r, 0, 0, x, y, h, _, _ => absurd h (Nat.lt_irrefl 0)
  | d :: r, 0, j + 1, x, y, _, h1, h2 => by
    simp at h1 h2
    subst h1
    have : ∀ (l : List (DataW H)) (j : Nat), l[j]? = some y → Rows.uptoBulk y ≤ Rows.uptoBulkAll l := by
      intro l
      induction l with
      | nil => intro j h; simp at h
      | cons a t ih =>
        intro j h
        simp only [Rows.uptoBulkAll]
        cases j with
        | zero => simp at h; subst h; omega
        | succ j => simp at h; have := ih j h; omega
    have := this r j h2
    simp only [Rows.uptoBulkAll]; omega
  | d :: r, i + 1, 0, x, y, h, _, _ => absurd h (Nat.not_lt_zero _)
  | d :: r, i + 1, j + 1, x, y, h, h1, h2 => by
    simp at h1 h2
    have := bulk_two r i j x y (by omega) h1 h2
    simp only [Rows.uptoBulkAll]; omega
/-! ### acts -/
structure ActR where
  k : Int
  x : Int
  nm : ByteArray
  ot : ByteArray
  Ad : Option Addr
  nd : Nat
  cd : Nat
  Ak : Option Addr
  mm : Nat
  ck : Nat
  data : List UInt8
  keep : List Int
structure ActR.ok (a : ActR) (w : World) : Prop where
  k : -9223372036854775808 ≤ a.k ∧ a.k ≤ 9223372036854775807
  x : -9223372036854775808 ≤ a.x ∧ a.x ≤ 9223372036854775807
  nm : a.nm.size ≤ maxLen
  ot : a.ot.size ≤ maxLen
  rd : Reads w w.heap.size 1 a.Ad a.nd (a.data.map byteV)
  dl : a.data.length = a.nd
  rk : Reads w w.heap.size 1 a.Ak a.mm (a.keep.map (Value.int .i64))
  kl : a.keep.length = a.mm
  kc : a.mm ≤ a.ck
  kb : ∀ k ∈ a.keep, -9223372036854775808 ≤ k ∧ k ≤ 9223372036854775807
structure ActAt (w : World) (b o i : Nat) (a : ActR) : Prop where
  blt : b < w.heap.size
  ok : a.ok w
  c0 : w.cell? ⟨b, o + i * 6, none⟩ = some (.int .i64 a.k)
  c1 : w.cell? ⟨b, o + i * 6 + 1, none⟩ = some (.int .i64 a.x)
  c2 : w.cell? ⟨b, o + i * 6 + 2, none⟩ = some (.string a.nm)
  c3 : w.cell? ⟨b, o + i * 6 + 3, none⟩ = some (.string a.ot)
  c4 : w.cell? ⟨b, o + i * 6 + 4, none⟩ = some (.slice a.Ad a.nd a.cd)
  c5 : w.cell? ⟨b, o + i * 6 + 5, none⟩ = some (.slice a.Ak a.mm a.ck)
/-- The script in memory, and how much it holds. -/
structure ActsM (w : World) (A : Option Addr) (n : Nat) (l : List ActR) : Prop where
  len : l.length = n
  at_ : ∀ i (hi : i < l.length), ∃ b o, A = some ⟨b, o, none⟩ ∧ ActAt w b o i l[i]
  sum : (l.map fun a => a.nd + a.mm + 1).sum ≤ 1048576
theorem list_of_fun {α : Type} (len : Nat) (Q : Nat → α → Prop) (h : ∀ i, i < len → ∃ st, Q i st) : ∃ l : List α, l.length = len ∧ ∀ i (hi : i < l.length), Q i l[i] := by
  induction len with
  | zero => exact ⟨[], rfl, fun i hi => by simp at hi⟩
  | succ k ih =>
    obtain ⟨l, hl, hq⟩ := ih fun i hi => h i (by omega)
    obtain ⟨st, hs⟩ := h k (by omega)
    refine ⟨l ++ [st], by simp [hl], fun i hi => ?_⟩
    by_cases hik : i < l.length
    · rw [List.getElem_append_left hik]; exact hq i hik
    · have : i = l.length := by simp at hi; omega
      subst this
      rw [List.getElem_append_right (Nat.le_refl _)]
      simp [hl, hs]
theorem sum_le {H : Type} : ∀ (l : List ActR) (xs : List (DataW H)), l.length = xs.length → (∀ i (hi : i < l.length) (hx : i < xs.length), l[i].nd + l[i].mm + 1 ≤ Rows.uptoBulk xs[i]) → (l.map fun a => a.nd + a.mm + 1).sum ≤ Rows.uptoBulkAll xs
  | [], _, _, _ => Nat.zero_le _
  | a :: t, [], h, _ => by simp at h
  | a :: t, x :: xs, h, hq => by
    have h0 := hq 0 (by simp) (by simp)
    have ih := sum_le t xs (by simpa using h) fun i hi hx => by
      have := hq (i + 1) (by simp; omega) (by simp; omega)
      simpa using this
    simp only [List.getElem_cons_zero] at h0
    simp only [List.map_cons, List.sum_cons, Rows.uptoBulkAll]
    omega
theorem byte_of_wf {x : Int} (h : (Lit.int .u8 x).wf = true) : byteV (UInt8.ofNat x.toNat) = .int .u8 x := by
  simp [Lit.wf, IntKind.min, IntKind.max, IntKind.signed, IntKind.bits] at h
  have e : (UInt8.ofNat x.toNat).toNat = x.toNat := by rw [UInt8.toNat_ofNat', Nat.mod_eq_of_lt (by omega)]
  unfold byteV
  rw [e]
  congr 1
  omega
theorem reads_of_cells {w : World} {x : Addr} {len cap : Nat} {zs : List Int} (hl : len ≤ cap) (hz : zs.length = cap)
    (hcell : ∀ i, i < zs.length → w.cell? (x.add i) = some (.int .u8 (zs.getD i 0))) (hwz : ∀ n ∈ zs, (Lit.int .u8 n).wf = true) :
    ∃ l : List UInt8, Reads w w.heap.size 1 (some x) len (l.map byteV) := by
  refine ⟨(zs.take len).map fun z => UInt8.ofNat z.toNat, by simp; omega, fun hn => ?_⟩
  have hb : x.block < w.heap.size := by
    have := block_lt_of_cell (hcell 0 (by omega))
    rwa [block_of_add] at this
  refine ⟨x, rfl, hb, fun j u hu => ?_⟩
  rw [List.map_map, List.getElem?_map] at hu
  by_cases hj : j < len
  · have hjz : j < zs.length := by omega
    rw [List.getElem?_take, if_pos hj, List.getElem?_eq_getElem hjz] at hu
    simp only [Option.map_some, Option.some.injEq, Function.comp] at hu
    rw [hcell j hjz, ← hu, byte_of_wf (hwz _ (List.getElem_mem _))]
    simp [List.getD, hjz]
  · rw [List.getElem?_take, if_neg hj] at hu; simp at hu
theorem reads_of_ints {w : World} {x : Addr} {len cap : Nat} {zs : List Int} (hl : len ≤ cap) (hz : zs.length = cap)
    (hcell : ∀ i, i < zs.length → w.cell? (x.add i) = some (.int .i64 (zs.getD i 0))) : Reads w w.heap.size 1 (some x) len ((zs.take len).map (Value.int .i64)) := by
  refine ⟨by simp; omega, fun hn => ?_⟩
  have hb : x.block < w.heap.size := by
    have := block_lt_of_cell (hcell 0 (by omega))
    rwa [block_of_add] at this
  refine ⟨x, rfl, hb, fun j u hu => ?_⟩
  rw [List.getElem?_map] at hu
  by_cases hj : j < len
  · have hjz : j < zs.length := by omega
    rw [List.getElem?_take, if_pos hj, List.getElem?_eq_getElem hjz] at hu
    simp only [Option.map_some, Option.some.injEq] at hu
    rw [hcell j hjz, ← hu]
    simp [List.getD, hjz]
  · rw [List.getElem?_take, if_neg hj] at hu; simp at hu
section
variable {H : Type} {enc : TypeId × Value → H} {P : Program} {w : World} {base : Nat} {spare : Nat → Bool} {held : Bool}
theorem open_slice_fields {t e : TypeId} {fs : Array Field} {fuel : Nat} {cs : List Value} {x : DataW H × List MemPlace} (ht : P.underlying t = some (.slice e)) (he : P.underlying e = some (.struct fs))
    (hone : oneCellFields P fs = true) (hC : P.cellsOf e = fs.size) (h : DataW.trod enc P w base spare held fuel t cs = some x) :
    (cs = [.slice none 0 0] ∧ x = (.nil, [])) ∨
    ∃ (a : Addr) (len cap m : Nat) (D : Nat → DataW H) (Pl : Nat → List MemPlace), cs = [.slice (some a) len cap] ∧ base ≤ a.block ∧ len ≤ cap ∧ cap ≤ maxLen ∧ m = (if spare a.block then cap else len) ∧
      x = (.slice ((List.range len).map D) ((List.range (m - len)).map fun j => D (len + j)), MemPlace.row a (m * fs.size) ++ (List.range m).flatMap Pl) ∧
      ∀ i, i < m → ∃ (ys : List (DataW H × List MemPlace)) (n : Nat), D i = .agg (ys.map (·.1)) ∧ Pl i = ys.flatMap (·.2) ∧ ys.length = fs.size ∧
        ∀ (j : Nat) (f : Field), fs[j]? = some f → ∃ (v : Value) (y : DataW H × List MemPlace), w.cell? (a.add (i * fs.size + j)) = some v ∧ ys[j]? = some y ∧ DataW.trod enc P w base spare held n f.type [v] = some y := by
  rcases open_slice ht h with h0 | ⟨a, len, cap, m, n, D, Pl, hcs, hb, hl, hm, hmm, hx, hi⟩
  · exact .inl h0
  · refine .inr ⟨a, len, cap, m, D, Pl, hcs, hb, hl, hm, hmm, by rw [hC] at hx; exact hx, fun i him => ?_⟩
    obtain ⟨cs', hc, ht'⟩ := hi i him
    rw [hC] at hc
    obtain ⟨ys, n', hn', hy, hlen, hyl, hf⟩ := DataW.trod_struct he ht'
    obtain ⟨_, hcl, hat⟩ := World.cells?_some hc
    simp only [Prod.mk.injEq] at hy
    refine ⟨ys, n', hy.1, hy.2, hyl, fun j f hj => ?_⟩
    obtain ⟨ho, hk⟩ := hone_of hone j f hj
    have hjl : j < fs.size := (Array.getElem?_eq_some_iff.1 hj).1
    have hcell := hat j hjl
    have hv : cs'[j]? = some (cs'[j]'(by omega)) := List.getElem?_eq_getElem (by omega)
    have h1 := hf j f hj
    rw [ho, hk] at h1
    have hone' : (cs'.drop j).take 1 = [cs'[j]'(by omega)] := by
      rw [List.drop_eq_getElem_cons (by omega)]
      rfl
    rw [hone'] at h1
    have hys : ys[j]? = some (ys[j]'(by omega)) := List.getElem?_eq_getElem (by omega)
    refine ⟨_, _, ?_, hys, h1.trans hys⟩
    rw [← Go.Deep.add_add, hcell, hv]
end
theorem open_bytes {H : Type} {enc : TypeId × Value → H} {w : World} {base fuel : Nat} {spare : Nat → Bool} {held : Bool} {v : Value} {x : DataW H × List MemPlace}
    (h : DataW.trod enc Try.prog w base spare held fuel 28 [v] = some x) : ∃ (A : Option Addr) (nb cb : Nat) (l : List UInt8), v = .slice A nb cb ∧ nb ≤ cb ∧ Reads w w.heap.size 1 A nb (l.map byteV) ∧ nb ≤ Rows.uptoBulk x.1 := by
  obtain ⟨x1, x2⟩ := x
  rcases open_ints Try.underlying28 Try.underlying5 (by kernel_rfl) h with ⟨hcs, _⟩ | ⟨x, l, c, zs, hcs, _, hl, hm, hz, _, hcell, hwz⟩
  · simp at hcs
    exact ⟨none, 0, 0, [], hcs, Nat.le_refl _, Reads.none_, Nat.zero_le _⟩
  · simp at hcs
    subst hcs
    obtain ⟨bs, hr⟩ := reads_of_cells (len := l) (cap := zs.length) (by rw [hz]; split <;> omega) rfl hcell hwz
    refine ⟨_, _, _, bs, rfl, hl, hr, ?_⟩
    have := Joins.sliceLen_trod Try.underlying28 h
    rw [← this]
    exact bulk_slice _
theorem open_keeps {H : Type} {enc : TypeId × Value → H} {w : World} {base fuel : Nat} {spare : Nat → Bool} {held : Bool} {v : Value} {x : DataW H × List MemPlace}
    (h : DataW.trod enc Try.prog w base spare held fuel 54 [v] = some x) : ∃ (A : Option Addr) (nb cb : Nat) (l : List Int), v = .slice A nb cb ∧ nb ≤ cb ∧ l.length = nb ∧ Reads w w.heap.size 1 A nb (l.map (Value.int .i64)) ∧ nb ≤ Rows.uptoBulk x.1 ∧ ∀ k ∈ l, -9223372036854775808 ≤ k ∧ k ≤ 9223372036854775807 := by
  obtain ⟨x1, x2⟩ := x
  rcases open_ints Try.underlying54 Try.underlying3 (by kernel_rfl) h with ⟨hcs, _⟩ | ⟨x, l, c, zs, hcs, _, hl, hm, hz, _, hcell, hwz⟩
  · simp at hcs
    exact ⟨none, 0, 0, [], hcs, Nat.le_refl _, rfl, Reads.none_, Nat.zero_le _, fun k hk => by cases hk⟩
  · simp at hcs
    subst hcs
    have hzl : l ≤ zs.length := by rw [hz]; split <;> omega
    refine ⟨_, _, _, zs.take l, rfl, hl, by rw [List.length_take]; omega, reads_of_ints hzl rfl hcell, ?_, fun k hk => ?_⟩
    · have := Joins.sliceLen_trod Try.underlying54 h
      rw [← this]
      exact bulk_slice _
    · have := hwz k (List.mem_of_mem_take hk)
      simp [Lit.wf, IntKind.min, IntKind.max, IntKind.signed, IntKind.bits] at this
      omega
theorem open_acts {H : Type} {enc : TypeId × Value → H} {w : World} {base fuel : Nat} {spare : Nat → Bool} {held : Bool} {A : Option Addr} {len cap : Nat} {x : DataW H × List MemPlace}
    (h : DataW.trod enc Try.prog w base spare held fuel 42 [.slice A len cap] = some x) (hx : Rows.uptoBulk x.1 ≤ 1048576) : ∃ l, ActsM w A len l := by
  rcases open_slice_fields Try.underlying42 Try.underlying56 (by kernel_rfl) (by kernel_rfl) h with ⟨hcs, _⟩ | ⟨a, len', cap', m, D, Pl, hcs, _, hl, _, hm, hxe, hall⟩
  · simp at hcs
    obtain ⟨rfl, rfl, rfl⟩ := hcs
    exact ⟨[], rfl, fun i hi => by simp at hi, by simp⟩
  · simp at hcs
    obtain ⟨rfl, rfl, rfl⟩ := hcs
    have him : ∀ j, j < len → j < m := fun j hj => by rw [hm]; split <;> omega
    obtain ⟨b, o, spot⟩ := a
    obtain ⟨l, hll, hq⟩ := list_of_fun len (fun i (a : ActR) => spot = none ∧ ActAt w b o i a ∧ a.nd + a.mm + 1 ≤ Rows.uptoBulk (D i)) fun i hi => by
      have hspot : spot = none := by
        obtain ⟨ys, n, _, _, _, hf⟩ := hall 0 (him 0 (by omega))
        obtain ⟨v0, y0, g0, _, t0⟩ := hf 0 _ rfl
        simpa [Addr.add] using World.cell?_spot g0
      subst hspot
      obtain ⟨ys, n, hD, _, _, hf⟩ := hall i (him i hi)
      obtain ⟨v0, y0, g0, _, t0⟩ := hf 0 _ rfl
      obtain ⟨v1, y1, g1, _, t1⟩ := hf 1 _ rfl
      obtain ⟨v2, y2, g2, _, t2⟩ := hf 2 _ rfl
      obtain ⟨v3, y3, g3, _, t3⟩ := hf 3 _ rfl
      obtain ⟨v4, y4, g4, e4, t4⟩ := hf 4 _ rfl
      obtain ⟨v5, y5, g5, e5, t5⟩ := hf 5 _ rfl
      obtain ⟨z0, f0, _, z0w⟩ := DataW.trod_int Try.underlying3 t0
      obtain ⟨z1, f1, _, z1w⟩ := DataW.trod_int Try.underlying3 t1
      obtain ⟨z2, f2, _, z2w⟩ := DataW.trod_string Try.underlying9 t2
      obtain ⟨z3, f3, _, z3w⟩ := DataW.trod_string Try.underlying9 t3
      obtain ⟨Ad, nd, cd, bs, f4, hc4, hr4, hb4⟩ := open_bytes t4
      obtain ⟨Ak, mk, ck, ks, f5, hc5, hl5, hr5, hb5, hk5⟩ := open_keeps t5
      simp at f0 f1 f2 f3
      subst f0 f1 f2 f3 f4 f5
      simp [Lit.wf, IntKind.min, IntKind.max, IntKind.signed, IntKind.bits] at z0w z1w
      rw [addr_add] at g0 g1 g2 g3 g4 g5
      refine ⟨⟨z0, z1, z2, z3, Ad, nd, cd, Ak, mk, ck, bs, ks⟩, rfl, ⟨block_lt_of_cell g0, ⟨by omega, by omega, z2w, z3w, hr4, by have := hr4.1; simpa using this, hr5, hl5, hc5, hk5⟩, g0, g1, g2, g3, g4, g5⟩, ?_⟩
      have h2 := bulk_two (ys.map (·.1)) 4 5 y4.1 y5.1 (by omega) (by rw [List.getElem?_map, e4]; rfl) (by rw [List.getElem?_map, e5]; rfl)
      rw [hD]
      simp only [Rows.uptoBulk]
      omega
    refine ⟨l, hll, fun i hi => ?_, ?_⟩
    · obtain ⟨h1, h2, _⟩ := hq i hi
      subst h1
      exact ⟨b, o, rfl, h2⟩
    · have h1 := sum_le l ((List.range len).map D) (by simp [hll]) fun i hi hx => by
        have := (hq i hi).2.2
        simpa using this
      rw [hxe] at hx
      simp only [Rows.uptoBulk] at hx
      omega
end Go.Proofs.Ythmbmecodddkeaa
