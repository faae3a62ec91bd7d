/- The walks of evergreenbase.Bytes and regex.Literal. -/
import Derived.Test.YtpiagfmjekcncaaDoorjTerms
import Derived.Test.YtpiagfmjekcncaaDoorjLsP
import Derived.Laws.MakeOwn
import Derived.Laws.BytesArg
import Derived.Deep.LoopGhost
set_option linter.unusedVariables false
set_option linter.unusedSimpArgs false
set_option linter.unusedSectionVars false
namespace Go.Proofs.YtpiagfmjekcncaaDoor
open Go.RowKit
def byteV (b : UInt8) : Value := .int .u8 (b.toNat : Int)
theorem of_nums (l : List UInt8) : ((l.map fun b => (b.toNat : Int)).map fun n : Int => UInt8.ofNat n.toNat) = l := by
  induction l with
  | nil => rfl
  | cons x l ih => simp only [List.map_cons, ih, Int.toNat_natCast, UInt8.ofNat_toNat]
theorem str_of (w : World) (A : Option Addr) (n c B : Nat) (l : List UInt8) (hr : Reads w B 1 A n (l.map byteV)) :
    (convert 38 9 (.slice A n c)).run Tryd.prog w = .ok (.string ⟨l.toArray⟩) w := by
  rcases Nat.eq_zero_or_pos n with h0 | h0
  · subst h0
    have hl : l = [] := List.eq_nil_of_length_eq_zero (by have := hr.1; simpa using this)
    subst hl
    rcases A with _ | ad
    · exact run_convert_bytes_nil w 38 5 Tryd.underlying38 Tryd.underlying5 0 c 9 Tryd.underlying9
    · rw [run_convert_bytes_string w 38 9 5 _ _ _ Tryd.underlying38 Tryd.underlying5 Tryd.underlying9]
      have := run_bytesToString (P := Tryd.prog) w ad 0 c [] (run_loadCells_list (P := Tryd.prog) w ad [] (fun j v hj => by simp at hj))
      exact this
  · obtain ⟨b, o, rfl, _, hc⟩ := hr.form h0
    have hl : l.length = n := by have := hr.1; simpa using this
    have := run_convert_bytes_arg (P := Tryd.prog) w 38 5 Tryd.underlying38 Tryd.underlying5 b o n c (l.map fun b => (b.toNat : Int)) (by simpa using hl) (fun i hi => by
      have h2 : (l.map byteV)[i]? = some (byteV (l[i]'(by omega))) := by simp [hl, hi]
      rw [hc i _ h2]
      simp [byteV, hl, hi, List.getD]) 9 Tryd.underlying9
    rw [this]
    unfold strOfNums
    rw [of_nums]
/-- The two byte slices have the same elements, or not. -/
theorem bytes_any (A1 A2 : Option Addr) (n1 n2 c1 c2 B1 B2 : Nat) (l1 l2 : List UInt8) (w : World) (hr1 : Reads w B1 1 A1 n1 (l1.map byteV)) (hr2 : Reads w B2 1 A2 n2 (l2.map byteV)) :
    Calls Tryd.prog 14 #[.slice A1 n1 c1, .slice A2 n2 c2] w fun e w' => e = .returned (.bool (l1 == l2)) ∧ w = w' := by
  have e1 := str_of w A1 n1 c1 B1 l1 hr1
  have e2 := str_of w A2 n2 c2 B2 l2 hr2
  clear hr1 hr2
  go_enter Tryd.func14, Tryd.ntmps14
  go_wp2
  go_ret
  exact ⟨rfl, rfl⟩
/-- The cells of an expression of one letter. -/
def litC (x : UInt8) : List Value := [.int .i64 2, .int .u64 (wd (oneS x.toNat) 0), .int .u64 (wd (oneS x.toNat) 1), .int .u64 (wd (oneS x.toNat) 2), .int .u64 (wd (oneS x.toNat) 3), .int .i64 0, .int .i64 0, .slice none 0 0]
def litCs (l : List UInt8) : List Value := l.flatMap litC
theorem litCs_len (l : List UInt8) : (litCs l).length = l.length * 8 := by
  unfold litCs
  induction l with
  | nil => rfl
  | cons x l ih => rw [List.flatMap_cons, List.length_append, ih, List.length_cons]; simp [litC]; omega
theorem litCs_app (l l' : List UInt8) : litCs (l ++ l') = litCs l ++ litCs l' := by unfold litCs; rw [List.flatMap_append]
theorem litCs_one (x : UInt8) : litCs [x] = litC x := by unfold litCs; simp
theorem litCs_at {l : List UInt8} {i j : Nat} {x : UInt8} {u : Value} (h : l[i]? = some x) (hj : (litC x)[j]? = some u) : (litCs l)[i * 8 + j]? = some u := by
  have hi := at_lt h
  have e : l = l.take i ++ x :: l.drop (i + 1) := by
    conv => lhs; rw [← List.take_append_drop i l]
    rw [List.drop_eq_getElem_cons hi]
    congr 2
    rw [List.getElem?_eq_getElem hi] at h
    exact Option.some.inj h
  have hlen : (litCs (l.take i)).length = i * 8 := by rw [litCs_len, List.length_take, Nat.min_eq_left (by omega)]
  have hj8 : j < 8 := by
    have := (List.getElem?_eq_some_iff.1 hj).1
    simpa [litC] using this
  rw [e, litCs_app, List.getElem?_append_right (by omega), hlen, show i * 8 + j - i * 8 = j by omega]
  show (litCs (x :: l.drop (i + 1)))[j]? = some u
  rw [show x :: l.drop (i + 1) = [x] ++ l.drop (i + 1) from rfl, litCs_app, litCs_one, List.getElem?_append_left (by simpa [litC] using hj8)]
  exact hj
def litR (l : List UInt8) : Rx := Rx.seq (l.map Rx.one)
theorem litC_rxv (w : World) (F : Nat → Prop) (x : UInt8) : RxV w F (Rx.one x) (litC x) := RxV.set_any w F (oneS x.toNat)
theorem litCs_rxvs (w : World) (F : Nat → Prop) : ∀ l : List UInt8, RxVs w F (l.map Rx.one) (litCs l)
  | [] => by rw [List.map_nil]; unfold RxVs; rfl
  | x :: l => by
    rw [List.map_cons]
    unfold RxVs
    exact ⟨litC x, litCs l, by unfold litCs; rw [List.flatMap_cons], litC_rxv w F x, litCs_rxvs w F l⟩
/-- A literal's expression in memory. -/
def LitV (w : World) (lo : Nat) (l : List UInt8) (cs : List Value) : Prop := match l with
  | [] => ∃ A c, cs = [.int .i64 1, .int .u64 0, .int .u64 0, .int .u64 0, .int .u64 0, .int .i64 0, .int .i64 0, .slice A 0 c]
  | [x] => cs = litC x
  | x :: y :: l => ∃ b c cur, cs = [.int .i64 3, .int .u64 0, .int .u64 0, .int .u64 0, .int .u64 0, .int .i64 0, .int .i64 0, .slice (some ⟨b, 0, none⟩) (x :: y :: l).length c] ∧ lo ≤ b ∧ Blk w b 27 cur ∧ ∀ j u, (litCs (x :: y :: l))[j]? = some u → w.cell? ⟨b, j, none⟩ = some u
theorem LitV.below {w w' : World} {lo : Nat} {l : List UInt8} {cs : List Value} (h : LitV w lo l cs) (hb : Below w.heap.size w w') : LitV w' lo l cs := by
  match l, h with
  | [], h => exact h
  | [x], h => exact h
  | x :: y :: l, h =>
    obtain ⟨b, c, cur, h1, h2, h3, h4⟩ := h
    exact ⟨b, c, cur, h1, h2, h3.below hb h3.lt, fun j u hu => (hb.cell (p := ⟨b, j, none⟩) h3.lt).trans (h4 j u hu)⟩
theorem LitV.rxv {w : World} {lo : Nat} {l : List UInt8} {cs : List Value} (h : LitV w lo l cs) : RxV w (fun i => lo ≤ i ∧ i < w.heap.size) (litR l) cs := by
  match l, h with
  | [], h =>
    obtain ⟨A, c, rfl⟩ := h
    show RxV w _ (Rx.plain 1 []) _
    unfold Rx.plain RxV RxVs
    exact ⟨A, c, [], rfl, ⟨rfl, fun h => absurd h (by decide)⟩, rfl⟩
  | [x], h =>
    have h : cs = litC x := h
    subst h
    exact litC_rxv w _ x
  | x :: y :: l, h =>
    obtain ⟨b, c, cur, rfl, h2, h3, h4⟩ := h
    show RxV w _ (Rx.plain 3 ((x :: y :: l).map Rx.one)) _
    unfold Rx.plain RxV
    refine ⟨some ⟨b, 0, none⟩, c, litCs (x :: y :: l), by rw [List.length_map]; rfl, ⟨by rw [litCs_len, List.length_map], fun _ => ⟨b, 0, rfl, ⟨h2, h3.lt⟩, h3.lt, fun j u hu => by rw [Nat.zero_add]; exact h4 j u hu⟩⟩, litCs_rxvs w _ _⟩
end Go.Proofs.YtpiagfmjekcncaaDoor
namespace Go.Proofs.YtpiagfmjekcncaaDoor
open Go.RowKit
theorem byte_of_wf {x : Int} (h : (Lit.int .u8 x).wf = true) : byteV (UInt8.ofNat x.toNat) = .int .u8 x := by
  simp [Lit.wf, IntKind.min, IntKind.max, IntKind.signed, IntKind.bits] at h
  have e : (UInt8.ofNat x.toNat).toNat = x.toNat := by rw [UInt8.toNat_ofNat', Nat.mod_eq_of_lt (by omega)]
  unfold byteV
  rw [e]
  congr 1
  omega
/-- A byte slice's cells, as the reader hands them over, read as a list of bytes. -/
theorem reads_of_cells {w : World} {x : Addr} {len cap : Nat} {zs : List Int} (hl : len ≤ cap) (hz : zs.length = cap)
    (hcell : ∀ i, i < zs.length → w.cell? (x.add i) = some (.int .u8 (zs.getD i 0))) (hwz : ∀ n ∈ zs, (Lit.int .u8 n).wf = true) :
    ∃ l : List UInt8, Reads w w.heap.size 1 (some x) len (l.map byteV) := by
  refine ⟨(zs.take len).map fun z => UInt8.ofNat z.toNat, by simp; omega, fun hn => ?_⟩
  have hb : x.block < w.heap.size := by
    have := block_lt_of_cell (hcell 0 (by omega))
    rwa [block_of_add] at this
  refine ⟨x, rfl, hb, fun j u hu => ?_⟩
  rw [List.map_map, List.getElem?_map] at hu
  by_cases hj : j < len
  · have hjz : j < zs.length := by omega
    rw [List.getElem?_take, if_pos hj, List.getElem?_eq_getElem hjz] at hu
    simp only [Option.map_some, Option.some.injEq, Function.comp] at hu
    rw [hcell j hjz, ← hu, byte_of_wf (hwz _ (List.getElem_mem _))]
    simp [List.getD, hjz]
  · rw [List.getElem?_take, if_neg hj] at hu; simp at hu
theorem reads_nil (w : World) : Reads w w.heap.size 1 none 0 (([] : List UInt8).map byteV) := Reads.none_
end Go.Proofs.YtpiagfmjekcncaaDoor
