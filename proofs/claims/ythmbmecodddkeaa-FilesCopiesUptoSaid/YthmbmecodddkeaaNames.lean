/- The walk of Names of the file system: the names, increasing. -/
import Derived.Test.YthmbmecodddkeaaSync
import Derived.Test.YthmbmecodddkeaaShelf
import Derived.Maps.RangeWalk
import Derived.Sort.KeysCollected
import Derived.Sort.OwnSorted
import Derived.Maps.AppendAt
import Derived.OwnWalk
namespace Go.Proofs.Ythmbmecodddkeaa
open Go.RowKit Go.WideMaps Go.Maps Go.Sort
theorem infoStr : (Try.prog.info? 9).map (fun i => (i.zero, i.size, i.bytes)) = some (some (.string ⟨#[]⟩), 1, 16) := by kernel_rfl
theorem le_of_before : ∀ (a b : List UInt8), bytesBefore a b = true → a ≤ b
  | [], _, _ => by simp
  | _ :: _, [], h => by simp [bytesBefore] at h
  | x :: s, y :: t, h => by
    simp only [bytesBefore, Bool.or_eq_true, Bool.and_eq_true, decide_eq_true_eq, beq_iff_eq] at h
    rw [List.cons_le_cons_iff]
    rcases h with h | ⟨rfl, h⟩
    · exact .inl h
    · exact .inr ⟨rfl, le_of_before s t h⟩
theorem strKeys_datum (l : List Row) : strKeys (datum l) = l.map (·.name) := by
  simp [datum, strKeys, ent, strOf]
theorem size_datum (l : List Row) : Maps.size (datum l) = l.length := by simp [datum, Maps.size]
theorem sorted_names {l : List Row} (h : Rising l) {ss : List (List UInt8)} (hp : ss.Perm (strKeys (datum l))) : ss.mergeSort (fun x y => decide (x ≤ y)) = l.map (·.name) := by
  rw [strKeys_datum] at hp
  rw [show (fun x y : List UInt8 => decide (x ≤ y)) = leB from rfl, mergeSort_of_perm hp]
  apply List.mergeSort_of_pairwise
  rw [List.pairwise_map]
  exact h.imp fun {a b} hab => by simpa [leB] using le_of_before _ _ hab
theorem ptrR_form (v : Value) (y : DataW Unit × List MemPlace) (h : ptrR v = some y) : ∃ c : Int, v = ptrV c := by
  unfold ptrR at h
  split at h
  · exact ⟨-1, rfl⟩
  · rename_i g
    exact ⟨(g : Int), by unfold ptrV; rw [if_neg (by omega)]; rfl⟩
  · cases h
theorem keyStr (key : Value) (kl : Lit) (hk : keyOf Try.prog 9 key = some kl) : ∃ x, key = encStr x := by
  obtain ⟨x, hx, _⟩ := Maps.keyOf_str Try.underlying9 hk
  exact ⟨x, hx⟩
def NmEnd (w : World) (l : List Row) (e : Ending) (w' : World) : Prop :=
  ∃ A c, e = .returned (.slice A l.length c) ∧ w'.ownsRow w.heap.size 9 1 (.slice A l.length c) l.length (l.map fun r => encStr r.name) ∧ Below w.heap.size w w'
def NmRel (w : World) (mb r n : Nat) (l : List Row) (v : Value) (wr : World) : Prop :=
  ∃ (left : Lit → Bool) (cnt : Nat) (ss : List (List UInt8)), wr.ranges Try.prog 9 ptrR mb r n (datum l) left cnt ∧ ss.length + cnt ≤ l.length ∧
      wr.ownsRow w.heap.size 9 1 v ss.length (ss.map encStr) ∧ Collected (datum l) left ss ∧ Below w.heap.size w wr
set_option maxRecDepth 100000 in
set_option maxHeartbeats 1000000 in
theorem names_any (tb mb n : Nat) (l : List Row) (off lim : Bool) (left : Int) (w : World) (hb : Blk w tb 66 (sysC mb off lim left)) (hown : w.ownsMap Try.prog 9 ptrR mb n (datum l)) (hR : Rising l) (hn : l.length ≤ 1000000) :
    Calls Try.prog 12 #[.pointer (some ⟨tb, 0, none⟩)] w (NmEnd w l) := by
  obtain ⟨i0, hi, hz0, hz1, hz2⟩ := info_parts infoStr
  have hc := hb.cell 0
  simp only [sysC, List.getElem?_toArray, List.getElem?_cons_zero] at hc
  have hris := Lib.hid hR
  have hbl := hown.lt
  clear hb hR
  go_enter Try.func12, Try.ntmps12
  go_wp2_with (at_range; refine wpList_range_own _ rfl _ 64 rfl 9 68 lawS Try.underlying64 _ mb n _ rfl hown ?_; intro w0 hrg0 hg0 hs0)
  clear hs0
  go_frame
  go_loopw [3] (fun v wr => NmRel w mb w.heap.size n l v wr) (fun _ wr => wr.rangeLeft mb w.heap.size)
  case atStart =>
    exact ⟨_, _, [], hrg0, by simp [size_datum], ⟨rfl, .inl ⟨rfl, rfl⟩⟩, Collected.start _, (Below.refl _ _).grown hg0 (Nat.le_refl _) (fun j hj => by cases hj)⟩
  case round =>
    obtain ⟨left, cnt, ss, hrg, hcs, hrow, hC, hnx⟩ := hrel
    go_wp2_with (at_next; refine wpList_next_ranges _ rfl _ rfl 9 lawS ptrR encStr ptrV keyStr ptrR_form mb w.heap.size n _ _ _ rfl hrg ?_ ?_)
    · intro hc0 hl0
      have hperm := hC.perm hown lawS Try.underlying9 hl0
      have hsort := Lib.hid (sorted_names hris.out hperm)
      have hlen : ss.length = l.length := by have := hperm.length_eq; simpa [strKeys_datum] using this
      have HL := Lib.hid hlen
      clear hlen hc0 hl0 hperm
      by_cases hz : ss = []
      · subst hz
        obtain ⟨A, c, rfl⟩ := own_form hrow
        go_wp2_with fail
        refine (Try.slices_Sort_string_none A c wr).mono ?_
        rintro e w' ⟨rfl, rfl⟩
        go_wp2_with fail
        go_ret
        have h0 : l.length = 0 := by have := HL.out; simpa using this.symm
        obtain rfl := List.eq_nil_of_length_eq_zero h0
        exact ⟨A, c, rfl, hrow, hnx⟩
      · rcases hrow.2 with ⟨_, hnil⟩ | ⟨g, cap, cur, rfl, hbase, hb, h1, h2, h3, h4⟩
        · exact absurd (by simpa using hnil) hz
        have hH : Holds encStr wr g 0 ss.toArray := holds_of_block hb (by simpa using h4)
        have hgl : g < wr.heap.size := (Array.getElem?_eq_some_iff.1 hb).1
        have hc := Try.slices_Sort_string g 0 cap ss wr hH hgl (by omega)
        have hfin := fun n os => ownsRow_sorted (w := wr) (n := n) (os := os) (ts := ss.mergeSort fun x y => decide (x ≤ y)) (by simp) hbase hb h1 h2 h3
        have HF := Lib.hid hfin
        clear hH hgl hfin hb h1 h2 h3 h4 hrow hz
        go_wp2_with fail
        refine hc.mono ?_
        rintro e w' ⟨rfl, nn, os, rfl⟩
        go_wp2_with fail
        go_ret
        have hown' := HF.out nn os
        have hbel := hnx.grown (grownBy_sorted (n := nn) (os := os) (g := g) (ss.mergeSort fun x y => decide (x ≤ y)).toArray) hnx.size (fun j hj => by cases hj; exact hbase)
        have hs := hsort.out
        have hl := HL.out
        rw [hl] at hown' ⊢
        refine ⟨_, cap, rfl, ?_, hbel⟩
        rw [hs] at hown' ⊢
        rw [List.map_map] at hown'
        exact hown'
    · intro x c kl yd yp w2 cnt2 hkey hlk hv hat hrg2 hlt hg2 hs2 hen
      obtain ⟨x', ex, rfl, _⟩ := Maps.keyOf_str Try.underlying9 hkey
      obtain rfl : x = x' := encStr_inj ex
      have hrow2 := hrow.kept hg2 (Or.inr (row_ne_iter hrow hrg).symm)
      clear hs2
      go_wp2_with (at_builtin; refine wpList_append_own _ rfl _ _ 31 rfl w.heap.size 9 i0 (.string ⟨#[]⟩) 1 16 Try.underlying31 hi hz0 hz1 hz2 rfl (by decide) _ _ _ rfl (hrow2.alloc _) ⟨w2.heap.size, 0, none⟩ 1 1 [encStr x] rfl rfl (cell_one_new _ _ _) (by simp [Value.oneCell', encStr]) (by unfold maxLen at *; omega) (by omega) (by have := hnx.size; have := hg2.size; simp; omega) ?_; intro v' w3 hown' hg3 hnil3; go_frame)
      have hrg3 := (hrg2.alloc _).kept hg3 (row_ne_low hrow2 hbl) (row_ne_iter hrow2 hrg2)
      go_roundw
      case rel =>
        refine ⟨_, cnt2, ss ++ [x], hrg3, by simp; omega, by simpa using hown', hC.step hlk hat, ?_⟩
        exact ((hnx.grown hg2 hnx.size (fun j hj => by cases hj; exact Nat.le_refl _)).alloc (by have := hnx.size; have := hg2.size; omega) _).grown hg3 (by have := hnx.size; have := hg2.size; simp; omega) (fun j hj => (hrow2.lt j hj).1)
      case measure => rw [hrg3.left_eq, hrg.left_eq]; exact hlt
def NmS (w : World) (l : List AF) (e : Ending) (w' : World) : Prop :=
  ∃ A c, e = .returned (.slice A l.length c) ∧ w'.ownsRow w.heap.size 9 1 (.slice A l.length c) l.length (l.map fun r => encStr r.name) ∧ Below w.heap.size w w'
theorem namesS_any (base sb mb n : Nat) (F : Nat → Prop) (st : AS) (w : World) (hS : SysM w base F sb mb n st) (hn : st.files.length ≤ 1000000) :
    Calls Try.prog 12 #[.pointer (some ⟨sb, 0, none⟩)] w (NmS w st.files) := by
  obtain ⟨frs, hSP, habs, _⟩ := hS
  have hl : (frs.map FR.row).length = st.files.length := by rw [← habs]; simp
  have hm : (frs.map FR.row).map (fun r => encStr r.name) = st.files.map fun r => encStr r.name := by
    rw [← habs, List.map_map, List.map_map]
    rfl
  refine (names_any sb mb n (frs.map FR.row) st.off st.lim st.left w hSP.1 hSP.2.1 (rising_rows hSP.2.2.1) (by omega)).mono ?_
  rintro e w' ⟨A, c, rfl, ho, hb⟩
  rw [hl, hm] at ho
  exact ⟨A, c, by rw [hl], ho, hb⟩
end Go.Proofs.Ythmbmecodddkeaa
