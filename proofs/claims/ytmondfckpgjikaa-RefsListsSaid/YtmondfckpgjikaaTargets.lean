/- The walks of Targets and Under. -/
import Derived.Test.YtmondfckpgjikaaIs
import Derived.Test.YtmondfckpgjikaaTarg
import Derived.Sort.OwnSortedInts
namespace Go.Proofs.Ytmondfckpgjikaa
open Go.RowKit Go.WideMaps Go.Maps Go.Sort
theorem Try.infoI : (Try.prog.info? 3).map (fun i => (i.zero, i.size, i.bytes)) = some (some (.int .i64 0), 1, 8) := by kernel_rfl
def nOf (l : List Row) (x : List UInt8) : Int := match findR x l with | some r => r.n | none => 0
theorem nOf_map {l : List Row} (h : Rising l) : (l.map (·.name)).map (nOf l) = l.map (·.n) := by
  rw [List.map_map]
  apply List.map_congr_left
  intro r hr
  simp only [Function.comp, nOf, findR_mem h hr]
theorem sort_nOf {l : List Row} (h : Rising l) {ss : List (List UInt8)} (hp : ss.Perm (strKeys (datum l))) : (ss.map (nOf l)).mergeSort (fun x y => decide (x ≤ y)) = (l.map (·.n)).mergeSort leI := by
  rw [strKeys_datum] at hp
  have h1 := hp.map (nOf l)
  rw [nOf_map h] at h1
  refine List.Perm.eq_of_pairwise (le := (· ≤ ·)) (fun x y _ _ h1 h2 => by omega) (sorted_leI _) (sorted_leI _) (((List.mergeSort_perm _ _).trans h1).trans (List.mergeSort_perm _ _).symm)
theorem nOf_at {l : List Row} {x : List UInt8} {n : Int} {t : Bool} (h : ∀ zd, (datum l).atKey (.string x) zd = tgt n t) : nOf l x = n := by
  have h1 := h .nil
  rw [atKey_datum] at h1
  unfold nOf
  cases hf : findR x l with
  | none => rw [hf] at h1; cases h1
  | some r =>
    rw [hf] at h1
    simp only [tgt, DataW.agg.injEq, List.cons.injEq, DataW.lit.injEq, Lit.int.injEq, Lit.bool.injEq, and_true, true_and] at h1
    exact h1.1
def IsEnd (w : World) (zs : List Int) (e : Ending) (w' : World) : Prop :=
  ∃ A c, e = .returned (.slice A zs.length c) ∧ Reads w' w'.heap.size 1 A zs.length (zs.map (Value.int .i64)) ∧ Below w.heap.size w w'
def TgRel (w : World) (mb r n : Nat) (l : List Row) (v : Value) (wr : World) : Prop :=
  ∃ (left : Lit → Bool) (cnt : Nat) (ss : List (List UInt8)), wr.ranges Try.prog 9 tgtR mb r n (datum l) left cnt ∧ ss.length + cnt ≤ l.length ∧
      wr.ownsRow w.heap.size 3 1 v ss.length ((ss.map (nOf l)).map (Value.int .i64)) ∧ Collected (datum l) left ss ∧ Below w.heap.size w wr
theorem reads_put {w : World} {g : Nat} {cur : Array Value} {e : TypeId} {n : Nat} {zs ys : List Int} (hb : w.heap[g]? = some (.cells cur e (0, 0))) (hl : (zs ++ ys).length ≤ cur.size) :
    Reads (putRow (Value.int .i64) (Sort.ahead w n) g 0 (zs ++ ys).toArray) (putRow (Value.int .i64) (Sort.ahead w n) g 0 (zs ++ ys).toArray).heap.size 1 (some ⟨g, 0, none⟩) zs.length (zs.map (Value.int .i64)) := by
  have h1 := heap_sortedI (n := n) (os := #[]) (zs ++ ys).toArray hb
  rw [grow_empty] at h1
  have h2 := take_putCellsI cur (zs ++ ys) hl
  refine ⟨by simp, fun hn => ⟨_, rfl, (Array.getElem?_eq_some_iff.1 h1).1, fun j u hu => ?_⟩⟩
  have hj : j < zs.length := by
    have := (List.getElem?_eq_some_iff.1 hu).1
    simpa using this
  rw [addr_add, Nat.zero_add, cell_of_row _ g j _ e (0, 0) h1, ← Array.getElem?_toList]
  have h3 : ((putCells (Value.int .i64) 0 (zs ++ ys).toArray cur).toList.take (zs ++ ys).length)[j]? = ((zs ++ ys).map (Value.int .i64))[j]? := by rw [h2]
  rw [List.getElem?_take_of_lt (by simp; omega)] at h3
  rw [h3, ← hu, List.map_append, List.getElem?_append_left (by simpa using hj)]
set_option maxRecDepth 100000 in
set_option maxHeartbeats 1000000 in
theorem targets_any (tb mb n : Nat) (l : List Row) (w : World) (hT : Tab w tb mb n l) (hn : l.length ≤ 1000000) :
    Calls Try.prog 32 #[.pointer (some ⟨tb, 0, none⟩)] w (IsEnd w (tgts l)) := by
  obtain ⟨i0, hi, hz0, hz1, hz2⟩ := info_parts Try.infoI
  have hc := hT.cell
  have hown := hT.2.1
  have hris := Lib.hid hT.2.2
  have hbl := hown.lt
  clear hT
  go_enter Try.func32, Try.ntmps32
  go_wp2_with (at_range; refine wpList_range_own _ rfl _ 71 rfl 9 75 law9 Try.underlying71 _ mb n _ rfl hown ?_; intro w0 hrg0 hg0 hs0)
  clear hs0
  go_frame
  go_loopw [3] (fun v wr => TgRel w mb w.heap.size n l v wr) (fun _ wr => wr.rangeLeft mb w.heap.size)
  case atStart =>
    exact ⟨_, _, [], hrg0, by simp [size_datum], ⟨rfl, .inl ⟨rfl, rfl⟩⟩, Collected.start _, (Below.refl _ _).grown hg0 (Nat.le_refl _) (fun j hj => by cases hj)⟩
  case round =>
    obtain ⟨left, cnt, ss, hrg, hcs, hrow, hC, hnx⟩ := hrel
    go_wp2_with (at_next; refine wpList_next_ranges _ rfl _ rfl 9 law9 tgtR encStr tgtM keyStr tgtR_form mb w.heap.size n _ _ _ rfl hrg ?_ ?_)
    · intro hc0 hl0
      have hperm := hC.perm hown law9 Try.underlying9 hl0
      have hsort := Lib.hid (sort_nOf hris.out hperm)
      have hlen : ss.length = l.length := by have := hperm.length_eq; simpa [strKeys_datum] using this
      have HL := Lib.hid hlen
      clear hlen hc0 hl0 hperm
      by_cases hz : ss = []
      · subst hz
        obtain ⟨A, c, rfl⟩ := own_form hrow
        go_wp2_with fail
        refine (Try.slices_Sort_int_none A c wr).mono ?_
        rintro e w' ⟨rfl, rfl⟩
        go_wp2_with fail
        refine (Try.slices_Compact_int_empty A c _).mono ?_
        rintro e w' ⟨rfl, rfl⟩
        go_wp2_with fail
        go_ret
        have h0 : l.length = 0 := by have := HL.out; simpa using this.symm
        obtain rfl := List.eq_nil_of_length_eq_zero h0
        rw [show tgts [] = [] by simp [tgts, Lib.compact, Lib.compactUpTo]]
        exact ⟨A, c, rfl, Reads.of_own hrow, hnx⟩
      · rcases hrow.2 with ⟨_, hnil⟩ | ⟨g, cap, cur, rfl, hbase, hb, h1, h2, h3, h4⟩
        · exact absurd (by simpa using hnil) hz
        have hzl : (ss.map (nOf l)).length = ss.length := by simp
        obtain ⟨zs, hzs⟩ : ∃ zs, zs = ss.map (nOf l) := ⟨_, rfl⟩
        rw [← hzs] at hzl h4 hsort
        rw [← hzl] at h1 h4 ⊢
        have hH : Holds (Value.int .i64) wr g 0 zs.toArray := holds_of_blockI hb (by simpa using h4)
        have hgl : g < wr.heap.size := (Array.getElem?_eq_some_iff.1 hb).1
        have hc := Try.slices_Sort_int g 0 cap zs wr hH hgl (by omega)
        have hb2 := fun n os => heap_sortedI (w := wr) (n := n) (os := os) (zs.mergeSort fun x y => decide (x ≤ y)).toArray hb
        have ht2 := take_putCellsI cur (zs.mergeSort fun x y => decide (x ≤ y)) (by simp; omega)
        have hms : (zs.mergeSort fun x y => decide (x ≤ y)).length = zs.length := by simp
        have HB := Lib.hid hb2
        have HT := Lib.hid ht2
        have HM := Lib.hid hms
        have HZ := Lib.hid hzs
        have hcur : zs.length ≤ cur.size := by omega
        have hzle : zs.length ≤ 1000000 := by omega
        have HZL := Lib.hid hzl
        clear hzl hH hgl hb h2 h3 h4 hrow hz hb2 ht2 hms hzs
        go_wp2_with fail
        refine hc.mono ?_
        rintro e w' ⟨rfl, nn, os, rfl⟩
        have hbel := hnx.grown (grownBy_sortedI (n := nn) (os := os) (g := g) (zs.mergeSort fun x y => decide (x ≤ y)).toArray) hnx.size (fun j hj => by cases hj; exact hbase)
        have hb3 := HB.out nn os
        rw [hsort.out] at hb3 hbel HT HM ⊢
        have HTG : Hid (tgts l = Lib.compact ((l.map (·.n)).mergeSort leI)) := Lib.hid rfl
        clear hsort HZ
        generalize (l.map (·.n)).mergeSort leI = M at *
        generalize grow (putRow (Value.int .i64) (Sort.ahead wr nn) g 0 M.toArray) os = w3 at *
        have hH3 : Holds (Value.int .i64) w3 g 0 M.toArray := holds_of_blockI hb3 HT.out
        have hcomp := Lib.compact_length_le M
        have hc3 := Try.slices_Compact_int g 0 cap M w3 hH3 (by have := HM.out; omega) (by have := HM.out; omega)
        rw [HM.out] at hc3
        have HC := Lib.hid hcomp
        have HB3 := Lib.hid hb3
        clear hH3 hcomp hb3 hc
        go_wp2_with fail
        refine hc3.mono ?_
        rintro e w' ⟨rfl, q, rfl⟩
        go_wp2_with fail
        go_ret
        have hbel4 := hbel.grown (grownBy_sortedI (n := q) (os := #[]) (g := g) (Lib.compact M ++ List.replicate (zs.length - (Lib.compact M).length) 0).toArray) hbel.size (fun j hj => by cases hj; exact hbase)
        rw [grow_empty] at hbel4
        rw [HTG.out]
        exact ⟨_, cap, rfl, reads_put HB3.out (by have h5 := HC.out; have h6 := HM.out; rw [List.length_append, List.length_replicate]; simp [putCells]; omega), hbel4⟩
    · intro x c kl yd yp w2 cnt2 hkey hlk hv hat hrg2 hlt hg2 hs2 hen
      obtain ⟨x', ex, rfl, _⟩ := Maps.keyOf_str Try.underlying9 hkey
      obtain rfl : x = x' := encStr_inj ex
      obtain ⟨cn, ct⟩ := c
      unfold tgtM at hen hv
      simp only at hen hv
      rw [tgtR_mk] at hv
      simp only [Option.some.injEq, Prod.mk.injEq] at hv
      obtain ⟨rfl, rfl⟩ := hv
      have HNO := Lib.hid (nOf_at hat)
      have hrow2 := hrow.kept hg2 (Or.inr (row_ne_iter hrow hrg).symm)
      have hrg2b := (hrg2.alloc (.cells #[.int .i64 cn, .bool ct] 75)).alloc (.cells #[.int .i64 cn] 3)
      have hrow3 := (hrow2.alloc (.cells #[.int .i64 cn, .bool ct] 75)).alloc (.cells #[.int .i64 cn] 3)
      have hcell1 : ∀ j u, [Value.int .i64 cn][j]? = some u → ((w2.alloc (.cells #[.int .i64 cn, .bool ct] 75)).alloc (.cells #[.int .i64 cn] 3)).cell? ((⟨w2.heap.size + 1, 0, none⟩ : Addr).add j) = some u := by
        have := news_alloc (w2.alloc (.cells #[.int .i64 cn, .bool ct] 75)) #[.int .i64 cn] 3
        simpa using this
      clear hs2
      have hsz2 := hg2.size
      have hsz1 := hnx.size
      go_wp2_with (at_builtin; refine wpList_append_own _ rfl _ _ 46 rfl w.heap.size 3 i0 (.int .i64 0) 1 8 Try.underlying46 hi hz0 hz1 hz2 rfl (by decide) _ _ _ rfl hrow3 ⟨w2.heap.size + 1, 0, none⟩ 1 1 [.int .i64 cn] rfl rfl hcell1 (by simp [Value.oneCell']) (by unfold maxLen at *; omega) (by omega) (by simp; omega) ?_; intro v' w3 hown' hg3 hnil3; go_frame)
      have hrg3 := hrg2b.kept hg3 (row_ne_low hrow3 hbl) (row_ne_iter hrow3 hrg2b)
      go_roundw
      case rel =>
        refine ⟨_, cnt2, ss ++ [x], hrg3, by simp; omega, ?_, hC.step hlk hat, ?_⟩
        · have e : ((ss ++ [x]).map (nOf l)).map (Value.int .i64) = (ss.map (nOf l)).map (Value.int .i64) ++ [.int .i64 cn] := by simp [HNO.out]
          rw [e]
          simpa using hown'
        · exact (((hnx.grown hg2 hnx.size (fun j hj => by cases hj; exact Nat.le_refl _)).alloc (by omega) _).alloc (by simp; omega) _).grown hg3 (by simp; omega) (fun j hj => (hrow3.lt j hj).1)
      case measure => rw [hrg3.left_eq, hrg.left_eq]; exact hlt
end Go.Proofs.Ytmondfckpgjikaa
