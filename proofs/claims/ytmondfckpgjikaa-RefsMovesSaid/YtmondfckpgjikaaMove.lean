/- The walk of Move: the table with renumbered commits, or ErrRange. -/
import Derived.Test.YtmondfckpgjikaaCopy
namespace Go.Proofs.Ytmondfckpgjikaa
open Go.RowKit Go.WideMaps Go.Maps
def okM (to : List Int) (n : Int) : Bool := decide (n < to.length) && decide (0 ≤ to.getD n.toNat 0)
def mvRow (to : List Int) (r : Row) : Row := ⟨r.name, to.getD r.n.toNat 0, r.tag⟩
def moved (to : List Int) (l : List Row) : List Row := l.map (mvRow to)
def allM (to : List Int) (l : List Row) : Bool := l.all fun r => okM to r.n
def AllN (l : List Row) : Prop := ∀ r ∈ l, 0 ≤ r.n
theorem allN_put {x : Row} {l : List Row} (h : AllN l) (hx : 0 ≤ x.n) : AllN (putR x l) := fun r hr => by
  rcases mem_putR x l r hr with rfl | hr
  · exact hx
  · exact h r hr
theorem allN_drop {nm : List UInt8} {l : List Row} (h : AllN l) : AllN (dropR nm l) := fun r hr => h r (List.mem_filter.1 hr).1
theorem allN_branch (l : List Row) (nm : List UInt8) (old n : Int) (h : AllN l) : AllN (branchR l nm old n).1 := by
  unfold branchR
  by_cases hx : n < 0
  · simp only [hx, true_or, if_true]
    split <;> exact h
  · repeat' split
    all_goals first | exact h | exact allN_put h (by simp only; omega)
theorem allN_tag (l : List Row) (nm : List UInt8) (n : Int) (h : AllN l) : AllN (tagR l nm n).1 := by
  unfold tagR
  by_cases hx : n < 0
  · simp only [hx, if_true]
    split <;> exact h
  · repeat' split
    all_goals first | exact h | exact allN_put h (by simp only; omega)
theorem allN_del (l : List Row) (nm : List UInt8) (h : AllN l) : AllN (delR l nm).1 := by
  unfold delR
  repeat' split
  all_goals first | exact h | exact allN_drop h
theorem allN_step (l : List Row) (st : St) (h : AllN l) : AllN (stepR l st).1 := by
  unfold stepR
  split
  · exact allN_branch _ _ _ _ h
  · split
    · exact allN_tag _ _ _ h
    · exact allN_del _ _ h
theorem allN_fold : ∀ (sts : List St) (l : List Row), AllN l → AllN (sts.foldl (fun r st => (stepR r st).1) l)
  | [], _, h => h
  | st :: t, l, h => allN_fold t _ (allN_step l st h)
theorem allN_rows (sts : List St) : AllN (rowsOf sts) := allN_fold sts [] (fun r h => by cases h)
theorem rising_moved {to : List Int} {l : List Row} (h : Rising l) : Rising (moved to l) := by
  unfold moved Rising
  rw [List.pairwise_map]
  exact h
theorem allV_moved {to : List Int} {l : List Row} (h : AllV l) : AllV (moved to l) := fun r hr => by
  obtain ⟨s, hs, rfl⟩ := List.mem_map.1 hr
  exact h s hs
theorem len_moved (to : List Int) (l : List Row) : (moved to l).length = l.length := by simp [moved]
theorem findR_moved (to : List Int) (nm : List UInt8) : ∀ l : List Row, findR nm (moved to l) = (findR nm l).map (mvRow to)
  | [] => rfl
  | r :: t => by
    have ih := findR_moved to nm t
    unfold moved at ih ⊢
    simp only [List.map_cons, findR]
    by_cases e : r.name = nm
    · rw [if_pos (show (mvRow to r).name = nm from e), if_pos e]; rfl
    · rw [if_neg (show ¬ (mvRow to r).name = nm from e), if_neg e]; exact ih
theorem has_moved (to : List Int) (l : List Row) : Maps.has (datum (moved to l)) = Maps.has (datum l) := by
  funext k
  rw [datum, datum, Maps.has_eq, Maps.has_eq, moved, List.map_map, List.any_map, List.any_map]
  rfl
theorem row_of_at {l : List Row} {x : List UInt8} {n : Int} {t : Bool} (h : ∀ zd, (datum l).atKey (.string x) zd = tgt n t) : findR x l = some ⟨x, n, t⟩ := by
  have h1 := h .nil
  rw [atKey_datum] at h1
  cases hf : findR x l with
  | none => rw [hf] at h1; cases h1
  | some r =>
    rw [hf] at h1
    obtain ⟨hn, _⟩ := findR_name hf
    obtain ⟨rn, rx, rt⟩ := r
    simp only [tgt, DataW.agg.injEq, List.cons.injEq, DataW.lit.injEq, Lit.int.injEq, Lit.bool.injEq, and_true, true_and] at h1
    simp only at hn
    rw [hn, h1.1, h1.2]
theorem at_moved {to : List Int} {l : List Row} {x : List UInt8} {n : Int} {t : Bool} (h : findR x l = some ⟨x, n, t⟩) (zd : DataW Unit) : (datum (moved to l)).atKey (.string x) zd = tgt (to.getD n.toNat 0) t := by
  rw [atKey_datum, findR_moved, h]
  rfl
/-- Every row whose turn has been may be moved. -/
def MetM (to : List Int) (l : List Row) (left : Lit → Bool) : Prop := ∀ r ∈ l, left (.string r.name) = false → okM to r.n = true
theorem met_start (to : List Int) (l : List Row) : MetM to l (Maps.has (datum l)) := fun r hr hl => by
  rw [has_datum] at hl
  have : ∀ l : List Row, r ∈ l → (findR r.name l).isSome = true := by
    intro l
    induction l with
    | nil => intro h; cases h
    | cons y t ih =>
      intro h
      simp only [findR]
      split
      · rfl
      · rename_i e
        rcases List.mem_cons.1 h with rfl | h
        · exact absurd rfl e
        · exact ih h
  rw [this l hr] at hl
  cases hl
theorem met_step {to : List Int} {l : List Row} {left : Lit → Bool} (hris : Rising l) (h : MetM to l left) {x : List UInt8} {n : Int} {t : Bool} (hf : findR x l = some ⟨x, n, t⟩) (hok : okM to n = true) :
    MetM to l (fun z => left z && !z.sameKey (.string x)) := fun r hr hl => by
  simp only [Bool.and_eq_false_iff] at hl
  rcases hl with hl | hl
  · exact h r hr hl
  · rw [sameKey_string] at hl
    have e : r.name = x := by simpa using hl
    have := findR_mem hris hr
    rw [e, hf] at this
    injection this with this
    rw [← this]
    exact hok
theorem met_end {to : List Int} {l : List Row} {left : Lit → Bool} (h : MetM to l left) (hl : ∀ k, left k = false) : allM to l = true := by
  unfold allM
  rw [List.all_eq_true]
  exact fun r hr => h r hr (hl _)
theorem bad_all {to : List Int} {l : List Row} {x : List UInt8} {n : Int} {t : Bool} (hf : findR x l = some ⟨x, n, t⟩) (hok : okM to n = false) : allM to l = false := by
  unfold allM
  rw [List.all_eq_false]
  exact ⟨_, (findR_name hf).2, by simp only; rw [hok]; decide⟩
theorem canon_datum {l : List Row} (h : Rising l) : Canon (datum l) :=
  ⟨l.map ent, rfl, by rw [List.pairwise_map]; exact h.imp fun {a b} hab => hab, fun p hp => by
    obtain ⟨r, _, rfl⟩ := List.mem_map.1 hp
    exact trivial⟩
def MvEnd (w : World) (to : List Int) (l : List Row) (e : Ending) (w' : World) : Prop :=
  (allM to l = true ∧ e = .returned (.tuple #[.pointer (some ⟨w.heap.size + 1, 0, none⟩), .nilIface]) ∧ Tab w' (w.heap.size + 1) w.heap.size l.length (moved to l) ∧ Below w.heap.size w w') ∨
  (allM to l = false ∧ e = .returned (.tuple #[.pointer none, errV 1]) ∧ Below w.heap.size w w')
def MvRel (w1 w : World) (mb n : Nat) (to : List Int) (l : List Row) (wr : World) : Prop :=
  ∃ (left : Lit → Bool) (cnt : Nat) (D : DataW Unit), wr.ranges Try.prog 9 tgtR mb w1.heap.size n (datum l) left cnt ∧ cnt ≤ l.length ∧
    wr.ownsMap Try.prog 9 tgtR w.heap.size (l.length - cnt) D ∧ Agree D (datum (moved to l)) left ∧ MetM to l left ∧ Blk wr (w.heap.size + 1) 73 #[.map (some w.heap.size)] ∧ Below w.heap.size w wr ∧ w1.heap.size ≤ wr.heap.size
set_option maxRecDepth 100000 in
set_option maxHeartbeats 2000000 in
theorem move_any (tb mb n : Nat) (l : List Row) (A : Option Addr) (m c : Nat) (to : List Int) (w : World) (hT : Tab w tb mb n l) (hn : l.length ≤ 1000000) (hN : AllN l) (hr : Reads w w.heap.size 1 A m (to.map (Value.int .i64))) (hm : to.length = m) :
    Calls Try.prog 24 #[.pointer (some ⟨tb, 0, none⟩), .slice A m c] w (MvEnd w to l) := by
  have HM := Lib.hid hm
  have HN := Lib.hid hN
  have HR := Lib.hid hT.2.2
  clear hm hN
  go_enter Try.func24, Try.ntmps24
  go_wp2_with fail
  refine (new_any w).mono ?_
  rintro e w1 ⟨rfl, hT1, hb1⟩
  have hTo := hT.below hb1
  have c1 := hTo.cell
  have hS := hTo.2.1
  have hml := hT.lt.2
  have hwl : w.heap.size + 1 < w1.heap.size := hT1.lt.1
  go_wp2_with (at_range; refine wpList_range_own _ rfl _ 71 rfl 9 75 law9 Try.underlying71 _ mb n _ rfl hS ?_; intro w0 hrg0 hg0 hs0)
  have hs0' : w1.heap.size ≤ w0.heap.size := by omega
  clear hs0
  go_frame
  go_loopw [7] (fun _ wr => MvRel w1 w mb n to l wr) (fun _ wr => wr.rangeLeft mb w1.heap.size)
  case atStart =>
    exact ⟨_, _, .map [], hrg0, by simp [size_datum], (hT1.2.1.kept hg0 (by simp)).mono (Nat.zero_le _), by rw [← has_moved to l]; exact agree_start _, met_start to l, hT1.1.grown hg0 (by simp), hb1.grown hg0 hb1.size (fun j hj => by cases hj), hs0'⟩
  case round =>
    obtain ⟨left, cnt, D, hrg, hcs, hout, hA, hmet, hblk, hnx, hsz⟩ := hrel
    go_wp2_with (at_next; refine wpList_next_ranges _ rfl _ rfl 9 law9 tgtR encStr tgtM keyStr tgtR_form mb w1.heap.size n _ _ _ rfl hrg ?_ ?_)
    · intro hc0 hl0
      have he := agree_end hA hl0 (hout.canon law9) (canon_datum (rising_moved HR.out))
      have HE := Lib.hid he
      have HC := Lib.hid hc0
      have HA := Lib.hid (met_end hmet hl0)
      have HR2 := Lib.hid (rising_moved (to := to) HR.out)
      clear he hc0 hl0 hmet hA
      go_wp2_with fail
      go_ret2
      have h0 := HC.out
      subst h0
      rw [HE.out] at hout
      exact .inl ⟨HA.out, rfl, ⟨hblk, hout, HR2.out⟩, hnx⟩
    · intro x c kl yd yp w2 cnt1 hkey hlk hv hat hrg1 hlt hg1 hs1 hen
      obtain ⟨x', ex, rfl, _⟩ := Maps.keyOf_str Try.underlying9 hkey
      obtain rfl : x = x' := encStr_inj ex
      obtain ⟨cn, ct⟩ := c
      unfold tgtM at hen hv
      simp only at hen hv
      rw [tgtR_mk] at hv
      simp only [Option.some.injEq, Prod.mk.injEq] at hv
      obtain ⟨rfl, rfl⟩ := hv
      have hf := row_of_at hat
      have hpos : 0 ≤ cn := HN.out _ (findR_name hf).2
      obtain ⟨k, rfl⟩ : ∃ k : Nat, cn = k := ⟨cn.toNat, by omega⟩
      have hw2 : w1.heap.size ≤ w2.heap.size := by omega
      have hb2 := hnx.grown hg1 hnx.size (fun j hj => by injection hj with hj; omega)
      have hout1 := hout.kept hg1 (by intro h; injection h with h; omega)
      have hblk1 := hblk.grown hg1 (by intro h; injection h with h; omega)
      have HA := Lib.hid hA
      have HME := Lib.hid hmet
      have HF := Lib.hid hf
      have hD := hout.isMap
      clear hs1 hA hmet hf hlk hpos
      by_cases hkm : k < m
      · have hkl : k < to.length := by rw [HM.out]; exact hkm
        obtain ⟨b, o, rfl, hbl, hc⟩ := hr.form (by omega)
        have e1 := hc k (.int .i64 to[k]) (by rw [List.getElem?_map, List.getElem?_eq_getElem hkl]; rfl)
        have hzd : to.getD k 0 = to[k] := by simp [List.getD, hkl]
        have hokz : okM to k = decide (0 ≤ to[k]) := by
          unfold okM
          rw [Int.toNat_natCast, hzd]
          simp [hkl]
        have hatm := at_moved (to := to) HF.out
        rw [Int.toNat_natCast, hzd] at hatm
        have HAT := Lib.hid hatm
        generalize to[k] = z at *
        have HZ := Lib.hid hokz
        clear hzd hokz hc hatm
        have hbl1 : b < w1.heap.size := by omega
        have e2 : w2.cell? ⟨b, o + k, none⟩ = some (.int .i64 z) := (hb2.cell (p := ⟨b, o + k, none⟩) hbl).trans e1
        have hbl2 : b < w2.heap.size := by omega
        have e3 := hblk1.cell 0
        simp only [List.getElem?_toArray, List.getElem?_cons_zero] at e3
        have hwl2 : w.heap.size + 1 < w2.heap.size := by omega
        by_cases hz : 0 ≤ z
        · have HOK := Lib.hid (show okM to k = true by rw [HZ.out]; simpa using hz)
          go_wp2_with fail
          have hrg3 := hrg1.alloc (.cells #[.int .i64 (k : Int), .bool ct] 75)
          have hout3 := hout1.alloc (.cells #[.int .i64 (k : Int), .bool ct] 75)
          have hblk3 := hblk1.alloc (.cells #[.int .i64 (k : Int), .bool ct] 75)
          have hb3 := hb2.alloc (by omega) (.cells #[.int .i64 (k : Int), .bool ct] 75)
          have hnew := Blk.new w2 75 #[.int .i64 (k : Int), .bool ct]
          have g1 : (w2.alloc (.cells #[.int .i64 (k : Int), .bool ct] 75)).cell? ⟨b, o + k, none⟩ = some (.int .i64 z) := (hb3.cell (p := ⟨b, o + k, none⟩) hbl).trans e1
          have g2 := hblk3.cell 0
          have g3 := hnew.cell 0
          have g4 := hnew.cell 1
          have hsz3 : w1.heap.size ≤ (w2.alloc (.cells #[.int .i64 (k : Int), .bool ct] 75)).heap.size := by simp; omega
          simp only [List.getElem?_toArray, List.getElem?_cons_zero, List.getElem?_cons_succ] at g2 g3 g4
          clear hnew hblk1 hb2 hout1 e1 e2 e3 hrg1
          generalize w2.alloc (.cells #[.int .i64 (k : Int), .bool ct] 75) = w3 at *
          go_still_tail 13, (by kernel_rfl)
          change wpList _ _ _ _ _ w3.drew
          have hg34 : w3.grownBy w3.drew none := only_of_below ((Below.refl _ _).drew) none
          have hrg4 := hrg3.kept hg34 (by simp) (by simp)
          have hout4 := hout3.kept hg34 (by simp)
          have hblk4 := hblk3.grown hg34 (by simp)
          have hb4 := hb3.grown hg34 hb3.size (fun j hj => by cases hj)
          have hsz4 := Nat.le_trans hsz3 hg34.size
          clear hrg3 hout3 hblk3 hb3 hsz3 hg34 g1 g2 g3 g4
          generalize w3.drew = w4 at *
          go_wp2_with (at_mapUpdate; refine wpList_mapUpdate_own _ rfl _ _ _ 71 rfl 9 75 law9 Try.underlying71 _ w.heap.size _ _ rfl hout4 (by unfold maxLen; omega) _ _ _ rfl rfl hkey _ _ (tgtR_mk z ct) ?_; intro w5 hout5 hg5; go_frame)
          have hrg5 := hrg4.kept hg5 (by intro h; injection h with h; omega) (by intro h; injection h with h; omega)
          have hblk5 := hblk4.grown hg5 (by intro h; injection h with h; omega)
          go_roundw
          case rel =>
            exact ⟨_, cnt1, _, hrg5, by omega, hout5.mono (by omega), agree_step HA.out hD trivial HAT.out, met_step HR.out HME.out HF.out HOK.out, hblk5, below_tab hb4 hb4.size (Nat.le_refl _) hg5, Nat.le_trans hsz4 hg5.size⟩
          case measure => rw [hrg5.left_eq, hrg.left_eq]; exact hlt
        · have HOK := Lib.hid (show okM to k = false by rw [HZ.out]; simpa using hz)
          have hz' : z < 0 := by omega
          clear hz
          go_wp2_with fail
          go_ret2
          exact .inr ⟨bad_all HF.out HOK.out, rfl, hb2.alloc (by omega) _⟩
      · have HOK := Lib.hid (show okM to k = false by
          unfold okM
          rw [Bool.and_eq_false_iff]
          left
          have := HM.out
          simp; omega)
        have hkm' : m ≤ k := by omega
        clear hkm
        go_wp2_with fail
        go_ret2
        exact .inr ⟨bad_all HF.out HOK.out, rfl, hb2.alloc (by omega) _⟩
end Go.Proofs.Ytmondfckpgjikaa
