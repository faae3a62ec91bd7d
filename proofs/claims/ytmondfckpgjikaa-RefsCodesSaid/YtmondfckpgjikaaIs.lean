/- The walk of is: a table that has exactly the rows of the reference. -/
import Derived.Test.YtmondfckpgjikaaPlay
import Derived.Test.YtmondfckpgjikaaNames
namespace Go.Proofs.Ytmondfckpgjikaa
open Go.RowKit Go.WideMaps
def AllV (l : List Row) : Prop := ∀ r ∈ l, validB r.name = true
theorem allV_nil : AllV [] := fun r h => by cases h
theorem allV_put {x : Row} {l : List Row} (h : AllV l) (hx : validB x.name = true) : AllV (putR x l) := fun r hr => by
  rcases mem_putR x l r hr with rfl | hr
  · exact hx
  · exact h r hr
theorem allV_drop {nm : List UInt8} {l : List Row} (h : AllV l) : AllV (dropR nm l) := fun r hr => h r (List.mem_filter.1 hr).1
theorem allV_step (l : List Row) (st : St) (h : AllV l) : AllV (stepR l st).1 := by
  unfold stepR branchR tagR delR
  by_cases hv : validB st.name.data.toList = false
  · simp only [hv, if_true]
    repeat' split
    all_goals exact h
  · have hv' : validB st.name.data.toList = true := by simpa using hv
    simp only [hv']
    repeat' split
    all_goals first | exact h | exact allV_put h hv' | exact allV_drop h
theorem allV_fold : ∀ (sts : List St) (l : List Row), AllV l → AllV (sts.foldl (fun r st => (stepR r st).1) l)
  | [], _, h => h
  | st :: t, l, h => allV_fold t _ (allV_step l st h)
theorem allV_rows (sts : List St) : AllV (rowsOf sts) := allV_fold sts [] allV_nil
theorem valid_le {l : List UInt8} (h : validB l = true) : l.length ≤ 32 := by
  unfold validB at h
  simp only [Bool.and_eq_true, decide_eq_true_eq] at h
  exact h.1.2
theorem findR_mem {r : Row} : ∀ {l : List Row}, Rising l → r ∈ l → findR r.name l = some r
  | y :: t, h, hr => by
    have hy : ∀ r ∈ t, bytesBefore y.name r.name = true := (List.pairwise_cons.1 h).1
    have ht : Rising t := (List.pairwise_cons.1 h).2
    simp only [findR]
    by_cases e : y.name = r.name
    · rw [if_pos e]
      rcases List.mem_cons.1 hr with rfl | hr
      · rfl
      · have := hy r hr
        rw [e, WideAt.bytes_irrefl] at this
        cases this
    · rw [if_neg e]
      rcases List.mem_cons.1 hr with rfl | hr
      · exact absurd rfl e
      · exact findR_mem ht hr
theorem getR_mem {r : Row} {l : List Row} (h : Rising l) (hv : AllV l) (hr : r ∈ l) : getR l r.name = (r.n, r.tag, 0) := by
  unfold getR
  rw [hv r hr, findR_mem h hr]
  rfl
def IsRel (n : Nat) (w1 : World) (i : Value) (wr : World) : Prop := ∃ k : Nat, k ≤ n ∧ i = .int .i64 k ∧ Below w1.heap.size w1 wr
set_option maxRecDepth 100000 in
set_option maxHeartbeats 1000000 in
theorem is_any (tb mb n : Nat) (l : List Row) (v : Value) (w : World) (hT : Tab w tb mb n l) (hR : RS w v l) (hn : l.length ≤ 1000000) (hV : AllV l) :
    Calls Try.prog 23 #[.pointer (some ⟨tb, 0, none⟩), v] w (AwEnd w) := by
  obtain ⟨A, c, rfl, hc, hr⟩ := hR
  have HV := Lib.hid hV
  have HR := Lib.hid hT.2.2
  clear hV
  obtain ⟨L, hL⟩ : ∃ L, L = l.length := ⟨_, rfl⟩
  have HL := Lib.hid hL
  rw [← hL] at hn hr hc ⊢
  clear hL
  go_enter Try.func23, Try.ntmps23
  go_wp2_with fail
  refine (names_any tb mb n l w hT (by rw [← HL.out]; exact hn)).mono ?_
  rintro e w1 ⟨A1, c1, rfl, hown, hb1⟩
  rw [← HL.out] at hown ⊢
  have hN : Reads w1 w1.heap.size 1 A1 L (l.map fun r => encStr r.name) := Reads.of_own hown
  have hT1 := hT.below hb1
  have hr1 := hr.below hb1
  clear hown hT hr
  go_wp2_with fail
  go_loopw [6] (fun i wr => IsRel L w1 i wr) (fun i _ => L - (intOf i).toNat)
  case atStart => exact ⟨0, by omega, rfl, Below.refl _ _⟩
  case round =>
    obtain ⟨k, hk, rfl, hb⟩ := hrel
    by_cases hlt : k < L
    · have hkl : k < l.length := by rw [← HL.out]; exact hlt
      obtain ⟨_, _, rfl, hbl, hc0⟩ := hr1.formN (by omega) (by decide)
      have hbl := Nat.lt_of_lt_of_le hbl hb1.size
      obtain ⟨_, _, rfl, hbl2, hc2⟩ := hN.form (by omega)
      obtain ⟨q0, q1, q2⟩ := cellsR_at l k hkl
      have e0 := hc0 _ _ q0
      have e1 := hc0 _ _ q1
      have e2 := hc0 _ _ q2
      rw [← Nat.add_assoc] at e1 e2
      have e3 := hc2 k _ (by rw [List.getElem?_map, List.getElem?_eq_getElem hkl]; rfl)
      have hg := getR_mem HR.out HV.out (List.getElem_mem hkl)
      have hvl := valid_le (HV.out _ (List.getElem_mem hkl))
      clear q0 q1 q2 hc0 hc2
      generalize l[k] = r at *
      obtain ⟨nm, rn, rt⟩ := r
      unfold strV at e0
      simp only [encStr] at e0 e1 e2 e3 hg hvl
      obtain ⟨s, hs⟩ : ∃ s : ByteArray, s = ⟨nm.toArray⟩ := ⟨_, rfl⟩
      have hsl : s.data.toList = nm := by rw [hs]
      have hsz : s.size ≤ maxLen := by
        have : s.size = nm.length := by rw [hs]; exact List.size_toArray
        unfold maxLen; omega
      rw [← hs] at e0 e3
      rw [← hsl] at hg
      have HG := Lib.hid hg
      clear hg hs hsl hvl
      have d0 : wr.cell? ⟨_, _, none⟩ = some (.string s) := (hb.cell (p := ⟨_, _, none⟩) hbl).trans e0
      have hT2 := hT1.below hb
      go_wp2_with fail
      refine (get_any tb mb n l s wr hT2 hsz).mono ?_
      rintro e w3 ⟨rfl, hb3⟩
      rw [HG.out, errV_zero]
      have hB := hb.trans (hb3.mono hb.size)
      have f0 : w3.cell? ⟨_, _, none⟩ = some (.string s) := (hB.cell (p := ⟨_, _, none⟩) hbl).trans e0
      have f1 : w3.cell? ⟨_, _, none⟩ = some (.int .i64 rn) := (hB.cell (p := ⟨_, _, none⟩) hbl).trans e1
      have f2 : w3.cell? ⟨_, _, none⟩ = some (.bool rt) := (hB.cell (p := ⟨_, _, none⟩) hbl).trans e2
      have f3 : w3.cell? ⟨_, _, none⟩ = some (.string s) := (hB.cell (p := ⟨_, _, none⟩) hbl2).trans e3
      have hB3 := Lib.hid hB
      clear d0 e0 e1 e2 e3 hb hb3 hB hT2
      go_wp2_with fail
      go_quiet (fail)
      go_wp2_with fail
      go_roundw
      case rel => exact ⟨k + 1, by omega, by go_num, below_drewN hB3.out _⟩
      case measure => simp [intOf]; omega
    · go_wp2_with fail
      go_ret
      exact ⟨rfl, hb1.trans (hb.mono hb1.size)⟩
end Go.Proofs.Ytmondfckpgjikaa
