/- The walks of set, Branch, Tag, Get, Num, Is. -/
import Derived.Test.YtmondfckpgjikaaTab
import Derived.RegionTactic
import Derived.ChangeAlike
namespace Go.Proofs.Ytmondfckpgjikaa
open Go.RowKit Go.WideMaps
/-- An error's value. -/
def errV (c : Int) : Value := if c = 0 then .nilIface else .iface 31 (.int .i64 c)
theorem errV_zero : errV 0 = .nilIface := rfl
def TEnd (w : World) (tb mb n : Nat) (rows : List Row) (v : Value) (e : Ending) (w' : World) : Prop :=
  e = .returned v ∧ Tab w' tb mb n rows ∧ w.grownBy w' (some mb)
theorem Tab.store {w : World} {tb mb n : Nat} {rows : List Row} (h : Tab w tb mb n rows) (hn : n < maxLen) (s : ByteArray) (hs : s.size ≤ maxLen) (x : Int) (t : Bool) :
    ∃ w', (Instr.mapUpdate 71 (.map (some mb)) (.string s) (.agg #[.int .i64 x, .bool t])).run Try.prog w = .ok () w' ∧ Tab w' tb mb (n + 1) (putR ⟨s.data.toList, x, t⟩ rows) ∧ w.grownBy w' (some mb) := by
  obtain ⟨w', hrun, hown, hg⟩ := h.2.1.update (t := 71) (e := 75) law9 Try.underlying71 hn (keyOf_string_mk Try.underlying9 hs) (tgtR_mk x t)
  refine ⟨w', hrun, ⟨h.1.grown hg (by intro e; injection e with e; exact h.ne e), ?_, rising_putR _ _ h.2.2⟩, hg⟩
  have := put_datum rows ⟨s.data.toList, x, t⟩ h.2.2
  rw [← this]; exact hown
set_option maxHeartbeats 400000 in
theorem set_any (tb mb n : Nat) (rows : List Row) (s : ByteArray) (x : Int) (t : Bool) (w : World) (h : Tab w tb mb n rows) (hn : n < maxLen) (hs : s.size ≤ maxLen) :
    Calls Try.prog 39 #[.pointer (some ⟨tb, 0, none⟩), .string s, .agg #[.int .i64 x, .bool t]] w (TEnd w tb mb (n + 1) (putR ⟨s.data.toList, x, t⟩ rows) (.tuple #[])) := by
  have h1 := h.below ((Below.refl w.heap.size w).alloc (Nat.le_refl _) (.cells #[.int .i64 x, .bool t] 75))
  have h2 : Tab (w.alloc (.cells #[.int .i64 x, .bool t] 75)).drew tb mb n rows := h1
  obtain ⟨w', hrun, hT, hg⟩ := h2.store hn s hs x t
  have hc := h.cell
  have hlt := h.lt.1
  have heq := fun w => run_eql_map_nil (P := Try.prog) w 71 9 75 (some mb) Try.underlying71
  go_enter Try.func39, Try.ntmps39
  go_wp2
  go_region
  go_end0
  exact ⟨rfl, hT, (only_drew (World.grownBy_alloc w _ (some mb))).trans hg⟩
theorem Tab.mono {w : World} {tb mb n n' : Nat} {rows : List Row} (h : Tab w tb mb n rows) (hn : n ≤ n') : Tab w tb mb n' rows := ⟨h.1, h.2.1.mono hn, h.2.2⟩
theorem tend_same {w w' : World} {tb mb n : Nat} {rows : List Row} {v : Value} {e : Ending} (h : Tab w tb mb n rows) (he : e = .returned v) (hb : Below w.heap.size w w') : TEnd w tb mb (n + 1) rows v e w' :=
  ⟨he, (h.below hb).mono (by omega), only_of_below hb _⟩
set_option maxRecDepth 100000 in
set_option maxHeartbeats 1000000 in
theorem branch_any (tb mb n : Nat) (rows : List Row) (s : ByteArray) (old x : Int) (w : World) (h : Tab w tb mb n rows) (hn : n < maxLen) (hs : s.size ≤ maxLen) :
    Calls Try.prog 15 #[.pointer (some ⟨tb, 0, none⟩), .string s, .int .i64 old, .int .i64 x] w
      (TEnd w tb mb (n + 1) (branchR rows s.data.toList old x).1 (errV (branchR rows s.data.toList old x).2)) := by
  have hc := h.cell
  have hlt := h.lt.1
  unfold branchR
  by_cases hv : validB s.data.toList = false
  · rw [if_pos hv]
    have HV := Lib.hid hv
    clear hv
    go_enter Try.func15, Try.ntmps15
    go_wp2_with fail
    refine (valid_any s w hs).mono ?_
    rintro e w' ⟨rfl, rfl⟩
    rw [HV.out]
    go_wp2_with fail
    go_ret
    exact tend_same h rfl (Below.refl _ _)
  rw [if_neg hv]
  have HV := Lib.hid (show validB s.data.toList = true by simpa using hv)
  clear hv
  by_cases hx : x < 0
  · rw [if_pos (.inl hx)]
    go_enter Try.func15, Try.ntmps15
    go_wp2_with fail
    refine (valid_any s w hs).mono ?_
    rintro e w' ⟨rfl, rfl⟩
    rw [HV.out]
    go_wp2_with fail
    go_ret
    exact tend_same h rfl (Below.refl _ _)
  by_cases ho : old < -1
  · rw [if_pos (.inr ho)]
    go_enter Try.func15, Try.ntmps15
    go_wp2_with fail
    refine (valid_any s w hs).mono ?_
    rintro e w' ⟨rfl, rfl⟩
    rw [HV.out]
    go_wp2_with fail
    go_ret
    exact tend_same h rfl (Below.refl _ _)
  rw [if_neg (by omega)]
  have hlook := h.look s hs
  unfold gotR at hlook
  cases hf : findR s.data.toList rows with
  | none =>
    rw [hf] at hlook
    simp only [Option.isSome_none] at hlook
    clear hf
    by_cases h1 : old = -1
    · simp only [h1, if_true]
      subst h1
      go_enter Try.func15, Try.ntmps15
      go_wp2_with fail
      refine (valid_any s w hs).mono ?_
      rintro e w' ⟨rfl, rfl⟩
      rw [HV.out]
      go_wp2_with fail
      have h2 := h.below ((Below.refl w.heap.size w).alloc (Nat.le_refl _) (.cells #[.int .i64 0, .bool false] 75))
      refine (set_any tb mb n rows s x false _ h2 hn hs).mono ?_
      rintro e w' ⟨rfl, hT, hg⟩
      have hg2 := (World.grownBy_alloc w (.cells #[.int .i64 0, .bool false] 75) (some mb)).trans hg
      clear h2 hg hlook hc
      go_wp2_with fail
      go_ret
      exact ⟨rfl, hT, hg2⟩
    · simp only [h1, if_false]
      have b1 : (old == -1) = false := by simpa using h1
      clear h1
      go_enter Try.func15, Try.ntmps15
      go_wp2_with fail
      refine (valid_any s w hs).mono ?_
      rintro e w' ⟨rfl, rfl⟩
      rw [HV.out]
      go_wp2_with fail
      go_ret
      exact tend_same h rfl ((Below.refl w.heap.size w).alloc (Nat.le_refl _) _)
  | some r =>
    rw [hf] at hlook
    simp only [Option.isSome_some] at hlook
    clear hf
    obtain ⟨nm, rn, rt⟩ := r
    simp only at hlook ⊢
    by_cases h1 : old = -1
    · simp only [h1, if_true]
      subst h1
      go_enter Try.func15, Try.ntmps15
      go_wp2_with fail
      refine (valid_any s w hs).mono ?_
      rintro e w' ⟨rfl, rfl⟩
      rw [HV.out]
      go_wp2_with fail
      go_ret
      exact tend_same h rfl ((Below.refl w.heap.size w).alloc (Nat.le_refl _) _)
    · simp only [h1, if_false]
      have b1 : (old == -1) = false := by simpa using h1
      clear h1
      cases rt with
      | true =>
        simp only [if_true]
        go_enter Try.func15, Try.ntmps15
        go_wp2_with fail
        refine (valid_any s w hs).mono ?_
        rintro e w' ⟨rfl, rfl⟩
        rw [HV.out]
        go_wp2_with fail
        go_ret
        exact tend_same h rfl ((Below.refl w.heap.size w).alloc (Nat.le_refl _) _)
      | false =>
        simp only [Bool.false_eq_true, if_false]
        by_cases h2 : rn = old
        · subst h2
          simp only [ne_eq, not_true_eq_false, if_false]
          go_enter Try.func15, Try.ntmps15
          go_wp2_with fail
          refine (valid_any s w hs).mono ?_
          rintro e w' ⟨rfl, rfl⟩
          rw [HV.out]
          go_wp2_with fail
          have h2 := h.below ((Below.refl w.heap.size w).alloc (Nat.le_refl _) (.cells #[.int .i64 rn, .bool false] 75))
          refine (set_any tb mb n rows s x false _ h2 hn hs).mono ?_
          rintro e w' ⟨rfl, hT, hg⟩
          have hg2 := (World.grownBy_alloc w (.cells #[.int .i64 rn, .bool false] 75) (some mb)).trans hg
          clear h2 hg hlook hc
          go_wp2_with fail
          go_ret
          exact ⟨rfl, hT, hg2⟩
        · simp only [ne_eq, h2, not_false_eq_true, if_true]
          have b2 : (rn != old) = true := by simpa using h2
          clear h2
          go_enter Try.func15, Try.ntmps15
          go_wp2_with fail
          refine (valid_any s w hs).mono ?_
          rintro e w' ⟨rfl, rfl⟩
          rw [HV.out]
          go_wp2_with fail
          go_ret
          exact tend_same h rfl ((Below.refl w.heap.size w).alloc (Nat.le_refl _) _)
set_option maxRecDepth 100000 in
set_option maxHeartbeats 1000000 in
theorem tag_any (tb mb n : Nat) (rows : List Row) (s : ByteArray) (x : Int) (w : World) (h : Tab w tb mb n rows) (hn : n < maxLen) (hs : s.size ≤ maxLen) :
    Calls Try.prog 20 #[.pointer (some ⟨tb, 0, none⟩), .string s, .int .i64 x] w
      (TEnd w tb mb (n + 1) (tagR rows s.data.toList x).1 (errV (tagR rows s.data.toList x).2)) := by
  have hc := h.cell
  have hlt := h.lt.1
  unfold tagR
  by_cases hv : validB s.data.toList = false
  · rw [if_pos hv]
    have HV := Lib.hid hv
    clear hv
    go_enter Try.func20, Try.ntmps20
    go_wp2_with fail
    refine (valid_any s w hs).mono ?_
    rintro e w' ⟨rfl, rfl⟩
    rw [HV.out]
    go_wp2_with fail
    go_ret
    exact tend_same h rfl (Below.refl _ _)
  rw [if_neg hv]
  have HV := Lib.hid (show validB s.data.toList = true by simpa using hv)
  clear hv
  by_cases hx : x < 0
  · rw [if_pos hx]
    go_enter Try.func20, Try.ntmps20
    go_wp2_with fail
    refine (valid_any s w hs).mono ?_
    rintro e w' ⟨rfl, rfl⟩
    rw [HV.out]
    go_wp2_with fail
    go_ret
    exact tend_same h rfl (Below.refl _ _)
  rw [if_neg hx]
  have hlook := h.look s hs
  unfold gotR at hlook
  cases hf : findR s.data.toList rows with
  | none =>
    rw [hf] at hlook
    simp only [Option.isSome_none] at hlook
    clear hf
    go_enter Try.func20, Try.ntmps20
    go_wp2_with fail
    refine (valid_any s w hs).mono ?_
    rintro e w' ⟨rfl, rfl⟩
    rw [HV.out]
    go_wp2_with fail
    have h2 := h.below ((Below.refl w.heap.size w).alloc (Nat.le_refl _) (.cells #[.int .i64 0, .bool false] 75))
    refine (set_any tb mb n rows s x true _ h2 hn hs).mono ?_
    rintro e w' ⟨rfl, hT, hg⟩
    have hg2 := (World.grownBy_alloc w (.cells #[.int .i64 0, .bool false] 75) (some mb)).trans hg
    clear h2 hg hlook hc
    go_wp2_with fail
    go_ret
    exact ⟨rfl, hT, hg2⟩
  | some r =>
    rw [hf] at hlook
    simp only [Option.isSome_some] at hlook
    clear hf
    go_enter Try.func20, Try.ntmps20
    go_wp2_with fail
    refine (valid_any s w hs).mono ?_
    rintro e w' ⟨rfl, rfl⟩
    rw [HV.out]
    go_wp2_with fail
    go_ret
    exact tend_same h rfl ((Below.refl w.heap.size w).alloc (Nat.le_refl _) _)
def GEnd (w : World) (g : Int × Bool × Int) (e : Ending) (w' : World) : Prop := e = .returned (.tuple #[.int .i64 g.1, .bool g.2.1, errV g.2.2]) ∧ Below w.heap.size w w'
set_option maxRecDepth 100000 in
set_option maxHeartbeats 1000000 in
theorem get_any (tb mb n : Nat) (rows : List Row) (s : ByteArray) (w : World) (h : Tab w tb mb n rows) (hs : s.size ≤ maxLen) :
    Calls Try.prog 16 #[.pointer (some ⟨tb, 0, none⟩), .string s] w (GEnd w (getR rows s.data.toList)) := by
  have hc := h.cell
  have hlt := h.lt.1
  unfold getR
  by_cases hv : validB s.data.toList = false
  · rw [if_pos hv]
    have HV := Lib.hid hv
    clear hv
    go_enter Try.func16, Try.ntmps16
    go_wp2_with fail
    refine (valid_any s w hs).mono ?_
    rintro e w' ⟨rfl, rfl⟩
    rw [HV.out]
    go_wp2_with fail
    go_ret3
    exact ⟨rfl, Below.refl _ _⟩
  rw [if_neg hv]
  have HV := Lib.hid (show validB s.data.toList = true by simpa using hv)
  clear hv
  have hlook := h.look s hs
  unfold gotR at hlook
  cases hf : findR s.data.toList rows with
  | none =>
    rw [hf] at hlook
    simp only [Option.isSome_none] at hlook
    clear hf
    go_enter Try.func16, Try.ntmps16
    go_wp2_with fail
    refine (valid_any s w hs).mono ?_
    rintro e w' ⟨rfl, rfl⟩
    rw [HV.out]
    go_wp2_with fail
    go_ret3
    exact ⟨rfl, (Below.refl w.heap.size w).alloc (Nat.le_refl _) _⟩
  | some r =>
    rw [hf] at hlook
    simp only [Option.isSome_some] at hlook
    clear hf
    obtain ⟨nm, rn, rt⟩ := r
    simp only at hlook ⊢
    go_enter Try.func16, Try.ntmps16
    go_wp2_with fail
    refine (valid_any s w hs).mono ?_
    rintro e w' ⟨rfl, rfl⟩
    rw [HV.out]
    go_wp2_with fail
    go_quiet (fail)
    go_wp2_with fail
    go_ret3
    exact ⟨rfl, below_drewN ((Below.refl w.heap.size w).alloc (Nat.le_refl _) _) _⟩
end Go.Proofs.Ytmondfckpgjikaa
