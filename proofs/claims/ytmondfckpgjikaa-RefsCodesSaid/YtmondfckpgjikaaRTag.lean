/- The walks of the reference's Tag and Drop, and of the table's Drop. -/
import Derived.Test.YtmondfckpgjikaaRMoves
import Derived.Maps.OwnSet
namespace Go.Proofs.Ytmondfckpgjikaa
open Go.RowKit Go.WideMaps
set_option maxRecDepth 100000 in
set_option maxHeartbeats 1000000 in
theorem rtag_any (v : Value) (l : List Row) (s : ByteArray) (x : Int) (w : World) (hL : RS w v l) (hn : l.length ≤ 1000000) (hs : Rising l) (hsz : s.size ≤ maxLen) :
    Calls Try.prog 41 #[v, .string s, .int .i64 x] w (RmEnd w (tagR l s.data.toList x)) := by
  have hL0 := hL
  obtain ⟨A, c, rfl, hc, hr⟩ := hL
  unfold tagR
  by_cases hv : validB s.data.toList = false
  · rw [if_pos hv]
    have HV := Lib.hid hv
    clear hv
    go_enter Try.func41, Try.ntmps41
    go_wp2_with fail
    refine (rvalid_any s w hsz).mono ?_
    rintro e w' ⟨rfl, rfl⟩
    rw [HV.out]
    go_wp2_with fail
    go_ret2
    exact ⟨_, rfl, hL0, Below.refl _ _⟩
  rw [if_neg hv]
  have HV := Lib.hid (show validB s.data.toList = true by simpa using hv)
  clear hv
  by_cases hx : x < 0
  · rw [if_pos hx]
    go_enter Try.func41, Try.ntmps41
    go_wp2_with fail
    refine (rvalid_any s w hsz).mono ?_
    rintro e w' ⟨rfl, rfl⟩
    rw [HV.out]
    go_wp2_with fail
    go_ret2
    exact ⟨_, rfl, hL0, Below.refl _ _⟩
  rw [if_neg hx]
  cases hf : findR s.data.toList l with
  | none =>
    have HF := Lib.hid hf
    clear hf
    go_enter Try.func41, Try.ntmps41
    go_wp2_with fail
    refine (rvalid_any s w hsz).mono ?_
    rintro e w' ⟨rfl, rfl⟩
    rw [HV.out]
    go_wp2_with fail
    refine (find_any A _ c _ l s w hr rfl (by omega) hs).mono ?_
    intro e w1 h
    obtain ⟨rfl, q, rfl⟩ := h
    rw [HF.out]
    have hq := below_drewN (Below.refl w.heap.size w) q
    have hr1 := hr.below hq
    generalize w.drewN q = w1 at *
    go_wp2_with fail
    refine (put_any A _ c _ l s x true w1 hr1 hq.size rfl hc hn hs).mono ?_
    intro e w2 h
    obtain ⟨A2, c2, rfl, hown, hb⟩ := h
    have hb2 := hq.trans (hb.mono hq.size)
    have hR := RS.of_own hown
    clear hown hb hq hr1 hr
    go_wp2_with fail
    go_ret2
    exact ⟨_, rfl, hR, hb2⟩
  | some r =>
    have HF := Lib.hid hf
    clear hf
    go_enter Try.func41, Try.ntmps41
    go_wp2_with fail
    refine (rvalid_any s w hsz).mono ?_
    rintro e w' ⟨rfl, rfl⟩
    rw [HV.out]
    go_wp2_with fail
    refine (find_any _ _ c _ l s w hr rfl (by omega) hs).mono ?_
    intro e w1 h
    obtain ⟨rfl, q, rfl⟩ := h
    rw [HF.out]
    have hq := below_drewN (Below.refl w.heap.size w) q
    have hL1 := hL0.below hq
    generalize w.drewN q = w1 at *
    go_wp2_with fail
    go_ret2
    exact ⟨_, rfl, hL1, hq⟩
theorem Tab.strike {w : World} {tb mb n : Nat} {rows : List Row} (h : Tab w tb mb n rows) (s : ByteArray) (hs : s.size ≤ maxLen) (ty : TypeId) :
    ∃ w', (Builtin.delete_ #[71, 9] ty #[.map (some mb), .string s]).run Try.prog w = .ok (.tuple #[]) w' ∧ Tab w' tb mb n (dropR s.data.toList rows) ∧ w.grownBy w' (some mb) := by
  obtain ⟨w', hrun, hown, ht⟩ := h.2.1.drop (t := 71) (e := 75) law9 Try.underlying71 (keyOf_string_mk Try.underlying9 hs) ty
  have hg := ht.grown
  refine ⟨w', hrun, ⟨h.1.grown hg (by intro e; injection e with e; exact h.ne e), ?_, rising_dropR _ _ h.2.2⟩, hg⟩
  rw [← del_datum]; exact hown
set_option maxRecDepth 100000 in
set_option maxHeartbeats 400000 in
theorem drop_any (tb mb n : Nat) (rows : List Row) (s : ByteArray) (w : World) (h : Tab w tb mb n rows) (hs : s.size ≤ maxLen) :
    Calls Try.prog 43 #[.pointer (some ⟨tb, 0, none⟩), .string s] w (TEnd w tb mb (n + 1) (delR rows s.data.toList).1 (errV (delR rows s.data.toList).2)) := by
  unfold delR
  by_cases hv : validB s.data.toList = false
  · rw [if_pos hv]
    have hg : getR rows s.data.toList = (0, false, 13) := by unfold getR; rw [if_pos hv]
    have HG := Lib.hid hg
    clear hv hg
    go_enter Try.func43, Try.ntmps43
    go_wp2_with fail
    refine (get_any tb mb n rows s w h hs).mono ?_
    rintro e w1 ⟨rfl, hb⟩
    rw [HG.out]
    simp only [errV, show ¬ (13 : Int) = 0 by decide, if_false]
    go_wp2_with fail
    go_ret
    exact tend_same h rfl hb
  · rw [if_neg hv]
    cases hf : findR s.data.toList rows with
    | none =>
      have hg : getR rows s.data.toList = (0, false, 5) := by unfold getR; rw [if_neg hv, hf]
      have HG := Lib.hid hg
      clear hv hg hf
      go_enter Try.func43, Try.ntmps43
      go_wp2_with fail
      refine (get_any tb mb n rows s w h hs).mono ?_
      rintro e w1 ⟨rfl, hb⟩
      rw [HG.out]
      simp only [errV, show ¬ (5 : Int) = 0 by decide, if_false]
      go_wp2_with fail
      go_ret
      exact tend_same h rfl hb
    | some r =>
      have hg : getR rows s.data.toList = (r.n, r.tag, 0) := by unfold getR; rw [if_neg hv, hf]
      have HG := Lib.hid hg
      clear hv hg hf
      simp only
      go_enter Try.func43, Try.ntmps43
      go_wp2_with fail
      refine (get_any tb mb n rows s w h hs).mono ?_
      rintro e w1 ⟨rfl, hb⟩
      rw [HG.out]
      have h1 := h.below hb
      have hc := h1.cell
      obtain ⟨w2, hrun, hT, hg⟩ := h1.strike s hs 0
      simp only [errV_zero]
      go_wp2_with fail
      go_ret
      exact ⟨rfl, hT.mono (by omega), (only_of_below hb _).trans hg⟩
end Go.Proofs.Ytmondfckpgjikaa
