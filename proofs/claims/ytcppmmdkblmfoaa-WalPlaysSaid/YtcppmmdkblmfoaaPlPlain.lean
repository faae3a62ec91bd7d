/- Plain: the log over the files beside the reference log. -/
import Derived.Test.YtcppmmdkblmfoaaKind
namespace Go.Proofs.Ytcppmmdkblmfoaa
open Go.RowKit Go.WideMaps
structure StR (st : AS) (r : RL) : Prop where
  files : (st.files = [] ∧ r.syn = [] ∧ r.more = []) ∨ st.files = [⟨logN.data.toList, r.syn ++ r.more, r.syn.length⟩]
  off : st.off = r.off
  lim : st.lim = decide (0 ≤ r.left)
  left : st.lim = true → st.left = r.left
  lo : -1 ≤ r.left
  hi : r.left ≤ 9223372036854775807
theorem StR.down {st : AS} {r : RL} (h : StR st r) (ho : (opL r.left r.off).2.2 = false) (br : Bool) :
    beginA st (validN logN) = ({ st with off := true }, 8) ∧ StR { st with off := true } ⟨r.syn, r.more, (opL r.left r.off).1, (opL r.left r.off).2.1, br⟩ := by
  have hc : r.off = true ∨ r.left = 0 := by
    unfold opL at ho
    by_cases hc : r.off = true ∨ r.left = 0
    · exact hc
    · rw [if_neg hc] at ho
      split at ho <;> exact Bool.noConfusion (show true = false from ho)
  have hop : opL r.left r.off = (r.left, true, false) := by unfold opL; rw [if_pos hc]
  constructor
  · unfold beginA
    rw [logN_valid, if_neg (by decide), if_pos]
    rcases hc with hc | hc
    · exact .inl (by rw [h.off]; exact hc)
    · refine .inr ?_
      have hl : st.lim = true := by rw [h.lim, hc]; decide
      exact ⟨hl, by rw [h.left hl, hc]⟩
  · rw [hop]
    exact ⟨h.files, rfl, h.lim, h.left, h.lo, h.hi⟩
theorem StR.up {st : AS} {r : RL} (h : StR st r) (ho : (opL r.left r.off).2.2 = true) :
    beginA st (validN logN) = (st, 0) ∧ ∀ (fs : List AF) (s m : List UInt8) (br : Bool), ((fs = [] ∧ s = [] ∧ m = []) ∨ fs = [⟨logN.data.toList, s ++ m, s.length⟩]) → StR { st with files := fs, left := leftA st.lim st.left } ⟨s, m, (opL r.left r.off).1, (opL r.left r.off).2.1, br⟩ := by
  have hc : ¬ (r.off = true ∨ r.left = 0) := by
    intro hc
    unfold opL at ho
    rw [if_pos hc] at ho
    exact Bool.noConfusion (show false = true from ho)
  have hlo := h.lo
  have hhi := h.hi
  constructor
  · unfold beginA
    rw [logN_valid, if_neg (by decide), if_neg]
    rintro (h1 | ⟨h1, h2⟩)
    · exact hc (.inl (by rw [← h.off]; exact h1))
    · exact hc (.inr (by rw [← h.left h1]; exact h2))
  · intro fs s m br hf
    have h0 : r.left ≠ 0 := fun e => hc (.inr e)
    by_cases hp : 0 < r.left
    · have hop : opL r.left r.off = (r.left - 1, r.off, true) := by unfold opL; rw [if_neg hc, if_pos hp]
      have hl : st.lim = true := by rw [h.lim]; simp; omega
      rw [hop]
      refine ⟨hf, h.off, ?_, fun _ => ?_, ?_, ?_⟩
      · show st.lim = decide (0 ≤ r.left - 1)
        rw [hl]; symm; simp; omega
      · show leftA st.lim st.left = r.left - 1
        unfold leftA; rw [if_pos hl, h.left hl]
      · show -1 ≤ r.left - 1
        omega
      · show r.left - 1 ≤ _
        omega
    · have hop : opL r.left r.off = (r.left, r.off, true) := by unfold opL; rw [if_neg hc, if_neg hp]
      have hl : st.lim = false := by rw [h.lim]; simp; omega
      rw [hop]
      exact ⟨hf, h.off, h.lim, fun e => by rw [show st.lim = true from e] at hl; exact absurd hl (by decide), h.lo, h.hi⟩
theorem StR.find {st : AS} {r : RL} (h : StR st r) (hd : r.syn ++ r.more ≠ []) : findA logN.data.toList st.files = some ⟨logN.data.toList, r.syn ++ r.more, r.syn.length⟩ := by
  rcases h.files with ⟨_, h2, h3⟩ | h1
  · rw [h2, h3] at hd; exact absurd rfl hd
  · rw [h1]; unfold findA; simp only [findG, if_true]
/-- The log is whole: its bytes are frames, and nothing else. -/
def Whole (r : RL) : Prop := (frames (r.syn ++ r.more)).2 = (r.syn ++ r.more).length
theorem framesE : frames [] = ([], 0) := by rw [frames_none (show step1 [] = none by unfold step1; rw [if_pos (by decide)])]
theorem whole_snoc {d b : List UInt8} (h : (frames d).2 = d.length) (h1 : 1 ≤ b.length) (h2 : b.length ≤ 1048576) : frames (d ++ frameL b) = ((frames d).1 ++ [b], (d ++ frameL b).length) := by
  have := frames_keep (frameL b) d.length d (Nat.le_refl _)
  rw [h, List.take_length, frames_one b h1 h2] at this
  rw [this, List.length_append, frameL_len, Nat.add_comm 8]
theorem open_law {st : AS} {r : RL} (h : StR st r) : StR (openA st logN).st (rOpen r).1 ∧ (rOpen r).1.br = false ∧ ((rOpen r).1.syn ++ (rOpen r).1.more).length ≤ (r.syn ++ r.more).length ∧
    ((rOpen r).2 = true → Whole (rOpen r).1 ∧ (openA st logN).res = some (frames ((rOpen r).1.syn ++ (rOpen r).1.more))) ∧
    ((rOpen r).2 = false → (openA st logN).res = none ∧ (openA st logN).code = 8) := by
  obtain ⟨syn, more, left, off, br⟩ := r
  by_cases hw : (frames (syn ++ more)).2 = (syn ++ more).length
  · have hr : rOpen ⟨syn, more, left, off, br⟩ = (⟨syn, more, left, off, false⟩, true) := by unfold rOpen; rw [if_pos hw]
    have ho : openA st logN = ⟨st, some (frames (syn ++ more)), 0⟩ := by
      unfold openA
      rcases h.files with ⟨h1, h2, h3⟩ | h1
      · simp only at h2 h3
        rw [h1, h2, h3, List.append_nil, framesE]; rfl
      · rw [h1]
        unfold findA
        simp only [findG, if_true]
        rw [if_neg (show ¬ ((frames (syn ++ more)).2 < (syn ++ more).length) by omega)]
    rw [hr, ho]
    exact ⟨⟨h.files, h.off, h.lim, h.left, h.lo, h.hi⟩, rfl, Nat.le_refl _, fun _ => ⟨hw, rfl⟩, fun e => Bool.noConfusion (show true = false from e)⟩
  · have hfl := (frames_len _ (syn ++ more) (Nat.le_refl _)).1
    have hlt : (frames (syn ++ more)).2 < (syn ++ more).length := by omega
    have hne : syn ++ more ≠ [] := by
      intro e
      rw [e] at hlt
      exact absurd hlt (by simp)
    have hf := h.find hne
    simp only at hf
    cases ho : (opL left off).2.2
    · obtain ⟨hb, hS⟩ := h.down ho false
      have hr : rOpen ⟨syn, more, left, off, br⟩ = (⟨syn, more, (opL left off).1, (opL left off).2.1, false⟩, false) := by unfold rOpen; rw [if_neg hw, if_pos ho]
      have ht : truncA st logN (frames (syn ++ more)).2 = ({ st with off := true }, 8) := by unfold truncA; rw [hb]; rfl
      have hoo : openA st logN = ⟨{ st with off := true }, none, 8⟩ := by
        unfold openA
        rw [hf]
        simp only
        rw [if_pos hlt, ht]
        rfl
      rw [hr, hoo]
      exact ⟨hS, rfl, Nat.le_refl _, fun e => Bool.noConfusion (show false = true from e), fun _ => ⟨rfl, rfl⟩⟩
    · obtain ⟨hb, hS⟩ := h.up ho
      have ht : truncA st logN (frames (syn ++ more)).2 = ({ st with files := [⟨logN.data.toList, (syn ++ more).take (frames (syn ++ more)).2, min syn.length (frames (syn ++ more)).2⟩], left := leftA st.lim st.left }, 0) := by
        rw [truncA_ok (by rw [hb]), hf]
        simp only
        rw [if_neg (by omega), show (((frames (syn ++ more)).2 : Int)).toNat = (frames (syn ++ more)).2 by omega]
        rcases h.files with ⟨_, h2, h3⟩ | h1
        · simp only at h2 h3
          rw [h2, h3] at hne; exact absurd rfl hne
        · rw [h1]
          simp only [putG, if_true]
      have hoo : openA st logN = ⟨{ st with files := [⟨logN.data.toList, (syn ++ more).take (frames (syn ++ more)).2, min syn.length (frames (syn ++ more)).2⟩], left := leftA st.lim st.left }, some (frames (syn ++ more)), 0⟩ := by
        unfold openA
        rw [hf]
        simp only
        rw [if_pos hlt, ht]
        rfl
      obtain ⟨m, hm⟩ : ∃ m, m = (frames (syn ++ more)).2 := ⟨_, rfl⟩
      have hft : frames ((syn ++ more).take m) = frames (syn ++ more) := by rw [hm]; exact frames_take _
      by_cases hms : m < syn.length
      · have hr : rOpen ⟨syn, more, left, off, br⟩ = (⟨syn.take m, [], (opL left off).1, (opL left off).2.1, false⟩, true) := by
          unfold rOpen; rw [if_neg hw, if_neg (by simp only [ho]; decide), if_pos (by rw [← hm]; exact hms)]; simp only [hm]
        have hd : (syn ++ more).take m = syn.take m := by rw [List.take_append_of_le_length (by omega)]
        rw [hr, hoo]
        refine ⟨hS _ _ _ _ (.inr ?_), rfl, ?_, fun _ => ⟨?_, ?_⟩, fun e => Bool.noConfusion (show true = false from e)⟩
        · rw [← hm, hd, List.append_nil, List.length_take, Nat.min_comm]
        · simp only [List.append_nil, List.length_take, List.length_append]; omega
        · show (frames (syn.take m ++ [])).2 = (syn.take m ++ []).length
          rw [List.append_nil, ← hd, hft, ← hm, List.length_take]; omega
        · show some _ = some (frames (syn.take m ++ []))
          rw [List.append_nil, ← hd, hft]
      · have hr : rOpen ⟨syn, more, left, off, br⟩ = (⟨syn, ((syn ++ more).take m).drop syn.length, (opL left off).1, (opL left off).2.1, false⟩, true) := by
          unfold rOpen; rw [if_neg hw, if_neg (by simp only [ho]; decide), if_neg (by rw [← hm]; exact hms)]; simp only [hm]
        have hd : syn ++ ((syn ++ more).take m).drop syn.length = (syn ++ more).take m := by
          rw [List.take_append, List.take_of_length_le (by omega), List.drop_append_of_le_length (by omega), List.drop_length, List.nil_append]
        rw [hr, hoo]
        refine ⟨hS _ _ _ _ (.inr ?_), rfl, ?_, fun _ => ⟨?_, ?_⟩, fun e => Bool.noConfusion (show true = false from e)⟩
        · rw [← hm, hd, Nat.min_eq_left (by omega)]
        · simp only
          rw [hd, List.length_take]; omega
        · show (frames (syn ++ ((syn ++ more).take m).drop syn.length)).2 = (syn ++ ((syn ++ more).take m).drop syn.length).length
          rw [hd, hft, ← hm, List.length_take]; omega
        · show some _ = some (frames (syn ++ ((syn ++ more).take m).drop syn.length))
          rw [hd, hft]
theorem app_law {st : AS} {r : RL} {c z : Int} {b : List UInt8} (h : StR st r) (hw : Whole r) (hc : c = (frames (r.syn ++ r.more)).1.length) (hz : z = (frames (r.syn ++ r.more)).2) (h1 : 1 ≤ b.length) (h2 : b.length ≤ 1048576) (hd : (r.syn ++ r.more).length + b.length + 8 ≤ 16777216) :
    StR (lappA st logN c z r.br b).st (rApp r b).1 ∧ Whole (rApp r b).1 ∧ (lappA st logN c z r.br b).c = (frames ((rApp r b).1.syn ++ (rApp r b).1.more)).1.length ∧ (lappA st logN c z r.br b).z = (frames ((rApp r b).1.syn ++ (rApp r b).1.more)).2 ∧
    (lappA st logN c z r.br b).br = (rApp r b).1.br ∧ kcode (lappA st logN c z r.br b).code = (rApp r b).2 ∧ ((rApp r b).1.syn ++ (rApp r b).1.more).length ≤ (r.syn ++ r.more).length + b.length + 8 := by
  obtain ⟨syn, more, left, off, br⟩ := r
  simp only at hc hz hd
  cases br
  · cases ho : (opL left off).2.2
    · obtain ⟨hb, hS⟩ := h.down ho true
      have hr : rApp ⟨syn, more, left, off, false⟩ b = (⟨syn, more, (opL left off).1, (opL left off).2.1, true⟩, 2) := by unfold rApp; rw [if_neg Bool.false_ne_true, if_pos ho]
      have ha : appendA st logN (frameL b) = ({ st with off := true }, 8) := by unfold appendA; rw [hb]; rfl
      have hl : lappA st logN c z false b = ⟨{ st with off := true }, c, z, true, 8⟩ := by
        unfold lappA
        rw [if_neg Bool.false_ne_true, if_neg (by omega), if_neg (by omega), ha]
        rfl
      rw [hr]
      show StR (lappA st logN c z false b).st _ ∧ _
      rw [hl]
      exact ⟨hS, hw, hc, hz, rfl, rfl, Nat.le_trans (Nat.le_add_right _ b.length) (Nat.le_add_right _ 8)⟩
    · obtain ⟨hb, hS⟩ := h.up ho
      have hr : rApp ⟨syn, more, left, off, false⟩ b = (⟨syn, more ++ frameL b, (opL left off).1, (opL left off).2.1, false⟩, 0) := by unfold rApp; rw [if_neg Bool.false_ne_true, if_neg (by simp only [ho]; decide)]
      have hfl := frameL_len b
      have ha : appendA st logN (frameL b) = ({ st with files := [⟨logN.data.toList, syn ++ more ++ frameL b, syn.length⟩], left := leftA st.lim st.left }, 0) := by
        rw [appendA_ok (by rw [hb])]
        rcases h.files with ⟨h1, h2, h3⟩ | h1
        · simp only at h2 h3
          rw [h1, h2, h3, show findA logN.data.toList [] = none from rfl]
          simp only [Option.getD_none, List.length_nil, List.nil_append, List.append_nil]
          rw [if_neg (by omega)]
          rfl
        · rw [h1, show findA logN.data.toList [⟨logN.data.toList, syn ++ more, syn.length⟩] = some ⟨logN.data.toList, syn ++ more, syn.length⟩ from by unfold findA; simp only [findG, if_true]]
          simp only [Option.getD_some]
          rw [if_neg (by omega)]
          simp only [putG, if_true]
      have hl : lappA st logN c z false b = ⟨{ st with files := [⟨logN.data.toList, syn ++ more ++ frameL b, syn.length⟩], left := leftA st.lim st.left }, c + 1, z + (b.length + 8 : Nat), false, 0⟩ := by
        unfold lappA
        rw [if_neg Bool.false_ne_true, if_neg (by omega), if_neg (by omega), ha]
        rfl
      have hws := whole_snoc (b := b) hw h1 h2
      simp only at hws
      rw [hr]
      show StR (lappA st logN c z false b).st _ ∧ _
      rw [hl]
      refine ⟨hS _ _ _ _ (.inr (by rw [List.append_assoc])), ?_, ?_, ?_, rfl, rfl, ?_⟩
      · show (frames (syn ++ (more ++ frameL b))).2 = (syn ++ (more ++ frameL b)).length
        rw [← List.append_assoc, hws]
      · show c + 1 = (frames (syn ++ (more ++ frameL b))).1.length
        rw [← List.append_assoc, hws, hc, List.length_append]; simp
      · show z + (b.length + 8 : Nat) = (frames (syn ++ (more ++ frameL b))).2
        have hw' : (frames (syn ++ more)).2 = (syn ++ more).length := hw
        rw [← List.append_assoc, hws, hz, hw', @List.length_append _ (syn ++ more) (frameL b), hfl]; simp
      · show (syn ++ (more ++ frameL b)).length ≤ (syn ++ more).length + b.length + 8
        rw [← List.append_assoc, @List.length_append _ (syn ++ more) (frameL b), hfl]; omega
  · have hr : rApp ⟨syn, more, left, off, true⟩ b = (⟨syn, more, left, off, true⟩, 1) := by unfold rApp; rw [if_pos rfl]
    have hl : lappA st logN c z true b = ⟨st, c, z, true, 7⟩ := by unfold lappA; rw [if_pos rfl]
    rw [hr]
    show StR (lappA st logN c z true b).st _ ∧ _
    rw [hl]
    exact ⟨h, hw, hc, hz, rfl, rfl, Nat.le_trans (Nat.le_add_right _ b.length) (Nat.le_add_right _ 8)⟩
theorem whole_zero {r : RL} (hw : Whole r) {c : Int} (hc : c = (frames (r.syn ++ r.more)).1.length) : c = 0 ↔ r.syn ++ r.more = [] := by
  constructor
  · intro h
    have h0 : (frames (r.syn ++ r.more)).1.length = 0 := by omega
    have hw' : (frames (r.syn ++ r.more)).2 = (r.syn ++ r.more).length := hw
    cases hs : step1 (r.syn ++ r.more) with
    | none =>
      rw [frames_none hs] at hw'
      exact List.length_eq_zero_iff.1 hw'.symm
    | some q =>
      obtain ⟨p, t⟩ := q
      rw [frames_some hs] at h0
      simp at h0
  · intro h
    rw [hc, h, framesE]; rfl
theorem sync_law {st : AS} {r : RL} {c : Int} (h : StR st r) (hw : Whole r) (hc : c = (frames (r.syn ++ r.more)).1.length) :
    StR (lsyncA st logN c r.br).1 (rSync r).1 ∧ (rSync r).1.syn ++ (rSync r).1.more = r.syn ++ r.more ∧ (lsyncA st logN c r.br).2.1 = (rSync r).1.br ∧ kcode (lsyncA st logN c r.br).2.2 = (rSync r).2 := by
  have hz := whole_zero hw hc
  obtain ⟨syn, more, left, off, br⟩ := r
  simp only at hc hz
  cases br
  · by_cases h0 : (syn ++ more).length = 0
    · have hr : rSync ⟨syn, more, left, off, false⟩ = (⟨syn, more, left, off, false⟩, 0) := by unfold rSync; rw [if_neg Bool.false_ne_true, if_pos h0]
      have hl : lsyncA st logN c false = (st, false, 0) := by unfold lsyncA; rw [if_neg Bool.false_ne_true, if_pos (hz.2 (List.length_eq_zero_iff.1 h0))]
      rw [hr]
      show StR (lsyncA st logN c false).1 _ ∧ _
      rw [hl]
      exact ⟨h, rfl, rfl, rfl⟩
    · have hne : syn ++ more ≠ [] := fun e => h0 (by rw [e]; rfl)
      have hc0 : c ≠ 0 := fun e => hne (hz.1 e)
      cases ho : (opL left off).2.2
      · obtain ⟨hb, hS⟩ := h.down ho true
        have hr : rSync ⟨syn, more, left, off, false⟩ = (⟨syn, more, (opL left off).1, (opL left off).2.1, true⟩, 2) := by unfold rSync; rw [if_neg Bool.false_ne_true, if_neg h0, if_pos ho]
        have hs : syncA st logN = ({ st with off := true }, 8) := by unfold syncA; rw [hb]; rfl
        have hl : lsyncA st logN c false = ({ st with off := true }, true, 8) := by unfold lsyncA; rw [if_neg Bool.false_ne_true, if_neg hc0, hs]; rfl
        rw [hr]
        show StR (lsyncA st logN c false).1 _ ∧ _
        rw [hl]
        exact ⟨hS, rfl, rfl, rfl⟩
      · obtain ⟨hb, hS⟩ := h.up ho
        have hf := h.find hne
        simp only at hf
        have hr : rSync ⟨syn, more, left, off, false⟩ = (⟨syn ++ more, [], (opL left off).1, (opL left off).2.1, false⟩, 0) := by unfold rSync; rw [if_neg Bool.false_ne_true, if_neg h0, if_neg (by simp only [ho]; decide)]
        have hs : syncA st logN = ({ st with files := [⟨logN.data.toList, syn ++ more, (syn ++ more).length⟩], left := leftA st.lim st.left }, 0) := by
          rw [syncA_ok (by rw [hb]), hf]
          simp only
          rcases h.files with ⟨_, h2, h3⟩ | h1
          · simp only at h2 h3
            rw [h2, h3] at hne; exact absurd rfl hne
          · rw [h1]
            simp only [putG, if_true]
        have hl : lsyncA st logN c false = ({ st with files := [⟨logN.data.toList, syn ++ more, (syn ++ more).length⟩], left := leftA st.lim st.left }, false, 0) := by unfold lsyncA; rw [if_neg Bool.false_ne_true, if_neg hc0, hs]; rfl
        rw [hr]
        show StR (lsyncA st logN c false).1 _ ∧ _
        rw [hl]
        exact ⟨hS _ _ _ _ (.inr (by rw [List.append_nil])), by rw [List.append_nil], rfl, rfl⟩
  · have hr : rSync ⟨syn, more, left, off, true⟩ = (⟨syn, more, left, off, true⟩, 1) := by unfold rSync; rw [if_pos rfl]
    have hl : lsyncA st logN c true = (st, true, 7) := by unfold lsyncA; rw [if_pos rfl]
    rw [hr]
    show StR (lsyncA st logN c true).1 _ ∧ _
    rw [hl]
    exact ⟨h, rfl, rfl, rfl⟩
theorem fail_law {st : AS} {r : RL} (h : StR st r) (k : Int) (hk : k ≤ 9223372036854775807) : StR (failA st k) ⟨r.syn, r.more, max k (-1), r.off, r.br⟩ := by
  refine ⟨h.files, h.off, ?_, ?_, ?_, ?_⟩
  · show decide (0 ≤ k) = decide (0 ≤ max k (-1))
    by_cases hk0 : 0 ≤ k
    · rw [decide_eq_true hk0, decide_eq_true (by omega)]
    · rw [decide_eq_false hk0, decide_eq_false (by omega)]
  · intro e
    have hk0 : 0 ≤ k := by simpa [failA] using e
    show (if 0 ≤ k then k else 0) = max k (-1)
    rw [if_pos hk0]; omega
  · show -1 ≤ max k (-1)
    omega
  · show max k (-1) ≤ _
    omega
theorem crash_law {st : AS} {r : RL} (h : StR st r) (k : Int) : StR ⟨crashL st.files [k], false, false, 0⟩ (rCrash r k) ∧ ((rCrash r k).syn ++ (rCrash r k).more).length ≤ (r.syn ++ r.more).length := by
  obtain ⟨syn, more, left, off, br⟩ := r
  have hr : rCrash ⟨syn, more, left, off, br⟩ k = ⟨syn ++ more.take (max 0 (min k more.length)).toNat, [], -1, false, false⟩ := rfl
  rw [hr]
  constructor
  · refine ⟨?_, rfl, rfl, fun e => Bool.noConfusion (show false = true from e), by show (-1 : Int) ≤ -1; omega, by show (-1 : Int) ≤ _; omega⟩
    rcases h.files with ⟨h1, h2, h3⟩ | h1
    · simp only at h2 h3
      refine .inl ⟨?_, ?_, rfl⟩
      · show crashL st.files [k] = []
        rw [h1]; rfl
      · show syn ++ more.take _ = []
        rw [h2, h3]; simp
    · refine .inr ?_
      show crashL st.files [k] = _
      rw [h1]
      simp only at h1
      simp only [crashL, crash1]
      by_cases hm : (syn ++ more).length - syn.length = 0
      · have hm0 : more.length = 0 := by rw [List.length_append] at hm; omega
        have hm1 : more = [] := List.length_eq_zero_iff.1 hm0
        rw [if_pos hm, hm1]
        simp
      · rw [if_neg hm]
        have hD : (syn ++ more).length - syn.length = more.length := by rw [List.length_append]; omega
        simp only [cutF, hD]
        have hcl : (clipI k 0 (more.length : Int)).toNat = (max 0 (min k more.length)).toNat := by
          unfold clipI
          split
          · omega
          · split <;> omega
        rw [hcl]
        have hle : (max 0 (min k more.length)).toNat ≤ more.length := by omega
        rw [List.append_nil, List.take_length_add_append, List.length_append, List.length_take, Nat.min_eq_left hle]
  · simp only [List.append_nil, List.length_append, List.length_take]
    omega
end Go.Proofs.Ytcppmmdkblmfoaa
