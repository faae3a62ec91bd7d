/- Plain: the system beside the reference, call by call. -/
import Derived.Test.YthmbmecodddkeaaRFs
import Derived.Test.YthmbmecodddkeaaRename
import Derived.Test.YthmbmecodddkeaaRemove
namespace Go.Proofs.Ythmbmecodddkeaa
open Go.RowKit Go.WideMaps
structure StY (st : AS) (y : RY) : Prop where
  files : st.files = y.files
  off : st.off = y.off
  lim : st.lim = decide (0 ≤ y.left)
  left : st.lim = true → st.left = y.left
  lo : -1 ≤ y.left
  hi : y.left ≤ 9223372036854775807
def Op2 (a : AS × Int) (b : RY × Int) : Prop := a.2 = b.2 ∧ StY a.1 b.1
section
variable {st : AS} {y : RY}
theorem StY.down (h : StY st y) : (st.off = true ∨ (st.lim = true ∧ st.left = 0)) ↔ (y.off = true ∨ y.left = 0) := by
  constructor
  · rintro (h1 | ⟨h1, h2⟩)
    · exact .inl (by rw [← h.off]; exact h1)
    · exact .inr (by rw [← h.left h1]; exact h2)
  · rintro (h1 | h1)
    · exact .inl (by rw [h.off]; exact h1)
    · have hl : st.lim = true := by rw [h.lim, h1]; decide
      exact .inr ⟨hl, by rw [h.left hl]; exact h1⟩
theorem begin_law (h : StY st y) (ok : Bool) : Op2 (beginA st ok) (rBegin y ok) := by
  unfold beginA rBegin
  split
  · exact ⟨rfl, h⟩
  · by_cases hd : y.off = true ∨ y.left = 0
    · rw [if_pos (h.down.2 hd), if_pos hd]
      exact ⟨rfl, h.files, rfl, h.lim, h.left, h.lo, h.hi⟩
    · rw [if_neg (fun e => hd (h.down.1 e)), if_neg hd]
      exact ⟨rfl, h⟩
theorem begin_zero (h : StY st y) {ok : Bool} (h0 : (beginA st ok).2 = 0) : (rBegin y ok).2 = 0 ∧ ¬ (y.off = true ∨ y.left = 0) := by
  have hb := begin_law h ok
  refine ⟨hb.1 ▸ h0, fun hd => ?_⟩
  unfold beginA at h0
  rw [if_pos (h.down.2 hd)] at h0
  split at h0
  · exact absurd (show (13 : Int) = 0 from h0) (by decide)
  · exact absurd (show (8 : Int) = 0 from h0) (by decide)
theorem done_law (h : StY st y) (hd : ¬ (y.off = true ∨ y.left = 0)) (fs : List AF) : StY { st with files := fs, left := leftA st.lim st.left } (rDone ⟨fs, y.left, y.off⟩) := by
  have hlo := h.lo
  have hhi := h.hi
  have h0 : y.left ≠ 0 := fun e => hd (.inr e)
  unfold rDone
  by_cases hp : 0 < y.left
  · have hl : st.lim = true := by rw [h.lim]; simp; omega
    rw [if_pos hp]
    refine ⟨rfl, h.off, ?_, fun _ => ?_, ?_, ?_⟩
    · show st.lim = decide (0 ≤ y.left - 1)
      rw [hl]; symm; simp; omega
    · show leftA st.lim st.left = y.left - 1
      unfold leftA; rw [if_pos hl, h.left hl]
    · show -1 ≤ y.left - 1
      omega
    · show y.left - 1 ≤ _
      omega
  · have hl : st.lim = false := by rw [h.lim]; simp; omega
    rw [if_neg hp]
    exact ⟨rfl, h.off, h.lim, fun e => by rw [show st.lim = true from e] at hl; exact absurd hl (by decide), h.lo, h.hi⟩
theorem rAppend_ok {nm : ByteArray} {b : List UInt8} (h : (rBegin y (validN nm)).2 = 0) : rAppend y nm b = if 16777216 < ((findA nm.data.toList y.files).getD ⟨nm.data.toList, [], 0⟩).data.length + b.length then (y, 9)
    else (rDone ⟨putG AF.name ⟨nm.data.toList, ((findA nm.data.toList y.files).getD ⟨nm.data.toList, [], 0⟩).data ++ b, ((findA nm.data.toList y.files).getD ⟨nm.data.toList, [], 0⟩).sync⟩ y.files, y.left, y.off⟩, 0) := by
  unfold rAppend; rw [if_neg (by rw [h]; decide)]
theorem rSync_ok {nm : ByteArray} (h : (rBegin y (validN nm)).2 = 0) : rSync y nm = match findA nm.data.toList y.files with
    | none => (y, 5)
    | some f => (rDone ⟨putG AF.name ⟨nm.data.toList, f.data, f.data.length⟩ y.files, y.left, y.off⟩, 0) := by
  unfold rSync; rw [if_neg (by rw [h]; decide)]; rfl
theorem rTrunc_ok {nm : ByteArray} {k : Int} (h : (rBegin y (validN nm)).2 = 0) : rTrunc y nm k = match findA nm.data.toList y.files with
    | none => (y, 5)
    | some f => if k < 0 ∨ (f.data.length : Int) < k then (y, 1) else (rDone ⟨putG AF.name ⟨nm.data.toList, f.data.take k.toNat, min f.sync k.toNat⟩ y.files, y.left, y.off⟩, 0) := by
  unfold rTrunc; rw [if_neg (by rw [h]; decide)]; rfl
theorem rRename_ok {nm nw : ByteArray} (h : (rBegin y (validN nm && validN nw)).2 = 0) : rRename y nm nw = match findA nm.data.toList y.files with
    | none => (y, 5)
    | some f => (rDone ⟨putG AF.name ⟨nw.data.toList, f.data, f.sync⟩ (dropG AF.name nm.data.toList y.files), y.left, y.off⟩, 0) := by
  unfold rRename; rw [if_neg (by rw [h]; decide)]; rfl
theorem rRemove_ok {nm : ByteArray} (h : (rBegin y (validN nm)).2 = 0) : rRemove y nm = match findA nm.data.toList y.files with
    | none => (y, 5)
    | some _ => (rDone ⟨dropG AF.name nm.data.toList y.files, y.left, y.off⟩, 0) := by
  unfold rRemove; rw [if_neg (by rw [h]; decide)]; rfl
theorem app_law (h : StY st y) (nm : ByteArray) (b : List UInt8) : Op2 (appendA st nm b) (rAppend y nm b) := by
  by_cases h0 : (beginA st (validN nm)).2 = 0
  · obtain ⟨h1, hd⟩ := begin_zero h h0
    rw [appendA_ok h0]
    rw [rAppend_ok h1, h.files]
    split
    · exact ⟨rfl, h⟩
    · exact ⟨rfl, done_law h hd _⟩
  · have h1 : (rBegin y (validN nm)).2 ≠ 0 := fun e => h0 ((begin_law h _).1.trans e)
    unfold appendA rAppend
    rw [if_pos h0, if_pos h1]
    exact begin_law h _
theorem sync_law (h : StY st y) (nm : ByteArray) : Op2 (syncA st nm) (rSync y nm) := by
  by_cases h0 : (beginA st (validN nm)).2 = 0
  · obtain ⟨h1, hd⟩ := begin_zero h h0
    rw [syncA_ok h0]
    rw [rSync_ok h1, h.files]
    cases findA nm.data.toList y.files with
    | none => exact ⟨rfl, h⟩
    | some f => exact ⟨rfl, done_law h hd _⟩
  · have h1 : (rBegin y (validN nm)).2 ≠ 0 := fun e => h0 ((begin_law h _).1.trans e)
    unfold syncA rSync
    rw [if_pos h0, if_pos h1]
    exact begin_law h _
theorem trunc_law (h : StY st y) (nm : ByteArray) (k : Int) : Op2 (truncA st nm k) (rTrunc y nm k) := by
  by_cases h0 : (beginA st (validN nm)).2 = 0
  · obtain ⟨h1, hd⟩ := begin_zero h h0
    rw [truncA_ok h0]
    rw [rTrunc_ok h1, h.files]
    cases findA nm.data.toList y.files with
    | none => exact ⟨rfl, h⟩
    | some f =>
      simp only
      split
      · exact ⟨rfl, h⟩
      · exact ⟨rfl, done_law h hd _⟩
  · have h1 : (rBegin y (validN nm)).2 ≠ 0 := fun e => h0 ((begin_law h _).1.trans e)
    unfold truncA rTrunc
    rw [if_pos h0, if_pos h1]
    exact begin_law h _
theorem rename_law (h : StY st y) (nm nw : ByteArray) : Op2 (renameA st nm nw) (rRename y nm nw) := by
  by_cases h0 : (beginA st (validN nm && validN nw)).2 = 0
  · obtain ⟨h1, hd⟩ := begin_zero h h0
    rw [renameA_ok h0]
    rw [rRename_ok h1, h.files]
    cases findA nm.data.toList y.files with
    | none => exact ⟨rfl, h⟩
    | some f => exact ⟨rfl, done_law h hd _⟩
  · have h1 : (rBegin y (validN nm && validN nw)).2 ≠ 0 := fun e => h0 ((begin_law h _).1.trans e)
    unfold renameA rRename
    rw [if_pos h0, if_pos h1]
    exact begin_law h _
theorem remove_law (h : StY st y) (nm : ByteArray) : Op2 (removeA st nm) (rRemove y nm) := by
  by_cases h0 : (beginA st (validN nm)).2 = 0
  · obtain ⟨h1, hd⟩ := begin_zero h h0
    rw [removeA_ok h0]
    rw [rRemove_ok h1, h.files]
    cases findA nm.data.toList y.files with
    | none => exact ⟨rfl, h⟩
    | some f => exact ⟨rfl, done_law h hd _⟩
  · have h1 : (rBegin y (validN nm)).2 ≠ 0 := fun e => h0 ((begin_law h _).1.trans e)
    unfold removeA rRemove
    rw [if_pos h0, if_pos h1]
    exact begin_law h _
theorem fail_law (h : StY st y) (k : Int) (hk : k ≤ 9223372036854775807) : StY (failA st k) ⟨y.files, max k (-1), y.off⟩ := by
  refine ⟨h.files, h.off, ?_, ?_, ?_, ?_⟩
  · show decide (0 ≤ k) = decide (0 ≤ max k (-1))
    by_cases hk0 : 0 ≤ k
    · rw [decide_eq_true hk0, decide_eq_true (by omega)]
    · rw [decide_eq_false hk0, decide_eq_false (by omega)]
  · intro e
    have hk0 : 0 ≤ k := by simpa [failA] using e
    show (if 0 ≤ k then k else 0) = max k (-1)
    rw [if_pos hk0]; omega
  · show -1 ≤ max k (-1)
    omega
  · show max k (-1) ≤ _
    omega
theorem crash_law (h : StY st y) (ks : List Int) : StY ⟨crashL st.files ks, false, false, 0⟩ (rCrash y ks) := by
  refine ⟨by rw [h.files]; rfl, rfl, rfl, fun e => Bool.noConfusion (show false = true from e), by show (-1 : Int) ≤ -1; omega, by show (-1 : Int) ≤ _; omega⟩
end
/-! ### how many files, and how long their names -/
def InvF (n : Nat) (fs : List AF) : Prop := fs.length ≤ n ∧ ∀ f ∈ fs, f.name.length ≤ 32
theorem InvF.more {n m : Nat} {fs : List AF} (h : InvF n fs) (hm : n ≤ m) : InvF m fs := ⟨Nat.le_trans h.1 hm, h.2⟩
theorem InvF.put {n : Nat} {fs : List AF} (h : InvF n fs) {f : AF} (hf : f.name.length ≤ 32) : InvF (n + 1) (putG AF.name f fs) :=
  ⟨Nat.le_trans (len_putG f fs) (Nat.succ_le_succ h.1), fun g hg => by
    rcases mem_putG f fs g hg with rfl | ⟨hg, _⟩
    · exact hf
    · exact h.2 g hg⟩
theorem InvF.drop {n : Nat} {fs : List AF} (h : InvF n fs) (s : List UInt8) : InvF n (dropG AF.name s fs) :=
  ⟨Nat.le_trans (List.length_filter_le _ _) h.1, fun g hg => h.2 g (List.mem_filter.1 hg).1⟩
theorem valid_len {nm : ByteArray} (h : validN nm = true) : nm.data.toList.length ≤ 32 := by
  unfold validN at h
  simp only [Bool.and_eq_true, decide_eq_true_eq] at h
  have : nm.data.toList.length = nm.size := rfl
  omega
theorem begin_ok_of {st : AS} {ok : Bool} (h : (beginA st ok).2 = 0) : ok = true := by
  cases ok
  · unfold beginA at h; rw [if_pos rfl] at h; exact absurd (show (13 : Int) = 0 from h) (by decide)
  · rfl
theorem begin_files (st : AS) (ok : Bool) : (beginA st ok).1.files = st.files := by
  unfold beginA
  split
  · rfl
  · split <;> rfl
section
variable {st : AS} {n : Nat}
theorem inv_app (h : InvF n st.files) (nm : ByteArray) (b : List UInt8) : InvF (n + 1) (appendA st nm b).1.files := by
  by_cases h0 : (beginA st (validN nm)).2 = 0
  · rw [appendA_ok h0]
    split
    · exact h.more (Nat.le_succ _)
    · exact h.put (valid_len (begin_ok_of h0))
  · unfold appendA; rw [if_pos h0, begin_files]; exact h.more (Nat.le_succ _)
theorem inv_sync (h : InvF n st.files) (nm : ByteArray) : InvF (n + 1) (syncA st nm).1.files := by
  by_cases h0 : (beginA st (validN nm)).2 = 0
  · rw [syncA_ok h0]
    split
    · exact h.more (Nat.le_succ _)
    · exact h.put (valid_len (begin_ok_of h0))
  · unfold syncA; rw [if_pos h0, begin_files]; exact h.more (Nat.le_succ _)
theorem inv_trunc (h : InvF n st.files) (nm : ByteArray) (k : Int) : InvF (n + 1) (truncA st nm k).1.files := by
  by_cases h0 : (beginA st (validN nm)).2 = 0
  · rw [truncA_ok h0]
    split
    · exact h.more (Nat.le_succ _)
    · split
      · exact h.more (Nat.le_succ _)
      · exact h.put (valid_len (begin_ok_of h0))
  · unfold truncA; rw [if_pos h0, begin_files]; exact h.more (Nat.le_succ _)
theorem inv_rename (h : InvF n st.files) (nm nw : ByteArray) : InvF (n + 1) (renameA st nm nw).1.files := by
  by_cases h0 : (beginA st (validN nm && validN nw)).2 = 0
  · rw [renameA_ok h0]
    split
    · exact h.more (Nat.le_succ _)
    · have := begin_ok_of h0
      simp only [Bool.and_eq_true] at this
      exact (h.drop _).put (valid_len this.2)
  · unfold renameA; rw [if_pos h0, begin_files]; exact h.more (Nat.le_succ _)
theorem inv_remove (h : InvF n st.files) (nm : ByteArray) : InvF (n + 1) (removeA st nm).1.files := by
  by_cases h0 : (beginA st (validN nm)).2 = 0
  · rw [removeA_ok h0]
    split
    · exact h.more (Nat.le_succ _)
    · exact (h.drop _).more (Nat.le_succ _)
  · unfold removeA; rw [if_pos h0, begin_files]; exact h.more (Nat.le_succ _)
theorem inv_crash (h : InvF n st.files) (ks : List Int) : InvF n (crashL st.files ks) := by
  refine ⟨by rw [crashL_len]; exact h.1, fun f hf => ?_⟩
  have hm : f.name ∈ (crashL st.files ks).map AF.name := List.mem_map_of_mem hf
  rw [crashL_names] at hm
  obtain ⟨g, hg, e⟩ := List.mem_map.1 hm
  rw [← e]; exact h.2 g hg
end
/-! ### an act -/
structure ActD where
  k : Nat
  n : Int
  nm : ByteArray
  ot : ByteArray
  data : List UInt8
  keep : List Int
def stepA (st : AS) (a : ActD) : AS × Int := match a.k with
  | 0 => appendA st a.nm a.data
  | 1 => appendA st a.nm a.data
  | 2 => syncA st a.nm
  | 3 => truncA st a.nm a.n
  | 4 => renameA st a.nm a.ot
  | 5 => removeA st a.nm
  | 6 => (failA st a.n, 0)
  | _ => (⟨crashL st.files a.keep, false, false, 0⟩, 0)
def stepY (y : RY) (a : ActD) : RY × Int := match a.k with
  | 0 => rAppend y a.nm a.data
  | 1 => rAppend y a.nm a.data
  | 2 => rSync y a.nm
  | 3 => rTrunc y a.nm a.n
  | 4 => rRename y a.nm a.ot
  | 5 => rRemove y a.nm
  | 6 => (⟨y.files, max a.n (-1), y.off⟩, 0)
  | _ => (rCrash y a.keep, 0)
theorem step_law {st : AS} {y : RY} (h : StY st y) (a : ActD) (hn : a.n ≤ 9223372036854775807) : Op2 (stepA st a) (stepY y a) := by
  unfold stepA stepY
  split
  · exact app_law h _ _
  · exact app_law h _ _
  · exact sync_law h _
  · exact trunc_law h _ _
  · exact rename_law h _ _
  · exact remove_law h _
  · exact ⟨rfl, fail_law h _ hn⟩
  · exact ⟨rfl, crash_law h _⟩
theorem inv_step {st : AS} {n : Nat} (h : InvF n st.files) (a : ActD) : InvF (n + 1) (stepA st a).1.files := by
  unfold stepA
  split
  · exact inv_app h _ _
  · exact inv_app h _ _
  · exact inv_sync h _
  · exact inv_trunc h _ _
  · exact inv_rename h _ _
  · exact inv_remove h _
  · exact h.more (Nat.le_succ _)
  · exact (inv_crash h _).more (Nat.le_succ _)
end Go.Proofs.Ythmbmecodddkeaa
