/- The walks of length.Clip, and of Fail of the file system; plain: a crash of a list of files. -/
import Derived.Test.YthmbmecodddkeaaNames
namespace Go.Proofs.Ythmbmecodddkeaa
open Go.RowKit Go.WideMaps
def clipI (x lo hi : Int) : Int := if x < lo then lo else if hi < x then hi else x
set_option maxRecDepth 100000 in
theorem clip_any (x lo hi : Int) (w : World) : Calls Try.prog 35 #[.int .i64 x, .int .i64 lo, .int .i64 hi] w (RetW w (.int .i64 (clipI x lo hi))) := by
  by_cases h1 : x < lo
  · have HD := Lib.hid (show clipI x lo hi = lo by unfold clipI; rw [if_pos h1])
    go_enter Try.func35, Try.ntmps35
    go_wp2_with fail
    go_ret
    rw [HD.out]
    exact ⟨rfl, rfl⟩
  · by_cases h2 : hi < x
    · have HD := Lib.hid (show clipI x lo hi = hi by unfold clipI; rw [if_neg h1, if_pos h2])
      go_enter Try.func35, Try.ntmps35
      go_wp2_with fail
      go_ret
      rw [HD.out]
      exact ⟨rfl, rfl⟩
    · have HD := Lib.hid (show clipI x lo hi = x by unfold clipI; rw [if_neg h1, if_neg h2])
      go_enter Try.func35, Try.ntmps35
      go_wp2_with fail
      go_ret
      rw [HD.out]
      exact ⟨rfl, rfl⟩
def failA (st : AS) (k : Int) : AS := ⟨st.files, st.off, decide (0 ≤ k), if 0 ≤ k then k else 0⟩
/-- An operation without a result that keeps the footprint. -/
def UEnd (w : World) (base : Nat) (F : Nat → Prop) (sb mb n : Nat) (st : AS) (e : Ending) (w' : World) : Prop :=
  e = .returned (.tuple #[]) ∧ SysM w' base F sb mb n st ∧ Kept F w w'
set_option maxRecDepth 100000 in
set_option maxHeartbeats 400000 in
theorem fail_any (base sb mb n : Nat) (F : Nat → Prop) (st : AS) (k : Int) (w : World) (hS : SysM w base F sb mb n st) (hk : k ≤ 9223372036854775807) :
    Calls Try.prog 28 #[.pointer (some ⟨sb, 0, none⟩), .int .i64 k] w (UEnd w base F sb mb n (failA st k)) := by
  obtain ⟨hblk, hFs, _⟩ := hS.cells
  have c2 := hblk.cell 2
  have c3 := hblk.cell 3
  have f2 := hblk.frozen 2
  have f3 := hblk.frozen 3
  simp only [sysC, List.getElem?_toArray, List.getElem?_cons_zero, List.getElem?_cons_succ] at c2 c3
  have HB := Lib.hid hblk
  have HS := Lib.hid hS
  clear hS hblk
  by_cases h0 : 0 ≤ k
  · have HD := Lib.hid (show failA st k = ⟨st.files, st.off, true, k⟩ by unfold failA; rw [if_pos h0]; simp [h0])
    have hd : decide (0 ≤ k) = true := by simpa using h0
    have hm : max k 0 = k := by omega
    go_enter Try.func28, Try.ntmps28
    go_wp2_with fail
    go_end0
    rw [HD.out]
    have hk2 := (kept_set w sb 2 (.bool true)).trans ((kept_set _ sb 3 (.int .i64 k)).mono fun i hi => .inl hi)
    refine ⟨rfl, HS.out.flags hk2 ?_ ⟨h0, hk⟩, hk2.mono fun i hi => by rw [hi]; exact hFs⟩
    have := (HB.out.set_ 2 (.bool true)).set_ 3 (.int .i64 k)
    simpa [sysC] using this
  · have HD := Lib.hid (show failA st k = ⟨st.files, st.off, false, 0⟩ by unfold failA; rw [if_neg h0]; simp [h0])
    have hd : decide (0 ≤ k) = false := by simpa using h0
    have hm : max k 0 = 0 := by omega
    go_enter Try.func28, Try.ntmps28
    go_wp2_with fail
    go_end0
    rw [HD.out]
    have hk2 := (kept_set w sb 2 (.bool false)).trans ((kept_set _ sb 3 (.int .i64 0)).mono fun i hi => .inl hi)
    refine ⟨rfl, HS.out.flags hk2 ?_ ⟨by decide, by decide⟩, hk2.mono fun i hi => by rw [hi]; exact hFs⟩
    have := (HB.out.set_ 2 (.bool false)).set_ 3 (.int .i64 0)
    simpa [sysC] using this
/-! ### plain: a crash -/
def cutF (f : AF) (k : Nat) : AF := ⟨f.name, f.data.take (f.sync + k), f.sync + k⟩
/-- One file: what it is after the crash, and what is left of the numbers. -/
def crash1 (f : AF) (ks : List Int) : AF × List Int :=
  if f.data.length - f.sync = 0 then (f, ks) else match ks with
    | [] => (cutF f 0, [])
    | k :: t => (cutF f (clipI k 0 ((f.data.length - f.sync : Nat) : Int)).toNat, t)
def crashL : List AF → List Int → List AF
  | [], _ => []
  | f :: t, ks => (crash1 f ks).1 :: crashL t (crash1 f ks).2
def restK : List AF → List Int → List Int
  | [], ks => ks
  | f :: t, ks => restK t (crash1 f ks).2
theorem crashL_append (a b : List AF) (ks : List Int) : crashL (a ++ b) ks = crashL a ks ++ crashL b (restK a ks) := by
  induction a generalizing ks with
  | nil => rfl
  | cons f t ih => simp only [List.cons_append, crashL, restK, ih]
theorem restK_append (a b : List AF) (ks : List Int) : restK (a ++ b) ks = restK b (restK a ks) := by
  induction a generalizing ks with
  | nil => rfl
  | cons f t ih => simp only [List.cons_append, restK, ih]
theorem crash1_name (f : AF) (ks : List Int) : (crash1 f ks).1.name = f.name := by
  unfold crash1
  split
  · rfl
  · split <;> rfl
theorem crashL_len (l : List AF) (ks : List Int) : (crashL l ks).length = l.length := by
  induction l generalizing ks with
  | nil => rfl
  | cons f t ih => simp [crashL, ih]
theorem crashL_names (l : List AF) (ks : List Int) : (crashL l ks).map AF.name = l.map AF.name := by
  induction l generalizing ks with
  | nil => rfl
  | cons f t ih => simp [crashL, ih, crash1_name]
end Go.Proofs.Ythmbmecodddkeaa
