/- The walk of regex.Parse. -/
import Derived.Test.YtpiagfmjekcncaaDoorjMs
set_option linter.unusedVariables false
set_option linter.unusedSimpArgs false
set_option linter.unusedSectionVars false
namespace Go.Proofs.YtpiagfmjekcncaaDoor
open Go.RowKit
/-- A string that is too large to be parsed. -/
def bigT (T : List UInt8) : Bool := decide (262144 < T.length) || decide (1024 < Lib.countByte T 40)
/-- What Parse answers: a tree; or an error's value. -/
def parseR (T : List UInt8) : Option Rx := if bigT T then none else match parseP T with
  | none => none
  | some r => if r.fits then some r else none
def parseE (T : List UInt8) : Value := if bigT T then largeE else match parseP T with
  | none => formE
  | some r => if r.fits then .nilIface else largeE
def zeroC : List Value := [.int .i64 0, .int .u64 0, .int .u64 0, .int .u64 0, .int .u64 0, .int .i64 0, .int .i64 0, .slice none 0 0]
def TreeOr (w w' : World) (r : Option Rx) (cs : List Value) : Prop := match r with
  | none => cs = zeroC
  | some r => RxV w' (rng w.heap.size w'.heap.size) r cs ∧ r.tame
theorem treeOr_form {w w' : World} {r : Option Rx} {cs : List Value} (h : TreeOr w w' r cs) : ∃ kd a0 a1 a2 a3 lo hi A n c, cs = [.int .i64 kd, .int .u64 a0, .int .u64 a1, .int .u64 a2, .int .u64 a3, .int .i64 lo, .int .i64 hi, .slice A n c] := by
  unfold TreeOr at h
  split at h
  · exact ⟨_, _, _, _, _, _, _, _, _, _, h⟩
  · rename_i r
    obtain ⟨kd, a, b, c, d, lo, hi, l⟩ := r
    obtain ⟨h, _⟩ := h
    unfold RxV at h
    obtain ⟨A, c, css, h, _⟩ := h
    exact ⟨_, _, _, _, _, _, _, _, _, _, h⟩
def ParseEnd (T : List UInt8) (w : World) (e : Ending) (w' : World) : Prop :=
  (∃ cs, e = .returned (.tuple #[.agg cs.toArray, parseE T]) ∧ TreeOr w w' (parseR T) cs) ∧ Below w.heap.size w w'
set_option maxHeartbeats 2000000
theorem parse_big (T : List UInt8) (w : World) (h : T.length ≤ 9223372036854775807) (hb : bigT T = true) : Calls Tryd.prog 5 #[.string ⟨T.toArray⟩] w (ParseEnd T w) := by
  have hsz : (ByteArray.mk T.toArray).size = T.length := by simp [ByteArray.size]
  have hmf : ∀ (fn : Fn) (first cap : Array Value) (w : World), (Instr.makeFunc fn first cap).run Tryd.prog w = .ok (.func fn first cap) w := fun _ _ _ _ => rfl
  have hc := Tryd.strings_Count_one ⟨T.toArray⟩ 40 ((w.alloc (.cells #[.int .i64 0, .int .u64 0, .int .u64 0, .int .u64 0, .int .u64 0, .int .i64 0, .int .i64 0, .slice none 0 0] 27)).alloc (.cells #[.nilIface] 29))
  have hPE : parseE T = largeE := by unfold parseE; rw [if_pos hb]
  have hPR : parseR T = none := by unfold parseR; rw [if_pos hb]
  have HPE := Lib.hid hPE
  have HPR := Lib.hid hPR
  unfold bigT at hb
  by_cases h1 : 262144 < T.length
  · have t1 : decide (262144 < (T.length : Int)) = true := by simp; omega
    clear hb hPE hPR hc
    go_enter_defers Tryd.func5, Tryd.ntmps5
    go_wp2_with fail
    simp [bodyPostD, Leaves, results, Tryd.results5, go_sem]
    exact ⟨⟨zeroC, by rw [HPE.out]; rfl, by rw [HPR.out]; rfl⟩, ((Below.refl _ _).alloc (Nat.le_refl _) _).alloc (by simp) _⟩
  · have t1 : decide (262144 < (T.length : Int)) = false := by simp; omega
    rw [decide_eq_false h1, Bool.false_or] at hb
    have h2 := of_decide_eq_true hb
    generalize hcc : Lib.countByte T 40 = cc at *
    have hc2 : Calls Tryd.prog 16 #[.string ⟨T.toArray⟩, .string ⟨#[40]⟩] ((w.alloc (.cells #[.int .i64 0, .int .u64 0, .int .u64 0, .int .u64 0, .int .u64 0, .int .i64 0, .int .i64 0, .slice none 0 0] 27)).alloc (.cells #[.nilIface] 29)) fun e w' => e = .returned (.int .i64 cc) ∧ ((w.alloc (.cells #[.int .i64 0, .int .u64 0, .int .u64 0, .int .u64 0, .int .u64 0, .int .i64 0, .int .i64 0, .slice none 0 0] 27)).alloc (.cells #[.nilIface] 29)) = w' := by
      rw [← hcc]
      refine hc.mono ?_
      rintro e w' ⟨rfl, rfl⟩
      exact ⟨by simp [hcc], rfl⟩
    have HC := Lib.hid hc2
    have t2 : decide (1024 < (cc : Int)) = true := by simp; omega
    clear hb hPE hPR hc hc2 hcc
    go_enter_defers Tryd.func5, Tryd.ntmps5
    go_wp2_with fail
    refine HC.out.mono ?_
    rintro e w' ⟨rfl, rfl⟩
    go_wp2_with fail
    simp [bodyPostD, Leaves, results, Tryd.results5, go_sem]
    exact ⟨⟨zeroC, by rw [HPE.out]; rfl, by rw [HPR.out]; rfl⟩, ((Below.refl _ _).alloc (Nat.le_refl _) _).alloc (by simp) _⟩
/-- Nine stores. -/
def set9 (w : World) (g h : Nat) (u0 u1 u2 u3 u4 u5 u6 u7 er : Value) : World := (set8 w g u0 u1 u2 u3 u4 u5 u6 u7).setCell ⟨h, 0, none⟩ er
theorem set9_R {w : World} {g h : Nat} {v0 v1 v2 v3 v4 v5 v6 v7 : Value} (hR : R8 w g v0 v1 v2 v3 v4 v5 v6 v7) (hgh : g ≠ h) (u0 u1 u2 u3 u4 u5 u6 u7 er : Value) : R8 (set9 w g h u0 u1 u2 u3 u4 u5 u6 u7 er) g u0 u1 u2 u3 u4 u5 u6 u7 := Blk.far (p := ⟨h, 0, none⟩) (hR.all u0 u1 u2 u3 u4 u5 u6 u7) hgh er
theorem set9_E {w : World} {g h : Nat} {e0 : Value} (hE : Blk w h 29 #[e0]) (hgh : h ≠ g) (u0 u1 u2 u3 u4 u5 u6 u7 er : Value) : Blk (set9 w g h u0 u1 u2 u3 u4 u5 u6 u7 er) h 29 #[er] := Blk.set_ (Blk.set8 hE hgh u0 u1 u2 u3 u4 u5 u6 u7) 0 er
theorem kept_set9 {F : Nat → Prop} {w w' : World} {g h : Nat} (k : Kept F w w') (hg : F g ∨ w.heap.size ≤ g) (hh : F h ∨ w.heap.size ≤ h) (u0 u1 u2 u3 u4 u5 u6 u7 er : Value) : Kept F w (set9 w' g h u0 u1 u2 u3 u4 u5 u6 u7 er) := (kept_set8 k hg u0 u1 u2 u3 u4 u5 u6 u7).setCell (p := ⟨h, 0, none⟩) hh er
theorem below_set9 {B : Nat} {w w' : World} {g h : Nat} (k : Below B w w') (hg : B ≤ g) (hh : B ≤ h) (u0 u1 u2 u3 u4 u5 u6 u7 er : Value) : Below B w (set9 w' g h u0 u1 u2 u3 u4 u5 u6 u7 er) := (below_set8 k hg u0 u1 u2 u3 u4 u5 u6 u7).setCell hh er
theorem parse_fail (T : List UInt8) (w : World) (hb : bigT T = false) (hx : exprN T (T.length + 1) 0 = none) : Calls Tryd.prog 5 #[.string ⟨T.toArray⟩] w (ParseEnd T w) := by
  have hP : parseP T = none := by unfold parseP; rw [hx]
  have hPE : parseE T = formE := by unfold parseE; rw [if_neg (by rw [hb]; decide), hP]
  have hPR : parseR T = none := by unfold parseR; rw [if_neg (by rw [hb]; decide), hP]
  have HPE := Lib.hid hPE
  have HPR := Lib.hid hPR
  have hsz : (ByteArray.mk T.toArray).size = T.length := by simp [ByteArray.size]
  have hmf : ∀ (fn : Fn) (first cap : Array Value) (w : World), (Instr.makeFunc fn first cap).run Tryd.prog w = .ok (.func fn first cap) w := fun _ _ _ _ => rfl
  have hc := Tryd.strings_Count_one ⟨T.toArray⟩ 40 ((w.alloc (.cells #[.int .i64 0, .int .u64 0, .int .u64 0, .int .u64 0, .int .u64 0, .int .i64 0, .int .i64 0, .slice none 0 0] 27)).alloc (.cells #[.nilIface] 29))
  unfold bigT at hb
  rw [Bool.or_eq_false_iff] at hb
  have h1 := of_decide_eq_false hb.1
  have h2 := of_decide_eq_false hb.2
  have t1 : decide (262144 < (T.length : Int)) = false := by simp; omega
  generalize hcc : Lib.countByte T 40 = cc at *
  have hc2 : Calls Tryd.prog 16 #[.string ⟨T.toArray⟩, .string ⟨#[40]⟩] ((w.alloc (.cells #[.int .i64 0, .int .u64 0, .int .u64 0, .int .u64 0, .int .u64 0, .int .i64 0, .int .i64 0, .slice none 0 0] 27)).alloc (.cells #[.nilIface] 29)) fun e w' => e = .returned (.int .i64 cc) ∧ ((w.alloc (.cells #[.int .i64 0, .int .u64 0, .int .u64 0, .int .u64 0, .int .u64 0, .int .i64 0, .int .i64 0, .slice none 0 0] 27)).alloc (.cells #[.nilIface] 29)) = w' := by
    rw [← hcc]
    refine hc.mono ?_
    rintro e w' ⟨rfl, rfl⟩
    exact ⟨by simp [hcc], rfl⟩
  have HC := Lib.hid hc2
  have t2 : decide (1024 < (cc : Int)) = false := by simp; omega
  obtain ⟨w3, hw3⟩ : ∃ w3, w3 = ((w.alloc (.cells #[.int .i64 0, .int .u64 0, .int .u64 0, .int .u64 0, .int .u64 0, .int .i64 0, .int .i64 0, .slice none 0 0] 27)).alloc (.cells #[.nilIface] 29)).alloc (.cells #[.string ⟨T.toArray⟩, .int .i64 0] 50) := ⟨_, rfl⟩
  have hR3 : R8 w3 w.heap.size (.int .i64 0) (.int .u64 0) (.int .u64 0) (.int .u64 0) (.int .u64 0) (.int .i64 0) (.int .i64 0) (.slice none 0 0) := by rw [hw3]; exact ((R8.mk0 w w.heap.size rfl).alloc _).alloc _
  have hE3 : Blk w3 (w.heap.size + 1) 29 #[.nilIface] := by
    rw [hw3]
    have := Blk.new (w.alloc (.cells #[.int .i64 0, .int .u64 0, .int .u64 0, .int .u64 0, .int .u64 0, .int .i64 0, .int .i64 0, .slice none 0 0] 27)) 29 #[.nilIface]
    exact Blk.alloc (by simpa using this) _
  have hp3 : PS T w3 (w.heap.size + 1 + 1) 0 := by
    refine ⟨?_, Nat.zero_le _, by omega⟩
    rw [hw3]
    have := Blk.new ((w.alloc (.cells #[.int .i64 0, .int .u64 0, .int .u64 0, .int .u64 0, .int .u64 0, .int .i64 0, .int .i64 0, .slice none 0 0] 27)).alloc (.cells #[.nilIface] 29)) 50 #[.string ⟨T.toArray⟩, .int .i64 0]
    simpa using this
  have hb3 : Below w.heap.size w w3 := by rw [hw3]; exact (((Below.refl _ _).alloc (Nat.le_refl _) _).alloc (by simp) _).alloc (by simp; omega) _
  have hs3 : w3.heap.size = w.heap.size + 1 + 1 + 1 := by rw [hw3]; simp
  have HX := Lib.hid (expr_any (T.length + 1) 0 w3 hp3 (by omega))
  have HR3 := Lib.hid hR3
  have HE3 := Lib.hid hE3
  have HB3 := Lib.hid hb3
  have HW3 := Lib.hid hw3
  clear hb hc hc2 hcc hw3 hR3 hE3 hp3 hb3 h2
  rw [hx] at HX
  clear hP hPE hPR hx
  go_enter_defers Tryd.func5, Tryd.ntmps5
  go_wp2_with fail
  refine HC.out.mono ?_
  rintro e w' ⟨rfl, rfl⟩
  go_wp2_with fail
  rw [← HW3.out]
  refine HX.out.mono ?_
  rintro e w4 ⟨rfl, hp4, hk4⟩
  have hR4 := HR3.out.kept hk4 (fun e => by have e' : w.heap.size = w.heap.size + 1 + 1 := e; omega)
  have hE4 := HE3.out.kept hk4 (fun e => by have e' : w.heap.size + 1 = w.heap.size + 1 + 1 := e; omega)
  have hB4 := hk4.below HB3.out (by omega) (fun i e => by have e' : i = w.heap.size + 1 + 1 := e; omega)
  go_wp2_with fail
  refine leaves_cons (f := 17) (args := #[.pointer (some ⟨w.heap.size, 0, none⟩), .pointer (some ⟨w.heap.size + 1, 0, none⟩)]) (by simp) (by simp [go_sem]) ?_
  refine (catch_panicking w.heap.size (w.heap.size + 1) _ _ _ _ _ _ _ _ _ _ _ [] _ hR4 hE4).mono ?_
  rintro e u' w'' ⟨rfl, rfl, rfl⟩
  obtain ⟨⟨⟨d0, d1⟩, d2, d3⟩, ⟨d4, d5⟩, d6, d7⟩ := (set9_R hR4 (h := w.heap.size + 1) (by omega) (.int .i64 0) (.int .u64 0) (.int .u64 0) (.int .u64 0) (.int .u64 0) (.int .i64 0) (.int .i64 0) (.slice none 0 0) formE).cells
  have d8 := (set9_E hE4 (g := w.heap.size) (by omega) (.int .i64 0) (.int .u64 0) (.int .u64 0) (.int .u64 0) (.int .u64 0) (.int .i64 0) (.int .i64 0) (.slice none 0 0) formE).cell 0
  simp only [List.getElem?_toArray, List.getElem?_cons_zero] at d8
  have HF := Lib.hid (below_set9 hB4 (g := w.heap.size) (h := w.heap.size + 1) (Nat.le_refl _) (by omega) (.int .i64 0) (.int .u64 0) (.int .u64 0) (.int .u64 0) (.int .u64 0) (.int .i64 0) (.int .i64 0) (.slice none 0 0) formE)
  unfold set9 set8 at d0 d1 d2 d3 d4 d5 d6 d7 d8
  simp [Leaves, settle, results, Tryd.results5, go_sem, set8, d0, d1, d2, d3, d4, d5, d6, d7, d8]
  exact ⟨⟨zeroC, by rw [HPE.out]; rfl, by rw [HPR.out]; rfl⟩, HF.out⟩
theorem parse_tail (T : List UInt8) (w : World) (r : Rx) (k : Nat) (hb : bigT T = false) (hx : exprN T (T.length + 1) 0 = some (r, k)) (hk : k ≠ T.length) : Calls Tryd.prog 5 #[.string ⟨T.toArray⟩] w (ParseEnd T w) := by
  have hP : parseP T = none := by unfold parseP; rw [hx]; exact if_neg hk
  have hPE : parseE T = formE := by unfold parseE; rw [if_neg (by rw [hb]; decide), hP]
  have hPR : parseR T = none := by unfold parseR; rw [if_neg (by rw [hb]; decide), hP]
  have HPE := Lib.hid hPE
  have HPR := Lib.hid hPR
  have hkl := exprN_pos _ _ _ _ (Nat.zero_le _) hx
  have hsz : (ByteArray.mk T.toArray).size = T.length := by simp [ByteArray.size]
  have hmf : ∀ (fn : Fn) (first cap : Array Value) (w : World), (Instr.makeFunc fn first cap).run Tryd.prog w = .ok (.func fn first cap) w := fun _ _ _ _ => rfl
  have hc := Tryd.strings_Count_one ⟨T.toArray⟩ 40 ((w.alloc (.cells #[.int .i64 0, .int .u64 0, .int .u64 0, .int .u64 0, .int .u64 0, .int .i64 0, .int .i64 0, .slice none 0 0] 27)).alloc (.cells #[.nilIface] 29))
  unfold bigT at hb
  rw [Bool.or_eq_false_iff] at hb
  have h1 := of_decide_eq_false hb.1
  have h2 := of_decide_eq_false hb.2
  have t1 : decide (262144 < (T.length : Int)) = false := by simp; omega
  generalize hcc : Lib.countByte T 40 = cc at *
  have hc2 : Calls Tryd.prog 16 #[.string ⟨T.toArray⟩, .string ⟨#[40]⟩] ((w.alloc (.cells #[.int .i64 0, .int .u64 0, .int .u64 0, .int .u64 0, .int .u64 0, .int .i64 0, .int .i64 0, .slice none 0 0] 27)).alloc (.cells #[.nilIface] 29)) fun e w' => e = .returned (.int .i64 cc) ∧ ((w.alloc (.cells #[.int .i64 0, .int .u64 0, .int .u64 0, .int .u64 0, .int .u64 0, .int .i64 0, .int .i64 0, .slice none 0 0] 27)).alloc (.cells #[.nilIface] 29)) = w' := by
    rw [← hcc]
    refine hc.mono ?_
    rintro e w' ⟨rfl, rfl⟩
    exact ⟨by simp [hcc], rfl⟩
  have HC := Lib.hid hc2
  have t2 : decide (1024 < (cc : Int)) = false := by simp; omega
  obtain ⟨w3, hw3⟩ : ∃ w3, w3 = ((w.alloc (.cells #[.int .i64 0, .int .u64 0, .int .u64 0, .int .u64 0, .int .u64 0, .int .i64 0, .int .i64 0, .slice none 0 0] 27)).alloc (.cells #[.nilIface] 29)).alloc (.cells #[.string ⟨T.toArray⟩, .int .i64 0] 50) := ⟨_, rfl⟩
  have hR3 : R8 w3 w.heap.size (.int .i64 0) (.int .u64 0) (.int .u64 0) (.int .u64 0) (.int .u64 0) (.int .i64 0) (.int .i64 0) (.slice none 0 0) := by rw [hw3]; exact ((R8.mk0 w w.heap.size rfl).alloc _).alloc _
  have hE3 : Blk w3 (w.heap.size + 1) 29 #[.nilIface] := by
    rw [hw3]
    have := Blk.new (w.alloc (.cells #[.int .i64 0, .int .u64 0, .int .u64 0, .int .u64 0, .int .u64 0, .int .i64 0, .int .i64 0, .slice none 0 0] 27)) 29 #[.nilIface]
    exact Blk.alloc (by simpa using this) _
  have hp3 : PS T w3 (w.heap.size + 1 + 1) 0 := by
    refine ⟨?_, Nat.zero_le _, by omega⟩
    rw [hw3]
    have := Blk.new ((w.alloc (.cells #[.int .i64 0, .int .u64 0, .int .u64 0, .int .u64 0, .int .u64 0, .int .i64 0, .int .i64 0, .slice none 0 0] 27)).alloc (.cells #[.nilIface] 29)) 50 #[.string ⟨T.toArray⟩, .int .i64 0]
    simpa using this
  have hb3 : Below w.heap.size w w3 := by rw [hw3]; exact (((Below.refl _ _).alloc (Nat.le_refl _) _).alloc (by simp) _).alloc (by simp; omega) _
  have hs3 : w3.heap.size = w.heap.size + 1 + 1 + 1 := by rw [hw3]; simp
  have HX := Lib.hid (expr_any (T.length + 1) 0 w3 hp3 (by omega))
  have HR3 := Lib.hid hR3
  have HE3 := Lib.hid hE3
  have HB3 := Lib.hid hb3
  have HW3 := Lib.hid hw3
  clear hb hc hc2 hcc hw3 hR3 hE3 hp3 hb3 h2
  rw [hx] at HX
  have t3 : decide ((k : Int) < (T.length : Int)) = true := by simp; omega
  have t3' : decide (k < T.length) = true := by simp; omega
  clear hP hPE hPR hx
  go_enter_defers Tryd.func5, Tryd.ntmps5
  go_wp2_with fail
  refine HC.out.mono ?_
  rintro e w' ⟨rfl, rfl⟩
  go_wp2_with fail
  rw [← HW3.out]
  refine HX.out.mono ?_
  rintro e w4 ⟨cs, rfl, hv, hp4, hk4⟩
  obtain ⟨kd, a0, a1, a2, a3, lo, hi, A, n, c, rfl⟩ := hv.eight
  have hR4 := HR3.out.kept hk4 (fun e => by have e' : w.heap.size = w.heap.size + 1 + 1 := e; omega)
  have hE4 := HE3.out.kept hk4 (fun e => by have e' : w.heap.size + 1 = w.heap.size + 1 + 1 := e; omega)
  have hB4 := hk4.below HB3.out (by omega) (fun i e => by have e' : i = w.heap.size + 1 + 1 := e; omega)
  have hs4 : w3.heap.size ≤ w4.heap.size := hk4.size
  obtain ⟨⟨⟨c0, c1⟩, c2, c3⟩, ⟨c4, c5⟩, c6, c7⟩ := hR4.cells
  obtain ⟨⟨⟨f0, f1⟩, f2, f3⟩, ⟨f4, f5⟩, f6, f7⟩ := hR4.free
  have hp5 := hp4.far8 (X := w.heap.size) (by omega) (.int .i64 kd) (.int .u64 a0) (.int .u64 a1) (.int .u64 a2) (.int .u64 a3) (.int .i64 lo) (.int .i64 hi) (.slice A n c)
  have hR5 := hR4.all (.int .i64 kd) (.int .u64 a0) (.int .u64 a1) (.int .u64 a2) (.int .u64 a3) (.int .i64 lo) (.int .i64 hi) (.slice A n c)
  have hE5 := Blk.set8 (g := w.heap.size) hE4 (by omega) (.int .i64 kd) (.int .u64 a0) (.int .u64 a1) (.int .u64 a2) (.int .u64 a3) (.int .i64 lo) (.int .i64 hi) (.slice A n c)
  have hB5 := below_set8 hB4 (Nat.le_refl w.heap.size) (.int .i64 kd) (.int .u64 a0) (.int .u64 a1) (.int .u64 a2) (.int .u64 a3) (.int .i64 lo) (.int .i64 hi) (.slice A n c)
  have hK5 := kept_set8 (Kept.refl (fun i => i = w.heap.size) w4) (g := w.heap.size) (.inl rfl) (.int .i64 kd) (.int .u64 a0) (.int .u64 a1) (.int .u64 a2) (.int .u64 a3) (.int .i64 lo) (.int .i64 hi) (.slice A n c)
  have hv5 : RxV (set8 w4 w.heap.size (.int .i64 kd) (.int .u64 a0) (.int .u64 a1) (.int .u64 a2) (.int .u64 a3) (.int .i64 lo) (.int .i64 hi) (.slice A n c)) (fun i => w3.heap.size ≤ i ∧ i < w4.heap.size) r [.int .i64 kd, .int .u64 a0, .int .u64 a1, .int .u64 a2, .int .u64 a3, .int .i64 lo, .int .i64 hi, .slice A n c] := hv.kept hK5 (fun i hh _ e => by have hh1 := hh.1; have e' : i = w.heap.size := e; omega) (fun i hh _ => hh)
  obtain ⟨g0, g1, g2⟩ := hp5.cells
  have hs5 : w4.heap.size ≤ (set8 w4 w.heap.size (.int .i64 kd) (.int .u64 a0) (.int .u64 a1) (.int .u64 a2) (.int .u64 a3) (.int .i64 lo) (.int .i64 hi) (.slice A n c)).heap.size := hK5.size
  clear hp4 hk4 hv
  have HV := Lib.hid hv5
  unfold set8 at g0 g1 g2
  have HR5 := Lib.hid hR5
  have HE5 := Lib.hid hE5
  have HB5 := Lib.hid hB5
  clear hp5 hR5 hE5 hB5 hK5 hv5 hR4 hE4
  go_wp2_with fail
  refine leaves_cons (f := 17) (args := #[.pointer (some ⟨w.heap.size, 0, none⟩), .pointer (some ⟨w.heap.size + 1, 0, none⟩)]) (by simp) (by simp [go_sem]) ?_
  refine (catch_panicking w.heap.size (w.heap.size + 1) _ _ _ _ _ _ _ _ _ _ _ [] _ HR5.out HE5.out).mono ?_
  rintro e u' w'' ⟨rfl, rfl, rfl⟩
  obtain ⟨⟨⟨d0, d1⟩, d2, d3⟩, ⟨d4, d5⟩, d6, d7⟩ := (set9_R HR5.out (h := w.heap.size + 1) (by omega) (.int .i64 0) (.int .u64 0) (.int .u64 0) (.int .u64 0) (.int .u64 0) (.int .i64 0) (.int .i64 0) (.slice none 0 0) formE).cells
  have d8 := (set9_E HE5.out (g := w.heap.size) (by omega) (.int .i64 0) (.int .u64 0) (.int .u64 0) (.int .u64 0) (.int .u64 0) (.int .i64 0) (.int .i64 0) (.slice none 0 0) formE).cell 0
  simp only [List.getElem?_toArray, List.getElem?_cons_zero] at d8
  have HF := Lib.hid (below_set9 HB5.out (g := w.heap.size) (h := w.heap.size + 1) (Nat.le_refl _) (by omega) (.int .i64 0) (.int .u64 0) (.int .u64 0) (.int .u64 0) (.int .u64 0) (.int .i64 0) (.int .i64 0) (.slice none 0 0) formE)
  unfold set9 set8 at d0 d1 d2 d3 d4 d5 d6 d7 d8
  simp [Leaves, settle, results, Tryd.results5, go_sem, set8, d0, d1, d2, d3, d4, d5, d6, d7, d8]
  exact ⟨⟨zeroC, by rw [HPE.out]; rfl, by rw [HPR.out]; rfl⟩, HF.out⟩
theorem parse_fits (T : List UInt8) (w : World) (r : Rx) (hb : bigT T = false) (hx : exprN T (T.length + 1) 0 = some (r, T.length)) (hf : r.fits = true) : Calls Tryd.prog 5 #[.string ⟨T.toArray⟩] w (ParseEnd T w) := by
  have hP : parseP T = some r := by unfold parseP; rw [hx]; exact if_pos rfl
  have hPE : parseE T = .nilIface := by unfold parseE; rw [if_neg (by rw [hb]; decide), hP]; simp only; rw [hf]; rfl
  have hPR : parseR T = some r := by unfold parseR; rw [if_neg (by rw [hb]; decide), hP]; simp only; rw [hf]; rfl
  have HPE := Lib.hid hPE
  have HPR := Lib.hid hPR
  have htm := Lib.hid (exprN_tame _ _ _ _ (Nat.zero_le _) hx)
  have HMS := Lib.hid (show msV r = .tuple #[.int .i64 r.pos, .nilIface] by unfold msV; rw [hf]; rfl)
  have hsz : (ByteArray.mk T.toArray).size = T.length := by simp [ByteArray.size]
  have hmf : ∀ (fn : Fn) (first cap : Array Value) (w : World), (Instr.makeFunc fn first cap).run Tryd.prog w = .ok (.func fn first cap) w := fun _ _ _ _ => rfl
  have hc := Tryd.strings_Count_one ⟨T.toArray⟩ 40 ((w.alloc (.cells #[.int .i64 0, .int .u64 0, .int .u64 0, .int .u64 0, .int .u64 0, .int .i64 0, .int .i64 0, .slice none 0 0] 27)).alloc (.cells #[.nilIface] 29))
  unfold bigT at hb
  rw [Bool.or_eq_false_iff] at hb
  have h1 := of_decide_eq_false hb.1
  have h2 := of_decide_eq_false hb.2
  have t1 : decide (262144 < (T.length : Int)) = false := by simp; omega
  generalize hcc : Lib.countByte T 40 = cc at *
  have hc2 : Calls Tryd.prog 16 #[.string ⟨T.toArray⟩, .string ⟨#[40]⟩] ((w.alloc (.cells #[.int .i64 0, .int .u64 0, .int .u64 0, .int .u64 0, .int .u64 0, .int .i64 0, .int .i64 0, .slice none 0 0] 27)).alloc (.cells #[.nilIface] 29)) fun e w' => e = .returned (.int .i64 cc) ∧ ((w.alloc (.cells #[.int .i64 0, .int .u64 0, .int .u64 0, .int .u64 0, .int .u64 0, .int .i64 0, .int .i64 0, .slice none 0 0] 27)).alloc (.cells #[.nilIface] 29)) = w' := by
    rw [← hcc]
    refine hc.mono ?_
    rintro e w' ⟨rfl, rfl⟩
    exact ⟨by simp [hcc], rfl⟩
  have HC := Lib.hid hc2
  have t2 : decide (1024 < (cc : Int)) = false := by simp; omega
  obtain ⟨w3, hw3⟩ : ∃ w3, w3 = ((w.alloc (.cells #[.int .i64 0, .int .u64 0, .int .u64 0, .int .u64 0, .int .u64 0, .int .i64 0, .int .i64 0, .slice none 0 0] 27)).alloc (.cells #[.nilIface] 29)).alloc (.cells #[.string ⟨T.toArray⟩, .int .i64 0] 50) := ⟨_, rfl⟩
  have hR3 : R8 w3 w.heap.size (.int .i64 0) (.int .u64 0) (.int .u64 0) (.int .u64 0) (.int .u64 0) (.int .i64 0) (.int .i64 0) (.slice none 0 0) := by rw [hw3]; exact ((R8.mk0 w w.heap.size rfl).alloc _).alloc _
  have hE3 : Blk w3 (w.heap.size + 1) 29 #[.nilIface] := by
    rw [hw3]
    have := Blk.new (w.alloc (.cells #[.int .i64 0, .int .u64 0, .int .u64 0, .int .u64 0, .int .u64 0, .int .i64 0, .int .i64 0, .slice none 0 0] 27)) 29 #[.nilIface]
    exact Blk.alloc (by simpa using this) _
  have hp3 : PS T w3 (w.heap.size + 1 + 1) 0 := by
    refine ⟨?_, Nat.zero_le _, by omega⟩
    rw [hw3]
    have := Blk.new ((w.alloc (.cells #[.int .i64 0, .int .u64 0, .int .u64 0, .int .u64 0, .int .u64 0, .int .i64 0, .int .i64 0, .slice none 0 0] 27)).alloc (.cells #[.nilIface] 29)) 50 #[.string ⟨T.toArray⟩, .int .i64 0]
    simpa using this
  have hb3 : Below w.heap.size w w3 := by rw [hw3]; exact (((Below.refl _ _).alloc (Nat.le_refl _) _).alloc (by simp) _).alloc (by simp; omega) _
  have hs3 : w3.heap.size = w.heap.size + 1 + 1 + 1 := by rw [hw3]; simp
  have HX := Lib.hid (expr_any (T.length + 1) 0 w3 hp3 (by omega))
  have HR3 := Lib.hid hR3
  have HE3 := Lib.hid hE3
  have HB3 := Lib.hid hb3
  have HW3 := Lib.hid hw3
  clear hb hc hc2 hcc hw3 hR3 hE3 hp3 hb3 h2
  rw [hx] at HX
  have t3 : decide ((T.length : Int) < (T.length : Int)) = false := by simp
  have t3' : decide (T.length < T.length) = false := by simp
  clear hP hPE hPR hx hf
  go_enter_defers Tryd.func5, Tryd.ntmps5
  go_wp2_with fail
  refine HC.out.mono ?_
  rintro e w' ⟨rfl, rfl⟩
  go_wp2_with fail
  rw [← HW3.out]
  refine HX.out.mono ?_
  rintro e w4 ⟨cs, rfl, hv, hp4, hk4⟩
  obtain ⟨kd, a0, a1, a2, a3, lo, hi, A, n, c, rfl⟩ := hv.eight
  have hR4 := HR3.out.kept hk4 (fun e => by have e' : w.heap.size = w.heap.size + 1 + 1 := e; omega)
  have hE4 := HE3.out.kept hk4 (fun e => by have e' : w.heap.size + 1 = w.heap.size + 1 + 1 := e; omega)
  have hB4 := hk4.below HB3.out (by omega) (fun i e => by have e' : i = w.heap.size + 1 + 1 := e; omega)
  have hs4 : w3.heap.size ≤ w4.heap.size := hk4.size
  obtain ⟨⟨⟨c0, c1⟩, c2, c3⟩, ⟨c4, c5⟩, c6, c7⟩ := hR4.cells
  obtain ⟨⟨⟨f0, f1⟩, f2, f3⟩, ⟨f4, f5⟩, f6, f7⟩ := hR4.free
  have hp5 := hp4.far8 (X := w.heap.size) (by omega) (.int .i64 kd) (.int .u64 a0) (.int .u64 a1) (.int .u64 a2) (.int .u64 a3) (.int .i64 lo) (.int .i64 hi) (.slice A n c)
  have hR5 := hR4.all (.int .i64 kd) (.int .u64 a0) (.int .u64 a1) (.int .u64 a2) (.int .u64 a3) (.int .i64 lo) (.int .i64 hi) (.slice A n c)
  have hE5 := Blk.set8 (g := w.heap.size) hE4 (by omega) (.int .i64 kd) (.int .u64 a0) (.int .u64 a1) (.int .u64 a2) (.int .u64 a3) (.int .i64 lo) (.int .i64 hi) (.slice A n c)
  have hB5 := below_set8 hB4 (Nat.le_refl w.heap.size) (.int .i64 kd) (.int .u64 a0) (.int .u64 a1) (.int .u64 a2) (.int .u64 a3) (.int .i64 lo) (.int .i64 hi) (.slice A n c)
  have hK5 := kept_set8 (Kept.refl (fun i => i = w.heap.size) w4) (g := w.heap.size) (.inl rfl) (.int .i64 kd) (.int .u64 a0) (.int .u64 a1) (.int .u64 a2) (.int .u64 a3) (.int .i64 lo) (.int .i64 hi) (.slice A n c)
  have hv5 : RxV (set8 w4 w.heap.size (.int .i64 kd) (.int .u64 a0) (.int .u64 a1) (.int .u64 a2) (.int .u64 a3) (.int .i64 lo) (.int .i64 hi) (.slice A n c)) (fun i => w3.heap.size ≤ i ∧ i < w4.heap.size) r [.int .i64 kd, .int .u64 a0, .int .u64 a1, .int .u64 a2, .int .u64 a3, .int .i64 lo, .int .i64 hi, .slice A n c] := hv.kept hK5 (fun i hh _ e => by have hh1 := hh.1; have e' : i = w.heap.size := e; omega) (fun i hh _ => hh)
  obtain ⟨g0, g1, g2⟩ := hp5.cells
  have hs5 : w4.heap.size ≤ (set8 w4 w.heap.size (.int .i64 kd) (.int .u64 a0) (.int .u64 a1) (.int .u64 a2) (.int .u64 a3) (.int .i64 lo) (.int .i64 hi) (.slice A n c)).heap.size := hK5.size
  clear hp4 hk4 hv
  have hA5 : At8 (set8 w4 w.heap.size (.int .i64 kd) (.int .u64 a0) (.int .u64 a1) (.int .u64 a2) (.int .u64 a3) (.int .i64 lo) (.int .i64 hi) (.slice A n c)) w.heap.size 0 [.int .i64 kd, .int .u64 a0, .int .u64 a1, .int .u64 a2, .int .u64 a3, .int .i64 lo, .int .i64 hi, .slice A n c] := ⟨hR5.lt, fun j u hu => by rw [Nat.zero_add, Blk.cell hR5]; simpa using hu⟩
  have hms := measure_any w.heap.size 0 r [.int .i64 kd, .int .u64 a0, .int .u64 a1, .int .u64 a2, .int .u64 a3, .int .i64 lo, .int .i64 hi, .slice A n c] (set8 w4 w.heap.size (.int .i64 kd) (.int .u64 a0) (.int .u64 a1) (.int .u64 a2) (.int .u64 a3) (.int .i64 lo) (.int .i64 hi) (.slice A n c)) _ hv5 (fun i hh => by have hh1 := hh.2; omega) hA5 htm.out
  rw [HMS.out] at hms
  have HM := Lib.hid hms
  unfold set8 at g0 g1 g2
  have HV := Lib.hid hv5
  have HR5 := Lib.hid hR5
  have HE5 := Lib.hid hE5
  have HB5 := Lib.hid hB5
  clear hp5 hR5 hE5 hB5 hK5 hv5 hR4 hE4 hA5 hms
  go_wp2_with fail
  refine HM.out.mono ?_
  rintro e w6 ⟨rfl, hb6⟩
  have hR6 := HR5.out.below hb6 HR5.out.lt
  have hE6 := Blk.below HE5.out hb6 (Blk.lt HE5.out)
  have hB6 := HB5.out.trans (hb6.mono (by omega))
  have hv6 := HV.out.below hb6
  have hs6 : w4.heap.size ≤ w6.heap.size := Nat.le_trans hs5 hb6.size
  clear c0 c1 c2 c3 c4 c5 c6 c7 f0 f1 f2 f3 f4 f5 f6 f7 g0 g1 g2
  obtain ⟨⟨⟨c0, c1⟩, c2, c3⟩, ⟨c4, c5⟩, c6, c7⟩ := hR6.cells
  obtain ⟨⟨⟨f0, f1⟩, f2, f3⟩, ⟨f4, f5⟩, f6, f7⟩ := hR6.free
  have e0 := hE6.cell 0
  have e1 := hE6.frozen 0
  simp only [List.getElem?_toArray, List.getElem?_cons_zero] at e0
  have HZ := Lib.hid (set9_R hR6 (h := w.heap.size + 1) (by omega) (.int .i64 kd) (.int .u64 a0) (.int .u64 a1) (.int .u64 a2) (.int .u64 a3) (.int .i64 lo) (.int .i64 hi) (.slice A n c) .nilIface)
  have HZE := Lib.hid (set9_E hE6 (g := w.heap.size) (by omega) (.int .i64 kd) (.int .u64 a0) (.int .u64 a1) (.int .u64 a2) (.int .u64 a3) (.int .i64 lo) (.int .i64 hi) (.slice A n c) .nilIface)
  have HF := Lib.hid (below_set9 hB6 (g := w.heap.size) (h := w.heap.size + 1) (Nat.le_refl _) (by omega) (.int .i64 kd) (.int .u64 a0) (.int .u64 a1) (.int .u64 a2) (.int .u64 a3) (.int .i64 lo) (.int .i64 hi) (.slice A n c) .nilIface)
  have HK9 := Lib.hid (kept_set9 (F := fun i => i = w.heap.size ∨ i = w.heap.size + 1) (Kept.refl _ w6) (g := w.heap.size) (h := w.heap.size + 1) (.inl (.inl rfl)) (.inl (.inr rfl)) (.int .i64 kd) (.int .u64 a0) (.int .u64 a1) (.int .u64 a2) (.int .u64 a3) (.int .i64 lo) (.int .i64 hi) (.slice A n c) .nilIface)
  have HV6 := Lib.hid hv6
  clear hR6 hE6 hB6 hv6 hb6
  go_wp2_with fail
  refine leaves_cons (f := 17) (args := #[.pointer (some ⟨w.heap.size, 0, none⟩), .pointer (some ⟨w.heap.size + 1, 0, none⟩)]) (by simp) (by simp [go_sem]) ?_
  refine (catch_idle _ _ _).mono ?_
  rintro e u' w'' ⟨rfl, rfl, rfl⟩
  obtain ⟨⟨⟨d0, d1⟩, d2, d3⟩, ⟨d4, d5⟩, d6, d7⟩ := HZ.out.cells
  have d8 := HZE.out.cell 0
  simp only [List.getElem?_toArray, List.getElem?_cons_zero] at d8
  unfold set9 set8 at d0 d1 d2 d3 d4 d5 d6 d7 d8
  simp [Leaves, settle, results, Tryd.results5, go_sem, d0, d1, d2, d3, d4, d5, d6, d7, d8]
  refine ⟨⟨_, by rw [HPE.out], ?_⟩, HF.out⟩
  rw [HPR.out]
  exact ⟨HV6.out.kept HK9.out (fun i hh _ e => by have hh1 := hh.1; omega) (fun i hh hl => ⟨by have hh1 := hh.1; omega, Nat.lt_of_lt_of_le hl HK9.out.size⟩), htm.out⟩
theorem parse_misfit (T : List UInt8) (w : World) (r : Rx) (hb : bigT T = false) (hx : exprN T (T.length + 1) 0 = some (r, T.length)) (hf : r.fits = false) : Calls Tryd.prog 5 #[.string ⟨T.toArray⟩] w (ParseEnd T w) := by
  have hP : parseP T = some r := by unfold parseP; rw [hx]; exact if_pos rfl
  have hPE : parseE T = largeE := by unfold parseE; rw [if_neg (by rw [hb]; decide), hP]; simp only; rw [hf]; rfl
  have hPR : parseR T = none := by unfold parseR; rw [if_neg (by rw [hb]; decide), hP]; simp only; rw [hf]; rfl
  have HPE := Lib.hid hPE
  have HPR := Lib.hid hPR
  have htm := Lib.hid (exprN_tame _ _ _ _ (Nat.zero_le _) hx)
  have HMS := Lib.hid (show msV r = .tuple #[.int .i64 0, largeE] by unfold msV; rw [hf]; rfl)
  have hsz : (ByteArray.mk T.toArray).size = T.length := by simp [ByteArray.size]
  have hmf : ∀ (fn : Fn) (first cap : Array Value) (w : World), (Instr.makeFunc fn first cap).run Tryd.prog w = .ok (.func fn first cap) w := fun _ _ _ _ => rfl
  have hc := Tryd.strings_Count_one ⟨T.toArray⟩ 40 ((w.alloc (.cells #[.int .i64 0, .int .u64 0, .int .u64 0, .int .u64 0, .int .u64 0, .int .i64 0, .int .i64 0, .slice none 0 0] 27)).alloc (.cells #[.nilIface] 29))
  unfold bigT at hb
  rw [Bool.or_eq_false_iff] at hb
  have h1 := of_decide_eq_false hb.1
  have h2 := of_decide_eq_false hb.2
  have t1 : decide (262144 < (T.length : Int)) = false := by simp; omega
  generalize hcc : Lib.countByte T 40 = cc at *
  have hc2 : Calls Tryd.prog 16 #[.string ⟨T.toArray⟩, .string ⟨#[40]⟩] ((w.alloc (.cells #[.int .i64 0, .int .u64 0, .int .u64 0, .int .u64 0, .int .u64 0, .int .i64 0, .int .i64 0, .slice none 0 0] 27)).alloc (.cells #[.nilIface] 29)) fun e w' => e = .returned (.int .i64 cc) ∧ ((w.alloc (.cells #[.int .i64 0, .int .u64 0, .int .u64 0, .int .u64 0, .int .u64 0, .int .i64 0, .int .i64 0, .slice none 0 0] 27)).alloc (.cells #[.nilIface] 29)) = w' := by
    rw [← hcc]
    refine hc.mono ?_
    rintro e w' ⟨rfl, rfl⟩
    exact ⟨by simp [hcc], rfl⟩
  have HC := Lib.hid hc2
  have t2 : decide (1024 < (cc : Int)) = false := by simp; omega
  obtain ⟨w3, hw3⟩ : ∃ w3, w3 = ((w.alloc (.cells #[.int .i64 0, .int .u64 0, .int .u64 0, .int .u64 0, .int .u64 0, .int .i64 0, .int .i64 0, .slice none 0 0] 27)).alloc (.cells #[.nilIface] 29)).alloc (.cells #[.string ⟨T.toArray⟩, .int .i64 0] 50) := ⟨_, rfl⟩
  have hR3 : R8 w3 w.heap.size (.int .i64 0) (.int .u64 0) (.int .u64 0) (.int .u64 0) (.int .u64 0) (.int .i64 0) (.int .i64 0) (.slice none 0 0) := by rw [hw3]; exact ((R8.mk0 w w.heap.size rfl).alloc _).alloc _
  have hE3 : Blk w3 (w.heap.size + 1) 29 #[.nilIface] := by
    rw [hw3]
    have := Blk.new (w.alloc (.cells #[.int .i64 0, .int .u64 0, .int .u64 0, .int .u64 0, .int .u64 0, .int .i64 0, .int .i64 0, .slice none 0 0] 27)) 29 #[.nilIface]
    exact Blk.alloc (by simpa using this) _
  have hp3 : PS T w3 (w.heap.size + 1 + 1) 0 := by
    refine ⟨?_, Nat.zero_le _, by omega⟩
    rw [hw3]
    have := Blk.new ((w.alloc (.cells #[.int .i64 0, .int .u64 0, .int .u64 0, .int .u64 0, .int .u64 0, .int .i64 0, .int .i64 0, .slice none 0 0] 27)).alloc (.cells #[.nilIface] 29)) 50 #[.string ⟨T.toArray⟩, .int .i64 0]
    simpa using this
  have hb3 : Below w.heap.size w w3 := by rw [hw3]; exact (((Below.refl _ _).alloc (Nat.le_refl _) _).alloc (by simp) _).alloc (by simp; omega) _
  have hs3 : w3.heap.size = w.heap.size + 1 + 1 + 1 := by rw [hw3]; simp
  have HX := Lib.hid (expr_any (T.length + 1) 0 w3 hp3 (by omega))
  have HR3 := Lib.hid hR3
  have HE3 := Lib.hid hE3
  have HB3 := Lib.hid hb3
  have HW3 := Lib.hid hw3
  clear hb hc hc2 hcc hw3 hR3 hE3 hp3 hb3 h2
  rw [hx] at HX
  have t3 : decide ((T.length : Int) < (T.length : Int)) = false := by simp
  have t3' : decide (T.length < T.length) = false := by simp
  clear hP hPE hPR hx hf
  go_enter_defers Tryd.func5, Tryd.ntmps5
  go_wp2_with fail
  refine HC.out.mono ?_
  rintro e w' ⟨rfl, rfl⟩
  go_wp2_with fail
  rw [← HW3.out]
  refine HX.out.mono ?_
  rintro e w4 ⟨cs, rfl, hv, hp4, hk4⟩
  obtain ⟨kd, a0, a1, a2, a3, lo, hi, A, n, c, rfl⟩ := hv.eight
  have hR4 := HR3.out.kept hk4 (fun e => by have e' : w.heap.size = w.heap.size + 1 + 1 := e; omega)
  have hE4 := HE3.out.kept hk4 (fun e => by have e' : w.heap.size + 1 = w.heap.size + 1 + 1 := e; omega)
  have hB4 := hk4.below HB3.out (by omega) (fun i e => by have e' : i = w.heap.size + 1 + 1 := e; omega)
  have hs4 : w3.heap.size ≤ w4.heap.size := hk4.size
  obtain ⟨⟨⟨c0, c1⟩, c2, c3⟩, ⟨c4, c5⟩, c6, c7⟩ := hR4.cells
  obtain ⟨⟨⟨f0, f1⟩, f2, f3⟩, ⟨f4, f5⟩, f6, f7⟩ := hR4.free
  have hp5 := hp4.far8 (X := w.heap.size) (by omega) (.int .i64 kd) (.int .u64 a0) (.int .u64 a1) (.int .u64 a2) (.int .u64 a3) (.int .i64 lo) (.int .i64 hi) (.slice A n c)
  have hR5 := hR4.all (.int .i64 kd) (.int .u64 a0) (.int .u64 a1) (.int .u64 a2) (.int .u64 a3) (.int .i64 lo) (.int .i64 hi) (.slice A n c)
  have hE5 := Blk.set8 (g := w.heap.size) hE4 (by omega) (.int .i64 kd) (.int .u64 a0) (.int .u64 a1) (.int .u64 a2) (.int .u64 a3) (.int .i64 lo) (.int .i64 hi) (.slice A n c)
  have hB5 := below_set8 hB4 (Nat.le_refl w.heap.size) (.int .i64 kd) (.int .u64 a0) (.int .u64 a1) (.int .u64 a2) (.int .u64 a3) (.int .i64 lo) (.int .i64 hi) (.slice A n c)
  have hK5 := kept_set8 (Kept.refl (fun i => i = w.heap.size) w4) (g := w.heap.size) (.inl rfl) (.int .i64 kd) (.int .u64 a0) (.int .u64 a1) (.int .u64 a2) (.int .u64 a3) (.int .i64 lo) (.int .i64 hi) (.slice A n c)
  have hv5 : RxV (set8 w4 w.heap.size (.int .i64 kd) (.int .u64 a0) (.int .u64 a1) (.int .u64 a2) (.int .u64 a3) (.int .i64 lo) (.int .i64 hi) (.slice A n c)) (fun i => w3.heap.size ≤ i ∧ i < w4.heap.size) r [.int .i64 kd, .int .u64 a0, .int .u64 a1, .int .u64 a2, .int .u64 a3, .int .i64 lo, .int .i64 hi, .slice A n c] := hv.kept hK5 (fun i hh _ e => by have hh1 := hh.1; have e' : i = w.heap.size := e; omega) (fun i hh _ => hh)
  obtain ⟨g0, g1, g2⟩ := hp5.cells
  have hs5 : w4.heap.size ≤ (set8 w4 w.heap.size (.int .i64 kd) (.int .u64 a0) (.int .u64 a1) (.int .u64 a2) (.int .u64 a3) (.int .i64 lo) (.int .i64 hi) (.slice A n c)).heap.size := hK5.size
  clear hp4 hk4 hv
  have hA5 : At8 (set8 w4 w.heap.size (.int .i64 kd) (.int .u64 a0) (.int .u64 a1) (.int .u64 a2) (.int .u64 a3) (.int .i64 lo) (.int .i64 hi) (.slice A n c)) w.heap.size 0 [.int .i64 kd, .int .u64 a0, .int .u64 a1, .int .u64 a2, .int .u64 a3, .int .i64 lo, .int .i64 hi, .slice A n c] := ⟨hR5.lt, fun j u hu => by rw [Nat.zero_add, Blk.cell hR5]; simpa using hu⟩
  have hms := measure_any w.heap.size 0 r [.int .i64 kd, .int .u64 a0, .int .u64 a1, .int .u64 a2, .int .u64 a3, .int .i64 lo, .int .i64 hi, .slice A n c] (set8 w4 w.heap.size (.int .i64 kd) (.int .u64 a0) (.int .u64 a1) (.int .u64 a2) (.int .u64 a3) (.int .i64 lo) (.int .i64 hi) (.slice A n c)) _ hv5 (fun i hh => by have hh1 := hh.2; omega) hA5 htm.out
  rw [HMS.out] at hms
  have HM := Lib.hid hms
  unfold set8 at g0 g1 g2
  have HV := Lib.hid hv5
  have HR5 := Lib.hid hR5
  have HE5 := Lib.hid hE5
  have HB5 := Lib.hid hB5
  clear hp5 hR5 hE5 hB5 hK5 hv5 hR4 hE4 hA5 hms
  go_wp2_with fail
  refine HM.out.mono ?_
  rintro e w6 ⟨rfl, hb6⟩
  have hR6 := HR5.out.below hb6 HR5.out.lt
  have hE6 := Blk.below HE5.out hb6 (Blk.lt HE5.out)
  have hB6 := HB5.out.trans (hb6.mono (by omega))
  have hv6 := HV.out.below hb6
  have hs6 : w4.heap.size ≤ w6.heap.size := Nat.le_trans hs5 hb6.size
  clear c0 c1 c2 c3 c4 c5 c6 c7 f0 f1 f2 f3 f4 f5 f6 f7 g0 g1 g2
  obtain ⟨⟨⟨c0, c1⟩, c2, c3⟩, ⟨c4, c5⟩, c6, c7⟩ := hR6.cells
  obtain ⟨⟨⟨f0, f1⟩, f2, f3⟩, ⟨f4, f5⟩, f6, f7⟩ := hR6.free
  have e0 := hE6.cell 0
  have e1 := hE6.frozen 0
  simp only [List.getElem?_toArray, List.getElem?_cons_zero] at e0
  have HZ := Lib.hid (set9_R hR6 (h := w.heap.size + 1) (by omega) (.int .i64 0) (.int .u64 0) (.int .u64 0) (.int .u64 0) (.int .u64 0) (.int .i64 0) (.int .i64 0) (.slice none 0 0) largeE)
  have HZE := Lib.hid (set9_E hE6 (g := w.heap.size) (by omega) (.int .i64 0) (.int .u64 0) (.int .u64 0) (.int .u64 0) (.int .u64 0) (.int .i64 0) (.int .i64 0) (.slice none 0 0) largeE)
  have HF := Lib.hid (below_set9 hB6 (g := w.heap.size) (h := w.heap.size + 1) (Nat.le_refl _) (by omega) (.int .i64 0) (.int .u64 0) (.int .u64 0) (.int .u64 0) (.int .u64 0) (.int .i64 0) (.int .i64 0) (.slice none 0 0) largeE)
  have HK9 := Lib.hid (kept_set9 (F := fun i => i = w.heap.size ∨ i = w.heap.size + 1) (Kept.refl _ w6) (g := w.heap.size) (h := w.heap.size + 1) (.inl (.inl rfl)) (.inl (.inr rfl)) (.int .i64 0) (.int .u64 0) (.int .u64 0) (.int .u64 0) (.int .u64 0) (.int .i64 0) (.int .i64 0) (.slice none 0 0) largeE)
  have HV6 := Lib.hid hv6
  clear hR6 hE6 hB6 hv6 hb6
  unfold largeE at *
  go_wp2_with fail
  refine leaves_cons (f := 17) (args := #[.pointer (some ⟨w.heap.size, 0, none⟩), .pointer (some ⟨w.heap.size + 1, 0, none⟩)]) (by simp) (by simp [go_sem]) ?_
  refine (catch_idle _ _ _).mono ?_
  rintro e u' w'' ⟨rfl, rfl, rfl⟩
  obtain ⟨⟨⟨d0, d1⟩, d2, d3⟩, ⟨d4, d5⟩, d6, d7⟩ := HZ.out.cells
  have d8 := HZE.out.cell 0
  simp only [List.getElem?_toArray, List.getElem?_cons_zero] at d8
  unfold set9 set8 at d0 d1 d2 d3 d4 d5 d6 d7 d8
  simp [Leaves, settle, results, Tryd.results5, go_sem, d0, d1, d2, d3, d4, d5, d6, d7, d8]
  exact ⟨⟨zeroC, by rw [HPE.out]; rfl, by rw [HPR.out]; rfl⟩, HF.out⟩
theorem parse_any (T : List UInt8) (w : World) (h : T.length ≤ 9223372036854775807) : Calls Tryd.prog 5 #[.string ⟨T.toArray⟩] w (ParseEnd T w) := by
  rcases hb : bigT T with _ | _
  · rcases hx : exprN T (T.length + 1) 0 with _ | ⟨r, k⟩
    · exact parse_fail T w hb hx
    · by_cases hk : k = T.length
      · subst hk
        rcases hf : r.fits with _ | _
        · exact parse_misfit T w r hb hx hf
        · exact parse_fits T w r hb hx hf
      · exact parse_tail T w r k hb hx hk
  · exact parse_big T w h hb
end Go.Proofs.YtpiagfmjekcncaaDoor
