/- The walk of the law TypesOverloads. -/
import Derived.Test.YtfdpohceoabinaaAlive
import Derived.IntWalk
import Derived.Deep.LoopGhost
namespace Go.Proofs.Ytfdpohceoabinaa
open Go.RowKit
def cmpN : List (List UInt8) := [[61, 61], [33, 61], [60], [60, 61]]
def fineO (n : List UInt8) (a b : Int) : Bool := decide (a = b) && decide (a ≠ 4) && (decide (a ≠ 2) || decide (n = [61, 61]) || decide (n = [33, 61]))
theorem over_of (n : List UInt8) (hn : n ∈ cmpN) (a b : Int) (ha : 1 ≤ a ∧ a ≤ 4) (hb : 1 ≤ b ∧ b ≤ 4) :
    ofT (.node 4 n 0 [sampleT a, sampleT b]) = (if fineO n a b then .tuple #[.int .i64 2, .nilIface] else .tuple #[.int .i64 0, .iface 33 (.int .i64 12)]) := by
  have ha' : a = 1 ∨ a = 2 ∨ a = 3 ∨ a = 4 := by omega
  have hb' : b = 1 ∨ b = 2 ∨ b = 3 ∨ b = 4 := by omega
  have hn' : n = [61, 61] ∨ n = [33, 61] ∨ n = [60] ∨ n = [60, 61] := by simpa [cmpN] using hn
  clear hn ha hb
  rcases hn' with rfl | rfl | rfl | rfl <;> rcases ha' with rfl | rfl | rfl | rfl <;> rcases hb' with rfl | rfl | rfl | rfl <;> (show (_ : Value) = _; kernel_rfl)
theorem over_small (n : List UInt8) (hn : n ∈ cmpN) (a b : Int) (ha : 1 ≤ a ∧ a ≤ 4) (hb : 1 ≤ b ∧ b ≤ 4) :
    Tx.size (.node 4 n 0 [sampleT a, sampleT b]) ≤ 900000 ∧ Tx.all (shortT 9223372036854775807) (.node 4 n 0 [sampleT a, sampleT b]) = true := by
  have ha' : a = 1 ∨ a = 2 ∨ a = 3 ∨ a = 4 := by omega
  have hb' : b = 1 ∨ b = 2 ∨ b = 3 ∨ b = 4 := by omega
  have hn' : n = [61, 61] ∨ n = [33, 61] ∨ n = [60] ∨ n = [60, 61] := by simpa [cmpN] using hn
  clear hn ha hb
  rcases hn' with rfl | rfl | rfl | rfl <;> rcases ha' with rfl | rfl | rfl | rfl <;> rcases hb' with rfl | rfl | rfl | rfl <;> exact ⟨by decide, by decide⟩
/-- The four cells of the names. -/
def namesC : Array Value := #[.string ⟨#[61, 61]⟩, .string ⟨#[33, 61]⟩, .string ⟨#[60]⟩, .string ⟨#[60, 61]⟩]
def OvRel (w : World) (f : Nat) (i : Value) (wr : World) : Prop := ∃ k : Nat, i = .int .i64 k ∧ k ≤ 4 ∧ 4 - k < f ∧ Hid (Blk wr w.heap.size 9 namesC) ∧ Hid (Below w.heap.size w wr)
theorem over_yes (n : List UInt8) (hn : n ∈ cmpN) (a b : Int) (ha : 1 ≤ a ∧ a ≤ 4) (hb : 1 ≤ b ∧ b ≤ 4) (h : fineO n a b = true) : ofT (.node 4 n 0 [sampleT a, sampleT b]) = .tuple #[.int .i64 2, .nilIface] := by rw [over_of n hn a b ha hb, if_pos h]
theorem over_no (n : List UInt8) (hn : n ∈ cmpN) (a b : Int) (ha : 1 ≤ a ∧ a ≤ 4) (hb : 1 ≤ b ∧ b ≤ 4) (h : fineO n a b = false) : ofT (.node 4 n 0 [sampleT a, sampleT b]) = .tuple #[.int .i64 0, errV 12] := by rw [over_of n hn a b ha hb, if_neg (by rw [h]; decide)]; rfl
theorem tmod4 (k : Int) : -3 ≤ k.tmod 4 ∧ k.tmod 4 ≤ 3 := by
  have h1 := Int.tmod_lt_of_pos k (show (0 : Int) < 4 by decide)
  have h2 := Int.tmod_lt_of_pos (-k) (show (0 : Int) < 4 by decide)
  rw [Int.neg_tmod] at h2
  omega
set_option maxRecDepth 100000 in
set_option maxHeartbeats 4000000 in
theorem over_any (one two : Int) (w : World) : Calls Try.prog 3 #[.int .i64 one, .int .i64 two] w (AwEnd w) := by
  obtain ⟨b11, b12⟩ := tmod4 one
  obtain ⟨b21, b22⟩ := tmod4 two
  go_enter Try.func3, Try.ntmps3
  obtain ⟨a, ha⟩ : ∃ a, a = 1 + one.tmod 4 % 4 := ⟨_, rfl⟩
  obtain ⟨b, hb⟩ : ∃ a, a = 1 + two.tmod 4 % 4 := ⟨_, rfl⟩
  have ha4 : 1 ≤ a ∧ a ≤ 4 := by omega
  have hb4 : 1 ≤ b ∧ b ≤ 4 := by omega
  have HA := Lib.hid ha
  have HB := Lib.hid hb
  have HA4 := Lib.hid ha4
  have HB4 := Lib.hid hb4
  clear ha hb ha4 hb4
  go_wp2_with fail
  rw [← HA.out, ← HB.out]
  obtain ⟨p1, hp1⟩ : ∃ a, a = (one.tmod 4 + 4) % 4 := ⟨_, rfl⟩
  obtain ⟨p2, hp2⟩ : ∃ a, a = (two.tmod 4 + 4) % 4 := ⟨_, rfl⟩
  rw [← hp1, ← hp2]
  clear hp1 hp2
  clear HA HB b11 b12 b21 b22
  go_loopg [24, 8, 9, 10, 11] 5 (fun f i _ _ _ _ wr => OvRel w f i wr)
  case atStart => exact ⟨0, rfl, by omega, by omega, Lib.hid (Blk.new w _ _), Lib.hid ((Below.refl _ _).alloc (Nat.le_refl _) _)⟩
  case round =>
    obtain ⟨k, rfl, hk4, hkf, HN, HBW⟩ := hrel
    obtain ⟨f, rfl⟩ : ∃ f, gk = f + 1 := ⟨gk - 1, by omega⟩
    have hbl := HN.out.lt
    by_cases hlt : k < 4
    · have hC : ∃ n, n ∈ cmpN ∧ wr.cell? ⟨w.heap.size, k, none⟩ = some (.string ⟨List.toArray n⟩) := by
        rw [HN.out.cell]
        have : k = 0 ∨ k = 1 ∨ k = 2 ∨ k = 3 := by omega
        rcases this with rfl | rfl | rfl | rfl
        · exact ⟨[61, 61], by simp [cmpN], rfl⟩
        · exact ⟨[33, 61], by simp [cmpN], rfl⟩
        · exact ⟨[60], by simp [cmpN], rfl⟩
        · exact ⟨[60, 61], by simp [cmpN], rfl⟩
      obtain ⟨n, hn, hc⟩ := hC
      have HNN := Lib.hid hn
      clear hn
      go_wp2_with fail
      refine (sample_any a _).mono ?_
      rintro e w1 ⟨cs1, rfl, hn1, hb1⟩
      obtain ⟨k1, t1, m1, A1, n1, c1, rfl⟩ := hn1.form
      have HN1 := Lib.hid hn1
      have HB1 := Lib.hid hb1
      have hz1 := hb1.size
      clear hn1 hb1
      go_wp2_with fail
      refine (sample_any b _).mono ?_
      rintro e w2 ⟨cs2, rfl, hn2, hb2⟩
      obtain ⟨k2, t2, m2, A2, n2, c2, rfl⟩ := hn2.form
      have HN1 := Lib.hid (HN1.out.below hb2)
      have HN2 := Lib.hid hn2
      have HB2 := Lib.hid hb2
      have hz2 := hb2.size
      clear hn2 hb2
      go_wp2_with fail
      refine (lw_call _ _ _ _ _).mono ?_
      rintro e w3 ⟨rfl, hb3⟩
      have HR3 := Lib.hid ((Blk.new w2 29 _).below hb3 (by simp))
      have hb23 : Below w2.heap.size w2 w3 := ((Below.refl _ _).alloc (Nat.le_refl _) _).trans (hb3.mono (by simp))
      have HN1 := Lib.hid (HN1.out.below hb23)
      have HN2 := Lib.hid (HN2.out.below hb23)
      have HB3 := Lib.hid hb23
      have hz3 := hb3.size
      simp at hz3
      clear hb3 hb23
      have hnc : NodeV w3 (fun i => i < w3.heap.size) _ _ := node_call2 (c := 2) HR3.out (by omega) HN1.out HN2.out n
      have hsm := over_small n HNN.out a b HA4.out HB4.out
      have hof := of_tx _ _ w3 hnc hsm.1 hsm.2
      have HOF := Lib.hid hof
      clear hof hnc hsm
      go_wp2_with fail
      refine HOF.out.mono ?_
      rintro e w4 ⟨rfl, hb4⟩
      have hb4' := hb4
      have HW4 := Lib.hid (((HBW.out.trans (HB1.out.mono (by have := HBW.out.size; omega))).trans (HB2.out.mono (by have := HBW.out.size; omega))).trans (HB3.out.mono (by have := HBW.out.size; omega)) |>.trans (hb4.mono (by have := HBW.out.size; omega)))
      clear hb4
      have hn4 : n = [61, 61] ∨ n = [33, 61] ∨ n = [60] ∨ n = [60, 61] := by simpa [cmpN] using HNN.out
      have hw4 := HW4.out.size
      have hB4 : Blk w4 w.heap.size 9 namesC := (HB1.out.trans (HB2.out.mono hz1) |>.trans (HB3.out.mono (by omega)) |>.trans (hb4'.mono (by omega))).block w.heap.size hbl |>.trans HN.out
      have HN4 := Lib.hid hB4
      have h12 : Calls Try.prog 9 #[errV 12, .int .i64 12] w4 fun e w' => e = .returned (.bool true) ∧ w4 = w' := (is_errV 12 12 w4 (by decide)).mono fun _ _ h => ⟨by rw [h.1]; rfl, h.2⟩
      have H12 := Lib.hid h12
      clear hw4 hB4 h12 HNN
      by_cases hab : a = b
      · subst hab
        have ha4 : a = 1 ∨ a = 2 ∨ a = 3 ∨ a = 4 := by have := HA4.out; omega
        rcases hn4 with rfl | rfl | rfl | rfl <;> rcases ha4 with rfl | rfl | rfl | rfl
        all_goals
          first
          | rw [over_yes _ (by simp [cmpN]) _ _ HA4.out HB4.out (by decide)]
            go_wp2_with fail
            go_roundg f
            case measure => omega
            case rel => exact ⟨k + 1, by go_num, by omega, by omega, HN4, HW4⟩
          | rw [over_no _ (by simp [cmpN]) _ _ HA4.out HB4.out (by decide)]
            go_wp2_with fail
            refine H12.out.mono ?_
            rintro e w5 ⟨rfl, rfl⟩
            go_wp2_with fail
            go_roundg f
            case measure => omega
            case rel => exact ⟨k + 1, by go_num, by omega, by omega, HN4, HW4⟩
      · have e1 : (a == b) = false := by simpa using hab
        have e2 : ∀ n, fineO n a b = false := fun n => by unfold fineO; rw [decide_eq_false hab]; rfl
        rw [over_no n (by simpa [cmpN] using hn4) a b HA4.out HB4.out (e2 n)]
        clear e2 hn4 hab
        go_wp2_with fail
        refine H12.out.mono ?_
        rintro e w5 ⟨rfl, rfl⟩
        go_wp2_with fail
        go_roundg f
        case measure => omega
        case rel => exact ⟨k + 1, by go_num, by omega, by omega, HN4, HW4⟩
    · go_wp2_with fail
      go_ret
      exact ⟨rfl, HBW.out⟩
end Go.Proofs.Ytfdpohceoabinaa
