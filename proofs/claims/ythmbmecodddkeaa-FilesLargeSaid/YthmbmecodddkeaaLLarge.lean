/- The walk of the law FilesLarge. -/
import Derived.Test.YthmbmecodddkeaaAlive
import Derived.Test.YthmbmecodddkeaaNames
namespace Go.Proofs.Ythmbmecodddkeaa
open Go.RowKit Go.WideMaps
theorem made_zero (m : Nat) : (madeCells (Value.int .u8 0).cells (m * 1)).toList = (List.replicate m (0 : UInt8)).map byteV := by
  apply List.ext_getElem?
  intro j
  rw [Nat.mul_one, List.getElem?_map, List.getElem?_replicate]
  by_cases hj : j < m
  · rw [if_pos hj]
    simp [madeCells, hj, Value.cells, byteV, Nat.mod_one]
  · rw [if_neg hj]
    simp [madeCells, hj]
set_option maxRecDepth 100000 in
set_option maxHeartbeats 400000 in
theorem large_out (more extra : Int) (w : World) (h : more < -100 ∨ 100 < more ∨ extra < 0 ∨ 100 < extra) : Calls Try.prog 3 #[.int .i64 more, .int .i64 extra] w (AwEnd w) := by
  by_cases h1 : more < -100
  · have d1 : decide (more < -100) = true := by simpa using h1
    go_enter Try.func3, Try.ntmps3
    go_wp2_with fail
    refine (alive_any w).mono ?_
    rintro e w1 ⟨rfl, hb⟩
    go_wp2_with fail
    go_ret
    exact ⟨rfl, hb⟩
  have d1 : decide (more < -100) = false := by simpa using h1
  by_cases h2 : 100 < more
  · have d2 : decide (100 < more) = true := by simpa using h2
    go_enter Try.func3, Try.ntmps3
    go_wp2_with fail
    refine (alive_any w).mono ?_
    rintro e w1 ⟨rfl, hb⟩
    go_wp2_with fail
    go_ret
    exact ⟨rfl, hb⟩
  have d2 : decide (100 < more) = false := by simpa using h2
  by_cases h3 : extra < 0
  · have d3 : decide (extra < 0) = true := by simpa using h3
    go_enter Try.func3, Try.ntmps3
    go_wp2_with fail
    refine (alive_any w).mono ?_
    rintro e w1 ⟨rfl, hb⟩
    go_wp2_with fail
    go_ret
    exact ⟨rfl, hb⟩
  have d3 : decide (extra < 0) = false := by simpa using h3
  have h4 : 100 < extra := by omega
  have d4 : decide (100 < extra) = true := by simpa using h4
  clear h
  go_enter Try.func3, Try.ntmps3
  go_wp2_with fail
  refine (alive_any w).mono ?_
  rintro e w1 ⟨rfl, hb⟩
  go_wp2_with fail
  go_ret
  exact ⟨rfl, hb⟩
set_option maxRecDepth 100000 in
set_option maxHeartbeats 1000000 in
theorem large_in (more extra : Int) (w : World) (h1 : ¬ more < -100) (h2 : ¬ 100 < more) (h3 : ¬ extra < 0) (h4 : ¬ 100 < extra) : Calls Try.prog 3 #[.int .i64 more, .int .i64 extra] w (AwEnd w) := by
  obtain ⟨i0, hi, hz0, hz1, hz2'⟩ := info_parts infoB
  have d1 : decide (more < -100) = false := by simpa using h1
  have d2 : decide (100 < more) = false := by simpa using h2
  have d3 : decide (extra < 0) = false := by simpa using h3
  have d4 : decide (100 < extra) = false := by simpa using h4
  obtain ⟨m, hm, hm1, hm2⟩ : ∃ m : Nat, 16777216 + more = (m : Int) ∧ 16777116 ≤ m ∧ m ≤ 16777316 := ⟨(16777216 + more).toNat, by omega, by omega, by omega⟩
  obtain ⟨x, hx, hx1⟩ : ∃ x : Nat, extra = (x : Int) ∧ x ≤ 100 := ⟨extra.toNat, by omega, by omega⟩
  subst hx
  have HM := Lib.hid hm
  clear hm
  go_enter Try.func3, Try.ntmps3
  go_wp2_with fail
  refine (alive_any w).mono ?_
  rintro e w0 ⟨rfl, hb0⟩
  go_wp2_with fail
  refine (newS_any w0).mono ?_
  rintro e w1 ⟨rfl, hS1, hq⟩
  have hb1 := hb0.trans (hq.mono hb0.size)
  have hS1 := hS1.cap
  obtain ⟨F1, hF1, hS1⟩ : ∃ F1, Hid (∀ i, F1 i → w0.heap.size ≤ i ∧ i < w1.heap.size) ∧ SysM w1 w0.heap.size F1 (w0.heap.size + 1) w0.heap.size 0 emptyA := ⟨_, fun i hi => hi, hS1⟩
  have HB0 := Lib.hid (show w.heap.size ≤ w0.heap.size ∧ w0.heap.size ≤ w1.heap.size from ⟨hb0.size, hq.size⟩)
  clear hq hb0
  go_wp2_with (at_make; refine wpList_make_full _ rfl _ _ 28 rfl w1.heap.size 5 i0 (.int .u8 0) 1 Try.underlying28 hi hz0 hz1 _ _ _ _ m rfl rfl HM.out HM.out (by rw [hz2']; omega) (by unfold maxLen; omega) (Nat.le_refl _) ?_; intro w2 hown2 hg2)
  rw [made_zero] at hown2
  have hbl : (List.replicate m (0 : UInt8)).length = m := List.length_replicate
  have HBL := Lib.hid hbl
  clear hbl
  generalize List.replicate m (0 : UInt8) = big at *
  generalize hA2 : (some (⟨w1.heap.size, 0, none⟩ : Addr)) = A2 at *
  have HA2 := Lib.hid hA2
  have hq : Below w1.heap.size w1 w2 := (Below.refl w1.heap.size w1).grown hg2 (Nat.le_refl _) (by simp)
  have hb2 := hb1.trans (hq.mono hb1.size)
  have hS2 := hS1.below hq
  have HB2 := Lib.hid hq.size
  have happ := append_any w0.heap.size (w0.heap.size + 1) w0.heap.size 0 F1 emptyA A2 m m _ big fN w2 hS2 (Reads.of_own hown2) (Nat.le_refl _) HBL.out (by
    intro ad e _ hf
    rw [e] at hA2
    injection hA2 with hA2
    subst hA2
    have := (hF1.out _ hf).2
    simp at this) (by omega) fN_size (by unfold maxLen; omega)
  clear hq hg2 hA2 hb1 hS1 hS2 hown2
  by_cases hbig : 16777216 < m
  · have g0 : decide (16777216 < 16777216 + more) = true := by have := HM.out; simp; omega
    rw [append_big fN big fN_valid (by rw [HBL.out]; exact hbig), errV_ne (by decide)] at happ
    go_wp2_with fail
    refine happ.mono ?_
    clear happ
    rintro e w3 ⟨rfl, hS3, hk3⟩
    have hb3 := hk3.below hb2 hb2.size fun i hi => by have := (hF1.out _ hi).1; have := HB0.out; omega
    clear hk3
    go_wp2_with fail
    refine (is_same 9 w3 (by decide)).mono ?_
    rintro e w' ⟨rfl, rfl⟩
    go_wp2_with fail
    refine (namesS_any w0.heap.size _ _ _ _ _ w3 hS3 (by decide)).mono ?_
    rintro e w4 ⟨A4, c4, rfl, _, hq⟩
    have hb4 := hb3.trans (hq.mono hb3.size)
    clear hS3 hb3 hq
    go_wp2_with fail
    go_ret
    exact ⟨rfl, hb4⟩
  · have g0 : decide (16777216 < 16777216 + more) = false := by have := HM.out; simp; omega
    rw [append_empty fN big fN_valid (by rw [HBL.out]; omega), errV_zero] at happ
    go_wp2_with fail
    refine happ.mono ?_
    clear happ
    rintro e w3 ⟨rfl, hS3, hk3⟩
    have hb3 := hk3.below hb2 hb2.size fun i hi => by have := (hF1.out _ hi).1; have := HB0.out; omega
    have HB3 := Lib.hid hk3.size
    have hS3 := hS3.cap
    obtain ⟨F3, hF3, hS3⟩ : ∃ F3, Hid (∀ i, F3 i → w0.heap.size ≤ i ∧ i < w3.heap.size) ∧ SysM w3 w0.heap.size F3 (w0.heap.size + 1) w0.heap.size 1 (one fN big 0) := ⟨_, fun i hi => ⟨by
      rcases hi.1 with h | h
      · exact (hF1.out _ h).1
      · have := HB0.out; have := HB2.out; omega, hi.2⟩, hS3⟩
    clear hk3 hb2
    go_wp2_with (at_make; refine wpList_make_full _ rfl _ _ 28 rfl w3.heap.size 5 i0 (.int .u8 0) 1 Try.underlying28 hi hz0 hz1 _ _ _ _ x rfl rfl rfl rfl (by rw [hz2']; omega) (by unfold maxLen; omega) (Nat.le_refl _) ?_; intro w4 hown4 hg4)
    rw [made_zero] at hown4
    have hxl : (List.replicate x (0 : UInt8)).length = x := List.length_replicate
    have HXL := Lib.hid hxl
    clear hxl
    generalize List.replicate x (0 : UInt8) = bx at *
    generalize hA4 : (some (⟨w3.heap.size, 0, none⟩ : Addr)) = A4 at *
    have hq : Below w3.heap.size w3 w4 := (Below.refl w3.heap.size w3).grown hg4 (Nat.le_refl _) (by simp)
    have hb4 := hb3.trans (hq.mono hb3.size)
    have hS4 := hS3.below hq
    have happ := append_any w0.heap.size (w0.heap.size + 1) w0.heap.size 1 F3 (one fN big 0) A4 x x _ bx fN w4 hS4 (Reads.of_own hown4) (Nat.le_refl _) HXL.out (by
      intro ad e _ hf
      rw [e] at hA4
      injection hA4 with hA4
      subst hA4
      have := (hF3.out _ hf).2
      simp at this) (by omega) fN_size (by unfold maxLen; omega)
    clear hq hg4 hA4 hb3 hS3 hS4 hown4
    by_cases hb : 16777216 < m + x
    · have g1 : decide (16777216 < 16777216 + more + (x : Int)) = true := by have := HM.out; simp; omega
      rw [append_one_big fN big bx 0 fN_valid (by rw [HBL.out, HXL.out]; exact hb)] at happ
      simp only [errV_ne (show (9 : Int) ≠ 0 by decide)] at happ
      go_wp2_with fail
      refine happ.mono ?_
      clear happ
      rintro e w5 ⟨rfl, hS5, hk5⟩
      have hb5 := hk5.below hb4 hb4.size fun i hi => by have := (hF3.out _ hi).1; have := HB0.out; omega
      clear hk5
      have hsz := size_any w0.heap.size _ _ _ _ _ fN w5 hS5 fN_size
      rw [find_one] at hsz
      simp only [sizeR, HBL.out] at hsz
      go_wp2_with fail
      refine hsz.mono ?_
      rintro e w' ⟨rfl, rfl⟩
      clear hsz
      have g2 : ((m : Int) == 16777216 + more) = true := by have := HM.out; simp; omega
      go_wp2_with fail
      refine (is_same 9 w5 (by decide)).mono ?_
      rintro e w' ⟨rfl, rfl⟩
      go_wp2_with fail
      go_ret
      exact ⟨rfl, hb5⟩
    · have g1 : decide (16777216 < 16777216 + more + (x : Int)) = false := by have := HM.out; simp; omega
      rw [append_one fN big bx 0 fN_valid (by rw [HBL.out, HXL.out]; omega), errV_zero] at happ
      go_wp2_with fail
      refine happ.mono ?_
      clear happ
      rintro e w5 ⟨rfl, hS5, hk5⟩
      have hb5 := hk5.below hb4 hb4.size fun i hi => by have := (hF3.out _ hi).1; have := HB0.out; omega
      clear hk5
      have hsz := size_any w0.heap.size _ _ _ _ _ fN w5 hS5 fN_size
      rw [find_one] at hsz
      simp only [sizeR, List.length_append, HBL.out, HXL.out] at hsz
      go_wp2_with fail
      refine hsz.mono ?_
      rintro e w' ⟨rfl, rfl⟩
      clear hsz
      have g2 : ((m : Int) + (x : Int) == 16777216 + more + (x : Int)) = true := by have := HM.out; simp; omega
      go_wp2_with fail
      go_ret
      exact ⟨rfl, hb5⟩
theorem large_any (more extra : Int) (w : World) : Calls Try.prog 3 #[.int .i64 more, .int .i64 extra] w (AwEnd w) := by
  by_cases h : more < -100 ∨ 100 < more ∨ extra < 0 ∨ 100 < extra
  · exact large_out more extra w h
  · exact large_in more extra w (by omega) (by omega) (by omega) (by omega)
end Go.Proofs.Ythmbmecodddkeaa
