/- The walks of the store's known, at, Depth, Weight, Even, Len, Rule. -/
import Derived.Test.YtphpfkhpihlalaaRuK
import Derived.Test.YtphpfkhpihlalaaWhP
namespace Go.Proofs.Ytphpfkhpihlalaa
open Go.RowKit
/-- A pointer to a whole block. -/
def ptr (p : Nat) : Value := .pointer (some ⟨p, 0, none⟩)
theorem setA_from : ∀ (vs : List Value) (cs : Array Value) (k : Nat), k + vs.length = cs.size → setA cs k vs = (cs.toList.take k ++ vs).toArray
  | [], cs, k, h => by
    simp only [List.length_nil, Nat.add_zero] at h
    unfold setA
    rw [h, List.append_nil, ← Array.length_toList, List.take_length]
  | v :: vs, cs, k, h => by
    simp only [List.length_cons] at h
    unfold setA
    rw [setA_from vs _ (k + 1) (by simp; omega)]
    congr 1
    rw [Array.toList_setIfInBounds, List.take_add_one, List.getElem?_set_self (by simp; omega), List.take_set_of_le (Nat.le_refl _)]
    simp
theorem setL_all {w : World} {g : Nat} {t : TypeId} {cs : Array Value} (h : Blk w g t cs) (vs : List Value) (hs : cs.size = vs.length) : Blk (setL w g 0 vs) g t vs.toArray := by
  have := setL_blk h 0 vs
  rwa [setA_from vs cs 0 (by omega), List.take_zero, List.nil_append] at this
theorem known_yes {w : World} {F : Nat → Prop} {p m : Nat} {E : List En} (h : StAt w F p m E) (id : Nat) (hi : id ≤ E.length) : Calls Try.prog 38 #[ptr p, .int .i64 (id : Int)] w fun e w' => e = .returned (.bool true) ∧ w' = w := by
  obtain ⟨g, A, c, h⟩ := h
  have c0 := h.blk.cell 0
  have c1 := h.blk.cell 1
  simp only [List.getElem?_toArray, List.getElem?_cons_zero, List.getElem?_cons_succ] at c0 c1
  have h0 : (0 : Int) ≤ (id : Int) := by omega
  have h1 : (id : Int) ≤ (E.length : Int) := by omega
  clear h hi
  unfold ptr
  go_enter Try.func38, Try.ntmps38
  go_wp2_with fail
  go_ret
  exact ⟨rfl, rfl⟩
theorem known_no {w : World} {F : Nat → Prop} {p m : Nat} {E : List En} (h : StAt w F p m E) (id : Int) (hi : id < 0 ∨ (E.length : Int) < id) : Calls Try.prog 38 #[ptr p, .int .i64 id] w fun e w' => e = .returned (.bool false) ∧ w' = w := by
  obtain ⟨g, A, c, h⟩ := h
  have c0 := h.blk.cell 0
  have c1 := h.blk.cell 1
  simp only [List.getElem?_toArray, List.getElem?_cons_zero, List.getElem?_cons_succ] at c0 c1
  clear h
  unfold ptr
  by_cases h0 : (0 : Int) ≤ id
  · have h1 : ¬ id ≤ (E.length : Int) := by omega
    clear hi
    go_enter Try.func38, Try.ntmps38
    go_wp2_with fail
    go_ret
    exact ⟨rfl, rfl⟩
  · clear hi
    go_enter Try.func38, Try.ntmps38
    go_wp2_with fail
    go_ret
    exact ⟨rfl, rfl⟩
set_option maxRecDepth 100000 in
theorem at_none (p : Nat) (w : World) : Calls Try.prog 39 #[ptr p, .int .i64 0] w fun e w' => e = .returned (.agg En.unit.cells.toArray) ∧ Below w.heap.size w w' := by
  have hu := fun W => wunit_any W
  rw [show Wt.unit.val = .agg #[.int .i64 0, .int .i64 0, .int .i64 0, .int .i64 0, .int .u64 0, .int .u64 1] from rfl] at hu
  rw [show (En.unit.cells.toArray : Array Value) = #[.int .i64 0, .int .u8 0, .int .i64 0, .int .i64 0, .int .i64 0, .int .i64 0, .int .i64 0, .int .i64 0, .int .i64 0, .int .u64 0, .int .u64 1, .int .i64 0, .bool true] from rfl]
  unfold ptr
  have k1 := Blk.new w 97 #[.int .i64 0, .int .u8 0, .int .i64 0, .int .i64 0, .int .i64 0, .int .i64 0, .int .i64 0, .int .i64 0, .int .i64 0, .int .u64 0, .int .u64 0, .int .i64 0, .bool false]
  have hb1 : Below w.heap.size w (w.alloc (.cells #[.int .i64 0, .int .u8 0, .int .i64 0, .int .i64 0, .int .i64 0, .int .i64 0, .int .i64 0, .int .i64 0, .int .i64 0, .int .u64 0, .int .u64 0, .int .i64 0, .bool false] 97)) := (Below.refl _ _).alloc (Nat.le_refl _) _
  obtain ⟨w1, hw1⟩ : ∃ w1, w1 = w.alloc (.cells #[.int .i64 0, .int .u8 0, .int .i64 0, .int .i64 0, .int .i64 0, .int .i64 0, .int .i64 0, .int .i64 0, .int .i64 0, .int .u64 0, .int .u64 0, .int .i64 0, .bool false] 97) := ⟨_, rfl⟩
  rw [← hw1] at k1 hb1
  have HW1 := Lib.hid hw1
  clear hw1
  go_enter Try.func39, Try.ntmps39
  go_upto_region 2 with (fail)
  rw [← HW1.out]
  clear HW1
  go_wp2_with fail
  refine (hu _).mono ?_
  rintro e w2 ⟨rfl, hb2⟩
  have k2 := k1.below hb2 k1.lt
  have hq2 := hb1.trans (hb2.mono hb1.size)
  clear hu k1 hb1 hb2
  have z0 := k2.cell 0
  have z1 := k2.cell 1
  have z2 := k2.cell 2
  have z3 := k2.cell 3
  have z4 := k2.cell 4
  have z5 := k2.cell 5
  have z6 := k2.cell 6
  have z7 := k2.cell 7
  have z8 := k2.cell 8
  have z9 := k2.cell 9
  have z10 := k2.cell 10
  have z11 := k2.cell 11
  have z12 := k2.cell 12
  simp only [List.getElem?_toArray, List.getElem?_cons_zero, List.getElem?_cons_succ] at z0 z1 z2 z3 z4 z5 z6 z7 z8 z9 z10 z11 z12
  have q0 := k2.frozen 0
  have q1 := k2.frozen 1
  have q2 := k2.frozen 2
  have q3 := k2.frozen 3
  have q4 := k2.frozen 4
  have q5 := k2.frozen 5
  have q6 := k2.frozen 6
  have q7 := k2.frozen 7
  have q8 := k2.frozen 8
  have q9 := k2.frozen 9
  have q10 := k2.frozen 10
  have q11 := k2.frozen 11
  have q12 := k2.frozen 12
  go_wp2_with fail
  obtain ⟨wF, hwF⟩ : ∃ wF, wF = (setL w2 (w.heap.size) 0 [.int .i64 0, .int .u8 0, .int .i64 0, .int .i64 0, .int .i64 0, .int .i64 0, .int .i64 0, .int .i64 0, .int .i64 0, .int .u64 0, .int .u64 1, .int .i64 0, .bool true]) := ⟨_, rfl⟩
  have kwF : Blk wF (w.heap.size) 97 #[.int .i64 0, .int .u8 0, .int .i64 0, .int .i64 0, .int .i64 0, .int .i64 0, .int .i64 0, .int .i64 0, .int .i64 0, .int .u64 0, .int .u64 1, .int .i64 0, .bool true] := by rw [hwF]; exact setL_all k2 _ rfl
  have bwF : Below w.heap.size w wF := by rw [hwF]; exact (setL_below hq2 (Nat.le_refl _) 0 _)
  simp only [setL, Nat.zero_add, Nat.reduceAdd] at hwF
  rw [← hwF]
  clear hwF
  have f0 := kwF.cell 0
  have f1 := kwF.cell 1
  have f2 := kwF.cell 2
  have f3 := kwF.cell 3
  have f4 := kwF.cell 4
  have f5 := kwF.cell 5
  have f6 := kwF.cell 6
  have f7 := kwF.cell 7
  have f8 := kwF.cell 8
  have f9 := kwF.cell 9
  have f10 := kwF.cell 10
  have f11 := kwF.cell 11
  have f12 := kwF.cell 12
  simp only [List.getElem?_toArray, List.getElem?_cons_zero, List.getElem?_cons_succ] at f0 f1 f2 f3 f4 f5 f6 f7 f8 f9 f10 f11 f12
  refine bodyPost_ret (v := .agg #[.int .i64 0, .int .u8 0, .int .i64 0, .int .i64 0, .int .i64 0, .int .i64 0, .int .i64 0, .int .i64 0, .int .i64 0, .int .u64 0, .int .u64 1, .int .i64 0, .bool true]) (by simp [results, Try.results39, go_sem, f0, f1, f2, f3, f4, f5, f6, f7, f8, f9, f10, f11, f12]) rfl ?_
  exact ⟨rfl, bwF⟩
end Go.Proofs.Ytphpfkhpihlalaa
