/- What the program answers where an ID is unknown, or where there is no store. -/
import Derived.Test.YtphpfkhpihlalaaAcc
namespace Go.Proofs.Ytphpfkhpihlalaa
open Go.RowKit
set_option maxRecDepth 100000 in
theorem depth_no {w : World} {F : Nat → Prop} {p m : Nat} {E : List En} (h : StAt w F p m E) (id : Int) (hi : id < 0 ∨ (E.length : Int) < id) : Calls Try.prog 13 #[ptr p, .int .i64 id] w fun e w' => e = .returned (.tuple #[.int .i64 0, .iface 50 (.int .i64 1)]) ∧ Below w.heap.size w w' := by
  have hk := known_no h id hi
  unfold ptr at *
  clear h hi
  go_enter Try.func13, Try.ntmps13
  go_wp2_with fail
  refine hk.mono ?_
  rintro _ wk ⟨rfl, hwk⟩
  rw [hwk]
  clear hwk wk hk
  go_wp2_with fail
  refine bodyPost_ret (v := .tuple #[.int .i64 0, .iface 50 (.int .i64 1)]) (by simp [results, Try.results13, go_sem]) rfl ?_
  exact ⟨rfl, Below.refl _ _⟩
theorem depth_nil (id : Int) (w : World) : Calls Try.prog 13 #[.pointer none, .int .i64 id] w fun e w' => e = .returned (.tuple #[.int .i64 0, .iface 50 (.int .i64 5)]) ∧ Below w.heap.size w w' := by
  go_enter Try.func13, Try.ntmps13
  go_wp2_with fail
  refine bodyPost_ret (v := .tuple #[.int .i64 0, .iface 50 (.int .i64 5)]) (by simp [results, Try.results13, go_sem]) rfl ?_
  exact ⟨rfl, Below.refl _ _⟩
set_option maxRecDepth 100000 in
set_option maxHeartbeats 1000000 in
theorem weight_no {w : World} {F : Nat → Prop} {p m : Nat} {E : List En} (h : StAt w F p m E) (id : Int) (hi : id < 0 ∨ (E.length : Int) < id) : Calls Try.prog 14 #[ptr p, .int .i64 id] w fun e w' => e = .returned (.tuple #[.agg #[.int .i64 0, .int .i64 0, .int .i64 0, .int .i64 0, .int .u64 0, .int .u64 0], .iface 50 (.int .i64 1)]) ∧ Below w.heap.size w w' := by
  have HB1 := Lib.hid ((Below.refl w.heap.size w).alloc (Nat.le_refl _) (.cells #[.int .i64 0, .int .i64 0, .int .i64 0, .int .i64 0, .int .u64 0, .int .u64 0] 38))
  have HK := Lib.hid (Blk.new w 38 #[.int .i64 0, .int .i64 0, .int .i64 0, .int .i64 0, .int .u64 0, .int .u64 0])
  have hk := known_no (h.below HB1.out) id hi
  clear h hi
  obtain ⟨w1, hw1⟩ : ∃ w1, w1 = w.alloc (.cells #[.int .i64 0, .int .i64 0, .int .i64 0, .int .i64 0, .int .u64 0, .int .u64 0] 38) := ⟨_, rfl⟩
  rw [← hw1] at HB1 HK hk
  have HW1 := Lib.hid hw1
  clear hw1
  have z0 := HK.out.cell 0
  have z1 := HK.out.cell 1
  have z2 := HK.out.cell 2
  have z3 := HK.out.cell 3
  have z4 := HK.out.cell 4
  have z5 := HK.out.cell 5
  simp only [List.getElem?_toArray, List.getElem?_cons_zero, List.getElem?_cons_succ] at z0 z1 z2 z3 z4 z5
  have q0 := HK.out.frozen 0
  have q1 := HK.out.frozen 1
  have q2 := HK.out.frozen 2
  have q3 := HK.out.frozen 3
  have q4 := HK.out.frozen 4
  have q5 := HK.out.frozen 5
  unfold ptr at *
  go_enter Try.func14, Try.ntmps14
  go_upto_region 1 with (fail)
  rw [← HW1.out]
  clear HW1

  go_wp2_with fail
  refine hk.mono ?_
  rintro _ wk ⟨rfl, hwk⟩
  rw [hwk]
  clear hwk wk hk
  go_wp2_with fail
  obtain ⟨wF, hwF⟩ : ∃ wF, wF = (setL w1 (w.heap.size) 0 [.int .i64 0, .int .i64 0, .int .i64 0, .int .i64 0, .int .u64 0, .int .u64 0]) := ⟨_, rfl⟩
  have kwF : Blk wF (w.heap.size) 38 #[.int .i64 0, .int .i64 0, .int .i64 0, .int .i64 0, .int .u64 0, .int .u64 0] := by rw [hwF]; exact setL_all HK.out _ rfl
  have bwF : Below w.heap.size w wF := by rw [hwF]; exact (setL_below HB1.out (Nat.le_refl _) 0 _)
  simp only [setL, Nat.zero_add, Nat.reduceAdd] at hwF
  rw [← hwF]
  clear hwF
  have f0 := kwF.cell 0
  have f1 := kwF.cell 1
  have f2 := kwF.cell 2
  have f3 := kwF.cell 3
  have f4 := kwF.cell 4
  have f5 := kwF.cell 5
  simp only [List.getElem?_toArray, List.getElem?_cons_zero, List.getElem?_cons_succ] at f0 f1 f2 f3 f4 f5
  refine bodyPost_ret (v := .tuple #[.agg #[.int .i64 0, .int .i64 0, .int .i64 0, .int .i64 0, .int .u64 0, .int .u64 0], .iface 50 (.int .i64 1)]) (by simp [results, Try.results14, go_sem, f0, f1, f2, f3, f4, f5]) rfl ?_
  exact ⟨rfl, bwF⟩
set_option maxRecDepth 100000 in
set_option maxHeartbeats 1000000 in
theorem weight_nil (id : Int) (w : World) : Calls Try.prog 14 #[.pointer none, .int .i64 id] w fun e w' => e = .returned (.tuple #[.agg #[.int .i64 0, .int .i64 0, .int .i64 0, .int .i64 0, .int .u64 0, .int .u64 0], .iface 50 (.int .i64 5)]) ∧ Below w.heap.size w w' := by
  have HB1 := Lib.hid ((Below.refl w.heap.size w).alloc (Nat.le_refl _) (.cells #[.int .i64 0, .int .i64 0, .int .i64 0, .int .i64 0, .int .u64 0, .int .u64 0] 38))
  have HK := Lib.hid (Blk.new w 38 #[.int .i64 0, .int .i64 0, .int .i64 0, .int .i64 0, .int .u64 0, .int .u64 0])
  obtain ⟨w1, hw1⟩ : ∃ w1, w1 = w.alloc (.cells #[.int .i64 0, .int .i64 0, .int .i64 0, .int .i64 0, .int .u64 0, .int .u64 0] 38) := ⟨_, rfl⟩
  rw [← hw1] at HB1 HK
  have HW1 := Lib.hid hw1
  clear hw1
  have z0 := HK.out.cell 0
  have z1 := HK.out.cell 1
  have z2 := HK.out.cell 2
  have z3 := HK.out.cell 3
  have z4 := HK.out.cell 4
  have z5 := HK.out.cell 5
  simp only [List.getElem?_toArray, List.getElem?_cons_zero, List.getElem?_cons_succ] at z0 z1 z2 z3 z4 z5
  have q0 := HK.out.frozen 0
  have q1 := HK.out.frozen 1
  have q2 := HK.out.frozen 2
  have q3 := HK.out.frozen 3
  have q4 := HK.out.frozen 4
  have q5 := HK.out.frozen 5
  unfold ptr at *
  go_enter Try.func14, Try.ntmps14
  go_upto_region 1 with (fail)
  rw [← HW1.out]
  clear HW1

  go_wp2_with fail
  obtain ⟨wF, hwF⟩ : ∃ wF, wF = (setL w1 (w.heap.size) 0 [.int .i64 0, .int .i64 0, .int .i64 0, .int .i64 0, .int .u64 0, .int .u64 0]) := ⟨_, rfl⟩
  have kwF : Blk wF (w.heap.size) 38 #[.int .i64 0, .int .i64 0, .int .i64 0, .int .i64 0, .int .u64 0, .int .u64 0] := by rw [hwF]; exact setL_all HK.out _ rfl
  have bwF : Below w.heap.size w wF := by rw [hwF]; exact (setL_below HB1.out (Nat.le_refl _) 0 _)
  simp only [setL, Nat.zero_add, Nat.reduceAdd] at hwF
  rw [← hwF]
  clear hwF
  have f0 := kwF.cell 0
  have f1 := kwF.cell 1
  have f2 := kwF.cell 2
  have f3 := kwF.cell 3
  have f4 := kwF.cell 4
  have f5 := kwF.cell 5
  simp only [List.getElem?_toArray, List.getElem?_cons_zero, List.getElem?_cons_succ] at f0 f1 f2 f3 f4 f5
  refine bodyPost_ret (v := .tuple #[.agg #[.int .i64 0, .int .i64 0, .int .i64 0, .int .i64 0, .int .u64 0, .int .u64 0], .iface 50 (.int .i64 5)]) (by simp [results, Try.results14, go_sem, f0, f1, f2, f3, f4, f5]) rfl ?_
  exact ⟨rfl, bwF⟩
set_option maxRecDepth 100000 in
theorem balanced_err (v : Value) (id ec : Int) (w : World) (g : ∀ W, Below w.heap.size w W → Calls Try.prog 13 #[v, .int .i64 id] W fun e w' => e = .returned (.tuple #[.int .i64 0, .iface 50 (.int .i64 ec)]) ∧ Below W.heap.size W w') :
    Calls Try.prog 18 #[v, .int .i64 id] w fun e w' => e = .returned (.tuple #[.bool false, .iface 50 (.int .i64 ec)]) ∧ Below w.heap.size w w' := by
  go_enter Try.func18, Try.ntmps18
  go_wp2_with fail
  refine (g _ (Below.refl _ _)).mono ?_
  rintro _ w1 ⟨rfl, hb1⟩
  have HB1 := Lib.hid hb1
  clear hb1 g
  go_wp2_with fail
  refine bodyPost_ret (v := .tuple #[.bool false, .iface 50 (.int .i64 ec)]) (by simp [results, Try.results18, go_sem]) rfl ?_
  exact ⟨rfl, HB1.out⟩
set_option maxRecDepth 100000 in
theorem check_err (v : Value) (id ec : Int) (w : World) (g : ∀ W, Below w.heap.size w W → Calls Try.prog 18 #[v, .int .i64 id] W fun e w' => e = .returned (.tuple #[.bool false, .iface 50 (.int .i64 ec)]) ∧ Below W.heap.size W w') :
    Calls Try.prog 40 #[v, .int .i64 id] w fun e w' => e = .returned (.tuple #[.int .i64 0, .iface 50 (.int .i64 ec)]) ∧ Below w.heap.size w w' := by
  go_enter Try.func40, Try.ntmps40
  go_wp2_with fail
  refine (g _ (Below.refl _ _)).mono ?_
  rintro _ w1 ⟨rfl, hb1⟩
  have HB1 := Lib.hid hb1
  clear hb1 g
  go_wp2_with fail
  refine bodyPost_ret (v := .tuple #[.int .i64 0, .iface 50 (.int .i64 ec)]) (by simp [results, Try.results40, go_sem]) rfl ?_
  exact ⟨rfl, HB1.out⟩
set_option maxRecDepth 100000 in
theorem of_err (v : Value) (id ec : Int) (w : World) (g : ∀ W, Below w.heap.size w W → Calls Try.prog 18 #[v, .int .i64 id] W fun e w' => e = .returned (.tuple #[.bool false, .iface 50 (.int .i64 ec)]) ∧ Below W.heap.size W w') :
    Calls Try.prog 27 #[v, .int .i64 id] w fun e w' => e = .returned (.tuple #[.int .i64 0, .iface 50 (.int .i64 ec)]) ∧ Below w.heap.size w w' := by
  go_enter Try.func27, Try.ntmps27
  go_wp2_with fail
  refine (g _ (Below.refl _ _)).mono ?_
  rintro _ w1 ⟨rfl, hb1⟩
  have HB1 := Lib.hid hb1
  clear hb1 g
  go_wp2_with fail
  refine bodyPost_ret (v := .tuple #[.int .i64 0, .iface 50 (.int .i64 ec)]) (by simp [results, Try.results27, go_sem]) rfl ?_
  exact ⟨rfl, HB1.out⟩
set_option maxRecDepth 100000 in
theorem split_err (v : Value) (id ec : Int) (k : Int) (w : World) (g : ∀ W, Below w.heap.size w W → Calls Try.prog 40 #[v, .int .i64 id] W fun e w' => e = .returned (.tuple #[.int .i64 0, .iface 50 (.int .i64 ec)]) ∧ Below W.heap.size W w') :
    Calls Try.prog 16 #[v, .int .i64 id, .int .i64 k] w fun e w' => e = .returned (.tuple #[.int .i64 0, .int .i64 0, .iface 50 (.int .i64 ec)]) ∧ Below w.heap.size w w' := by
  go_enter Try.func16, Try.ntmps16
  go_wp2_with fail
  refine (g _ (Below.refl _ _)).mono ?_
  rintro _ w1 ⟨rfl, hb1⟩
  have HB1 := Lib.hid hb1
  clear hb1 g
  go_wp2_with fail
  refine bodyPost_ret (v := .tuple #[.int .i64 0, .int .i64 0, .iface 50 (.int .i64 ec)]) (by simp [results, Try.results16, go_sem]) rfl ?_
  exact ⟨rfl, HB1.out⟩
set_option maxRecDepth 100000 in
theorem at_err (v : Value) (id ec : Int) (k : Int) (w : World) (g : ∀ W, Below w.heap.size w W → Calls Try.prog 14 #[v, .int .i64 id] W fun e w' => e = .returned (.tuple #[.agg #[.int .i64 0, .int .i64 0, .int .i64 0, .int .i64 0, .int .u64 0, .int .u64 0], .iface 50 (.int .i64 ec)]) ∧ Below W.heap.size W w') :
    Calls Try.prog 21 #[v, .int .i64 id, .int .i64 k] w fun e w' => e = .returned (.tuple #[.int .u8 0, .iface 50 (.int .i64 ec)]) ∧ Below w.heap.size w w' := by
  go_enter Try.func21, Try.ntmps21
  go_wp2_with fail
  refine (g _ (Below.refl _ _)).mono ?_
  rintro _ w1 ⟨rfl, hb1⟩
  have HB1 := Lib.hid hb1
  clear hb1 g
  go_upto_region 2 with (fail)
  have HB2 := Lib.hid (HB1.out.alloc HB1.out.size (.cells #[.int .i64 0, .int .i64 0, .int .i64 0, .int .i64 0, .int .u64 0, .int .u64 0] 38))
  have HK := Lib.hid (Blk.new w1 38 #[.int .i64 0, .int .i64 0, .int .i64 0, .int .i64 0, .int .u64 0, .int .u64 0])
  obtain ⟨w2, hw2⟩ : ∃ w2, w2 = w1.alloc (.cells #[.int .i64 0, .int .i64 0, .int .i64 0, .int .i64 0, .int .u64 0, .int .u64 0] 38) := ⟨_, rfl⟩
  rw [← hw2] at HB2 HK ⊢
  clear hw2
  go_wp2_with fail
  refine bodyPost_ret (v := .tuple #[.int .u8 0, .iface 50 (.int .i64 ec)]) (by simp [results, Try.results21, go_sem]) rfl ?_
  exact ⟨rfl, HB2.out⟩
set_option maxRecDepth 100000 in
theorem cursor_err (v : Value) (id ec : Int) (w : World) (g : ∀ W, Below w.heap.size w W → Calls Try.prog 14 #[v, .int .i64 id] W fun e w' => e = .returned (.tuple #[.agg #[.int .i64 0, .int .i64 0, .int .i64 0, .int .i64 0, .int .u64 0, .int .u64 0], .iface 50 (.int .i64 ec)]) ∧ Below W.heap.size W w') :
    Calls Try.prog 28 #[v, .int .i64 id] w fun e w' => e = .returned (.tuple #[.pointer none, .iface 50 (.int .i64 ec)]) ∧ Below w.heap.size w w' := by
  go_enter Try.func28, Try.ntmps28
  go_wp2_with fail
  refine (g _ (Below.refl _ _)).mono ?_
  rintro _ w1 ⟨rfl, hb1⟩
  have HB1 := Lib.hid hb1
  clear hb1 g
  go_upto_region 2 with (fail)
  have HB2 := Lib.hid (HB1.out.alloc HB1.out.size (.cells #[.int .i64 0, .int .i64 0, .int .i64 0, .int .i64 0, .int .u64 0, .int .u64 0] 38))
  have HK := Lib.hid (Blk.new w1 38 #[.int .i64 0, .int .i64 0, .int .i64 0, .int .i64 0, .int .u64 0, .int .u64 0])
  obtain ⟨w2, hw2⟩ : ∃ w2, w2 = w1.alloc (.cells #[.int .i64 0, .int .i64 0, .int .i64 0, .int .i64 0, .int .u64 0, .int .u64 0] 38) := ⟨_, rfl⟩
  rw [← hw2] at HB2 HK ⊢
  clear hw2
  go_wp2_with fail
  refine bodyPost_ret (v := .tuple #[.pointer none, .iface 50 (.int .i64 ec)]) (by simp [results, Try.results28, go_sem]) rfl ?_
  exact ⟨rfl, HB2.out⟩
set_option maxRecDepth 100000 in
theorem count_err (v : Value) (id ec : Int) (w : World) (g : ∀ W, Below w.heap.size w W → Calls Try.prog 14 #[v, .int .i64 id] W fun e w' => e = .returned (.tuple #[.agg #[.int .i64 0, .int .i64 0, .int .i64 0, .int .i64 0, .int .u64 0, .int .u64 0], .iface 50 (.int .i64 ec)]) ∧ Below W.heap.size W w') :
    Calls Try.prog 29 #[v, .int .i64 id] w fun e w' => e = .returned (.tuple #[.int .i64 0, .iface 50 (.int .i64 ec)]) ∧ Below w.heap.size w w' := by
  go_enter Try.func29, Try.ntmps29
  go_wp2_with fail
  refine (g _ (Below.refl _ _)).mono ?_
  rintro _ w1 ⟨rfl, hb1⟩
  have HB1 := Lib.hid hb1
  clear hb1 g
  go_upto_region 2 with (fail)
  have HB2 := Lib.hid (HB1.out.alloc HB1.out.size (.cells #[.int .i64 0, .int .i64 0, .int .i64 0, .int .i64 0, .int .u64 0, .int .u64 0] 38))
  have HK := Lib.hid (Blk.new w1 38 #[.int .i64 0, .int .i64 0, .int .i64 0, .int .i64 0, .int .u64 0, .int .u64 0])
  obtain ⟨w2, hw2⟩ : ∃ w2, w2 = w1.alloc (.cells #[.int .i64 0, .int .i64 0, .int .i64 0, .int .i64 0, .int .u64 0, .int .u64 0] 38) := ⟨_, rfl⟩
  rw [← hw2] at HB2 HK ⊢
  clear hw2
  go_wp2_with fail
  refine bodyPost_ret (v := .tuple #[.int .i64 0, .iface 50 (.int .i64 ec)]) (by simp [results, Try.results29, go_sem]) rfl ?_
  exact ⟨rfl, HB2.out⟩
set_option maxRecDepth 100000 in
theorem join_err1 (v : Value) (id ec : Int) (k : Int) (w : World) (g : ∀ W, Below w.heap.size w W → Calls Try.prog 14 #[v, .int .i64 id] W fun e w' => e = .returned (.tuple #[.agg #[.int .i64 0, .int .i64 0, .int .i64 0, .int .i64 0, .int .u64 0, .int .u64 0], .iface 50 (.int .i64 ec)]) ∧ Below W.heap.size W w') :
    Calls Try.prog 17 #[v, .int .i64 id, .int .i64 k] w fun e w' => e = .returned (.tuple #[.int .i64 0, .iface 50 (.int .i64 ec)]) ∧ Below w.heap.size w w' := by
  go_enter Try.func17, Try.ntmps17
  go_wp2_with fail
  refine (g _ (Below.refl _ _)).mono ?_
  rintro _ w1 ⟨rfl, hb1⟩
  have HB1 := Lib.hid hb1
  clear hb1 g
  go_upto_region 2 with (fail)
  have HB2 := Lib.hid (HB1.out.alloc HB1.out.size (.cells #[.int .i64 0, .int .i64 0, .int .i64 0, .int .i64 0, .int .u64 0, .int .u64 0] 38))
  have HK := Lib.hid (Blk.new w1 38 #[.int .i64 0, .int .i64 0, .int .i64 0, .int .i64 0, .int .u64 0, .int .u64 0])
  obtain ⟨w2, hw2⟩ : ∃ w2, w2 = w1.alloc (.cells #[.int .i64 0, .int .i64 0, .int .i64 0, .int .i64 0, .int .u64 0, .int .u64 0] 38) := ⟨_, rfl⟩
  rw [← hw2] at HB2 HK ⊢
  clear hw2
  go_wp2_with fail
  refine bodyPost_ret (v := .tuple #[.int .i64 0, .iface 50 (.int .i64 ec)]) (by simp [results, Try.results17, go_sem]) rfl ?_
  exact ⟨rfl, HB2.out⟩
set_option maxRecDepth 100000 in
theorem join_err2 (v : Value) (a id ec : Int) (x : Wt) (w : World) (g0 : ∀ W, Below w.heap.size w W → Calls Try.prog 14 #[v, .int .i64 a] W fun e w' => e = .returned (.tuple #[x.val, .nilIface]) ∧ Below W.heap.size W w') (g : ∀ W, Below w.heap.size w W → Calls Try.prog 14 #[v, .int .i64 id] W fun e w' => e = .returned (.tuple #[.agg #[.int .i64 0, .int .i64 0, .int .i64 0, .int .i64 0, .int .u64 0, .int .u64 0], .iface 50 (.int .i64 ec)]) ∧ Below W.heap.size W w') :
    Calls Try.prog 17 #[v, .int .i64 a, .int .i64 id] w fun e w' => e = .returned (.tuple #[.int .i64 0, .iface 50 (.int .i64 ec)]) ∧ Below w.heap.size w w' := by
  obtain ⟨xn, xl, xh, xt, ⟨xv, xs⟩⟩ := x
  simp only [Wt.val] at g0
  generalize (xv : Int) = xv at g0
  generalize (xs : Int) = xs at g0
  go_enter Try.func17, Try.ntmps17
  go_wp2_with fail
  refine (g0 _ (Below.refl _ _)).mono ?_
  rintro _ w1 ⟨rfl, hb1⟩
  have HB1 := Lib.hid hb1
  clear hb1 g0
  go_upto_region 4 with (fail)
  have HB2 := Lib.hid (HB1.out.alloc HB1.out.size (.cells #[.int .i64 xn, .int .i64 xl, .int .i64 xh, .int .i64 xt, .int .u64 xv, .int .u64 xs] 38))
  obtain ⟨w2, hw2⟩ : ∃ w2, w2 = w1.alloc (.cells #[.int .i64 xn, .int .i64 xl, .int .i64 xh, .int .i64 xt, .int .u64 xv, .int .u64 xs] 38) := ⟨_, rfl⟩
  rw [← hw2] at HB2 ⊢
  clear hw2
  go_wp2_with fail
  refine (g _ HB2.out).mono ?_
  rintro _ w3 ⟨rfl, hb3⟩
  have HB3 := Lib.hid (HB2.out.trans (hb3.mono HB2.out.size))
  clear hb3 g HB1 HB2
  go_upto_region 5 with (fail)
  have HB4 := Lib.hid (HB3.out.alloc HB3.out.size (.cells #[.int .i64 0, .int .i64 0, .int .i64 0, .int .i64 0, .int .u64 0, .int .u64 0] 38))
  obtain ⟨w4, hw4⟩ : ∃ w4, w4 = w3.alloc (.cells #[.int .i64 0, .int .i64 0, .int .i64 0, .int .i64 0, .int .u64 0, .int .u64 0] 38) := ⟨_, rfl⟩
  rw [← hw4] at HB4 ⊢
  clear hw4
  go_wp2_with fail
  refine bodyPost_ret (v := .tuple #[.int .i64 0, .iface 50 (.int .i64 ec)]) (by simp [results, Try.results17, go_sem]) rfl ?_
  exact ⟨rfl, HB4.out⟩
set_option maxRecDepth 100000 in
theorem wknown_err (v : Value) (id ec : Int) (w : World) (g : ∀ W, Below w.heap.size w W → Calls Try.prog 14 #[v, .int .i64 id] W fun e w' => e = .returned (.tuple #[.agg #[.int .i64 0, .int .i64 0, .int .i64 0, .int .i64 0, .int .u64 0, .int .u64 0], .iface 50 (.int .i64 ec)]) ∧ Below W.heap.size W w') :
    Calls Try.prog 57 #[v, .int .i64 id] w fun e w' => e = .returned (.tuple #[.int .i64 0, .bool false]) ∧ Below w.heap.size w w' := by
  go_enter Try.func57, Try.ntmps57
  go_wp2_with fail
  refine (g _ (Below.refl _ _)).mono ?_
  rintro _ w1 ⟨rfl, hb1⟩
  have HB1 := Lib.hid hb1
  clear hb1 g
  go_upto_region 2 with (fail)
  have HB2 := Lib.hid (HB1.out.alloc HB1.out.size (.cells #[.int .i64 0, .int .i64 0, .int .i64 0, .int .i64 0, .int .u64 0, .int .u64 0] 38))
  have HK := Lib.hid (Blk.new w1 38 #[.int .i64 0, .int .i64 0, .int .i64 0, .int .i64 0, .int .u64 0, .int .u64 0])
  obtain ⟨w2, hw2⟩ : ∃ w2, w2 = w1.alloc (.cells #[.int .i64 0, .int .i64 0, .int .i64 0, .int .i64 0, .int .u64 0, .int .u64 0] 38) := ⟨_, rfl⟩
  rw [← hw2] at HB2 HK ⊢
  clear hw2
  have z0 := HK.out.cell 0
  simp only [List.getElem?_toArray, List.getElem?_cons_zero, List.getElem?_cons_succ] at z0
  go_quiet (fail)
  go_wp2_with fail
  refine bodyPost_ret (v := .tuple #[.int .i64 0, .bool false]) (by simp [results, Try.results57, go_sem]) rfl ?_
  exact ⟨rfl, below_drewN HB2.out _⟩
set_option maxRecDepth 100000 in
theorem letters_err (a : Option Addr) (id k : Int) (w : World) (g : ∀ W, Below w.heap.size w W → Calls Try.prog 57 #[.pointer a, .int .i64 id] W fun e w' => e = .returned (.tuple #[.int .i64 0, .bool false]) ∧ Below W.heap.size W w') :
    Calls Try.prog 30 #[.pointer a, .int .i64 id, .int .i64 k] w fun e w' => e = .returned (.func (.func 58) #[] #[]) ∧ Below w.heap.size w w' := by
  obtain ⟨w1, hw1⟩ : ∃ w1, w1 = ((w.alloc (.cells #[.pointer a] 24)).alloc (.cells #[.int .i64 id] 26)).alloc (.cells #[.int .i64 k] 3) := ⟨_, rfl⟩
  have HB1 : Hid (Below w.heap.size w w1) := Lib.hid (by rw [hw1]; exact (((Below.refl _ _).alloc (Nat.le_refl _) _).alloc (by simp) _).alloc (by simp; omega) _)
  have H0 : Hid (Blk w1 w.heap.size 24 #[.pointer a]) := Lib.hid (by rw [hw1]; exact ((Blk.new _ _ _).alloc _).alloc _)
  have H1 : Hid (Blk w1 (w.heap.size + 1) 26 #[.int .i64 id]) := Lib.hid (by rw [hw1]; have := Blk.new (w.alloc (.cells #[.pointer a] 24)) 26 #[.int .i64 id]; rw [alloc_heap] at this; exact this.alloc _)
  have x0 := H0.out.cell 0
  have x1 := H1.out.cell 0
  simp only [List.getElem?_toArray, List.getElem?_cons_zero] at x0 x1
  have HW1 := Lib.hid hw1
  clear hw1
  go_enter Try.func30, Try.ntmps30
  go_upto_region 1 with (fail)
  rw [← HW1.out]
  clear HW1
  go_wp2_with fail
  refine (g _ HB1.out).mono ?_
  rintro _ w2 ⟨rfl, hb2⟩
  have HB2 := Lib.hid (HB1.out.trans (hb2.mono HB1.out.size))
  clear g hb2
  go_wp2_with fail
  refine bodyPost_ret (v := .func (.func 58) #[] #[]) (by simp [results, Try.results30, go_sem]) rfl ?_
  exact ⟨rfl, HB2.out⟩
end Go.Proofs.Ytphpfkhpihlalaa
