/- The walks of the store's Depth, Weight, Even, Len, Rule at a known ID. -/
import Derived.Test.YtphpfkhpihlalaaIn2
namespace Go.Proofs.Ytphpfkhpihlalaa
open Go.RowKit
@[go_sem] theorem fld_ru (a0 a1 a2 a3 a4 a5 a6 a7 a8 a9 a10 a11 a12 : Value) (w : World) : (Instr.field 97 (.agg #[a0, a1, a2, a3, a4, a5, a6, a7, a8, a9, a10, a11, a12]) 0).run Try.prog w = .ok (.agg #[a0, a1, a2, a3, a4]) w := by kernel_rfl
@[go_sem] theorem fld_wt (a0 a1 a2 a3 a4 a5 a6 a7 a8 a9 a10 a11 a12 : Value) (w : World) : (Instr.field 97 (.agg #[a0, a1, a2, a3, a4, a5, a6, a7, a8, a9, a10, a11, a12]) 1).run Try.prog w = .ok (.agg #[a5, a6, a7, a8, a9, a10]) w := by kernel_rfl
@[go_sem] theorem fld_dp (a0 a1 a2 a3 a4 a5 a6 a7 a8 a9 a10 a11 a12 : Value) (w : World) : (Instr.field 97 (.agg #[a0, a1, a2, a3, a4, a5, a6, a7, a8, a9, a10, a11, a12]) 2).run Try.prog w = .ok a11 w := by kernel_rfl
@[go_sem] theorem fld_ev (a0 a1 a2 a3 a4 a5 a6 a7 a8 a9 a10 a11 a12 : Value) (w : World) : (Instr.field 97 (.agg #[a0, a1, a2, a3, a4, a5, a6, a7, a8, a9, a10, a11, a12]) 3).run Try.prog w = .ok a12 w := by kernel_rfl
@[go_sem] theorem fld_len (a0 a1 a2 a3 a4 a5 : Value) (w : World) : (Instr.field 38 (.agg #[a0, a1, a2, a3, a4, a5]) 0).run Try.prog w = .ok a0 w := by kernel_rfl
@[go_sem] theorem fld_left (a0 a1 a2 a3 a4 : Value) (w : World) : (Instr.field 95 (.agg #[a0, a1, a2, a3, a4]) 2).run Try.prog w = .ok a2 w := by kernel_rfl
@[go_sem] theorem fld_right (a0 a1 a2 a3 a4 : Value) (w : World) : (Instr.field 95 (.agg #[a0, a1, a2, a3, a4]) 3).run Try.prog w = .ok a3 w := by kernel_rfl
set_option maxRecDepth 100000 in
theorem depth_any {w : World} {F : Nat → Prop} {p m : Nat} {E : List En} (h : StAt w F p m E) (id : Nat) (e : En) (he : atE E id = some e) : Calls Try.prog 13 #[ptr p, .int .i64 (id : Int)] w fun r w' => r = .returned (.tuple #[.int .i64 (e.depth : Int), .nilIface]) ∧ Below w.heap.size w w' := by
  have hle := atE_lt he
  have h1 := fun W (hb : Below w.heap.size w W) => known_yes (h.below hb) id hle
  have h2 := fun W (hb : Below w.heap.size w W) => at_any (h.below hb) id _ he
  obtain ⟨⟨k, b0, l, r, t⟩, ⟨n, nl, hd, tl, ⟨dv, ds⟩⟩, dp, ev, tx⟩ := e
  simp only [En.cells] at h2 ⊢
  clear he hle
  generalize (dv : Int) = dv at h2 ⊢
  generalize (ds : Int) = ds at h2 ⊢
  generalize (dp : Int) = dp at h2 ⊢
  unfold ptr at *
  go_enter Try.func13, Try.ntmps13
  go_wp2_with fail
  refine (h1 _ (Below.refl _ _)).mono ?_
  rintro _ _ ⟨rfl, rfl⟩
  go_wp2_with fail
  refine (h2 _ (Below.refl _ _)).mono ?_
  rintro _ w2 ⟨rfl, hb⟩
  go_wp2_with fail
  refine bodyPost_ret (v := .tuple #[.int .i64 dp, .nilIface]) (by simp [results, Try.results13, go_sem]) rfl ?_
  exact ⟨rfl, hb⟩
set_option maxRecDepth 100000 in
theorem even_any {w : World} {F : Nat → Prop} {p m : Nat} {E : List En} (h : StAt w F p m E) (id : Nat) (e : En) (he : atE E id = some e) : Calls Try.prog 43 #[ptr p, .int .i64 (id : Int)] w fun r w' => r = .returned (.bool e.even) ∧ Below w.heap.size w w' := by
  have hle := atE_lt he
  have h1 := fun W (hb : Below w.heap.size w W) => known_yes (h.below hb) id hle
  have h2 := fun W (hb : Below w.heap.size w W) => at_any (h.below hb) id _ he
  obtain ⟨⟨k, b0, l, r, t⟩, ⟨n, nl, hd, tl, ⟨dv, ds⟩⟩, dp, ev, tx⟩ := e
  simp only [En.cells] at h2 ⊢
  clear he hle
  generalize (dv : Int) = dv at h2 ⊢
  generalize (ds : Int) = ds at h2 ⊢
  generalize (dp : Int) = dp at h2 ⊢
  unfold ptr at *
  go_enter Try.func43, Try.ntmps43
  go_wp2_with fail
  refine (h1 _ (Below.refl _ _)).mono ?_
  rintro _ _ ⟨rfl, rfl⟩
  go_wp2_with fail
  refine (h2 _ (Below.refl _ _)).mono ?_
  rintro _ w2 ⟨rfl, hb⟩
  go_wp2_with fail
  go_ret
  exact ⟨rfl, hb⟩
theorem len_any {w : World} {F : Nat → Prop} {p m : Nat} {E : List En} (h : StAt w F p m E) : Calls Try.prog 15 #[ptr p] w fun r w' => r = .returned (.int .i64 (E.length : Int)) ∧ w' = w := by
  obtain ⟨g, A, c, h⟩ := h
  have c1 := h.blk.cell 1
  simp only [List.getElem?_toArray, List.getElem?_cons_zero, List.getElem?_cons_succ] at c1
  clear h
  unfold ptr
  go_enter Try.func15, Try.ntmps15
  go_wp2_with fail
  go_ret
  exact ⟨rfl, rfl⟩
set_option maxRecDepth 100000 in
set_option maxHeartbeats 1000000 in
theorem weight_any {w : World} {F : Nat → Prop} {p m : Nat} {E : List En} (h : StAt w F p m E) (id : Nat) (e : En) (he : atE E id = some e) : Calls Try.prog 14 #[ptr p, .int .i64 (id : Int)] w fun r w' => r = .returned (.tuple #[e.wt.val, .nilIface]) ∧ Below w.heap.size w w' := by
  have hle := atE_lt he
  have h1 := fun W (hb : Below w.heap.size w W) => known_yes (h.below hb) id hle
  have h2 := fun W (hb : Below w.heap.size w W) => at_any (h.below hb) id _ he
  obtain ⟨⟨k, b0, l, r, t⟩, ⟨n, nl, hd, tl, ⟨dv, ds⟩⟩, dp, ev, tx⟩ := e
  simp only [En.cells, Wt.val] at h2 ⊢
  clear he hle
  generalize (dv : Int) = dv at h2 ⊢
  generalize (ds : Int) = ds at h2 ⊢
  generalize (dp : Int) = dp at h2 ⊢
  unfold ptr at *
  have k1 := Blk.new w 38 #[.int .i64 0, .int .i64 0, .int .i64 0, .int .i64 0, .int .u64 0, .int .u64 0]
  have hb1 : Below w.heap.size w (w.alloc (.cells #[.int .i64 0, .int .i64 0, .int .i64 0, .int .i64 0, .int .u64 0, .int .u64 0] 38)) := (Below.refl _ _).alloc (Nat.le_refl _) _
  obtain ⟨w1, hw1⟩ : ∃ w1, w1 = w.alloc (.cells #[.int .i64 0, .int .i64 0, .int .i64 0, .int .i64 0, .int .u64 0, .int .u64 0] 38) := ⟨_, rfl⟩
  rw [← hw1] at k1 hb1
  have HW1 := Lib.hid hw1
  clear hw1
  go_enter Try.func14, Try.ntmps14
  go_upto_region 3 with (fail)
  rw [← HW1.out]
  clear HW1
  go_wp2_with fail
  refine (h1 _ hb1).mono ?_
  rintro _ _ ⟨rfl, rfl⟩
  go_wp2_with fail
  refine (h2 _ hb1).mono ?_
  rintro _ w2 ⟨rfl, hb⟩
  have k2 := k1.below hb k1.lt
  have hq2 := hb1.trans (hb.mono hb1.size)
  clear h1 h2 k1 hb
  have z0 := k2.cell 0
  have z1 := k2.cell 1
  have z2 := k2.cell 2
  have z3 := k2.cell 3
  have z4 := k2.cell 4
  have z5 := k2.cell 5
  simp only [List.getElem?_toArray, List.getElem?_cons_zero, List.getElem?_cons_succ] at z0 z1 z2 z3 z4 z5
  have q0 := k2.frozen 0
  have q1 := k2.frozen 1
  have q2 := k2.frozen 2
  have q3 := k2.frozen 3
  have q4 := k2.frozen 4
  have q5 := k2.frozen 5
  go_wp2_with fail
  obtain ⟨wF, hwF⟩ : ∃ wF, wF = (setL w2 (w.heap.size) 0 [.int .i64 n, .int .i64 nl, .int .i64 hd, .int .i64 tl, .int .u64 dv, .int .u64 ds]) := ⟨_, rfl⟩
  have kwF : Blk wF (w.heap.size) 38 #[.int .i64 n, .int .i64 nl, .int .i64 hd, .int .i64 tl, .int .u64 dv, .int .u64 ds] := by rw [hwF]; exact setL_all k2 _ rfl
  have bwF : Below w.heap.size w wF := by rw [hwF]; exact (setL_below hq2 (Nat.le_refl _) 0 _)
  simp only [setL, Nat.zero_add, Nat.reduceAdd] at hwF
  rw [← hwF]
  clear hwF
  have f0 := kwF.cell 0
  have f1 := kwF.cell 1
  have f2 := kwF.cell 2
  have f3 := kwF.cell 3
  have f4 := kwF.cell 4
  have f5 := kwF.cell 5
  simp only [List.getElem?_toArray, List.getElem?_cons_zero, List.getElem?_cons_succ] at f0 f1 f2 f3 f4 f5
  refine bodyPost_ret (v := .tuple #[.agg #[.int .i64 n, .int .i64 nl, .int .i64 hd, .int .i64 tl, .int .u64 dv, .int .u64 ds], .nilIface]) (by simp [results, Try.results14, go_sem, f0, f1, f2, f3, f4, f5]) rfl ?_
  exact ⟨rfl, bwF⟩
set_option maxRecDepth 100000 in
set_option maxHeartbeats 1000000 in
theorem rule_any {w : World} {F : Nat → Prop} {p m : Nat} {E : List En} (h : StAt w F p m E) (id : Nat) (e : En) (hp : 0 < id) (he : atE E id = some e) : Calls Try.prog 49 #[ptr p, .int .i64 (id : Int)] w fun r w' => r = .returned (.tuple #[encR e.ru, .nilIface]) ∧ Below w.heap.size w w' := by
  have hle := atE_lt he
  have h1 := fun W (hb : Below w.heap.size w W) => known_yes (h.below hb) id hle
  obtain ⟨i, rfl⟩ : ∃ i, id = i + 1 := ⟨id - 1, by omega⟩
  unfold atE at he
  rw [if_neg (by omega), Nat.add_sub_cancel] at he
  obtain ⟨g, A, c, h⟩ := h
  have hlen := h.len
  have hmost := h.most
  obtain ⟨b, rfl, hbl, -, hc⟩ := h.cells he
  obtain ⟨⟨k, b0, l, r, t⟩, ⟨n, nl, hd, tl, ⟨dv, ds⟩⟩, dp, ev, tx⟩ := e
  have kp := h.blk
  clear he h hp
  simp only [En.cells, List.getElem?_cons, encR] at hc ⊢
  unfold ptr at *
  have y0 := hc 0 _ rfl
  have y1 := hc 1 _ rfl
  have y2 := hc 2 _ rfl
  have y3 := hc 3 _ rfl
  have y4 := hc 4 _ rfl
  clear hc
  have i0 : (0 : Int) ≤ (i : Int) := by omega
  have i1 : (i : Int) < (E.length : Int) := by omega
  obtain ⟨x, hx⟩ : ∃ x : Int, x = ((i + 1 : Nat) : Int) := ⟨_, rfl⟩
  have hs : IntKind.i64.wrap (x - 1) = (i : Int) := by rw [IntWalk.i64_in _ (by omega)]; omega
  have hne : (x == 0) = false := by simp; omega
  rw [← hx] at h1 ⊢
  clear hx hle hlen hmost
  have k1 := Blk.new w 95 #[.int .i64 0, .int .u8 0, .int .i64 0, .int .i64 0, .int .i64 0]
  have hb1 : Below w.heap.size w (w.alloc (.cells #[.int .i64 0, .int .u8 0, .int .i64 0, .int .i64 0, .int .i64 0] 95)) := (Below.refl _ _).alloc (Nat.le_refl _) _
  obtain ⟨w1, hw1⟩ : ∃ w1, w1 = w.alloc (.cells #[.int .i64 0, .int .u8 0, .int .i64 0, .int .i64 0, .int .i64 0] 95) := ⟨_, rfl⟩
  rw [← hw1] at k1 hb1
  have HW1 := Lib.hid hw1
  clear hw1
  have c1 := (kp.below hb1 kp.lt).cell 1
  simp only [List.getElem?_toArray, List.getElem?_cons_zero, List.getElem?_cons_succ] at c1
  have x0 := (hb1.cell (p := ⟨b, i * 13, none⟩) hbl).trans y0
  have x1 := (hb1.cell (p := ⟨b, i * 13 + 1, none⟩) hbl).trans y1
  have x2 := (hb1.cell (p := ⟨b, i * 13 + 2, none⟩) hbl).trans y2
  have x3 := (hb1.cell (p := ⟨b, i * 13 + 3, none⟩) hbl).trans y3
  have x4 := (hb1.cell (p := ⟨b, i * 13 + 4, none⟩) hbl).trans y4
  clear kp hbl y0 y1 y2 y3 y4
  have z0 := k1.cell 0
  have z1 := k1.cell 1
  have z2 := k1.cell 2
  have z3 := k1.cell 3
  have z4 := k1.cell 4
  simp only [List.getElem?_toArray, List.getElem?_cons_zero, List.getElem?_cons_succ] at z0 z1 z2 z3 z4
  have q0 := k1.frozen 0
  have q1 := k1.frozen 1
  have q2 := k1.frozen 2
  have q3 := k1.frozen 3
  have q4 := k1.frozen 4
  go_enter Try.func49, Try.ntmps49
  go_upto_region 3 with (fail)
  rw [← HW1.out]
  clear HW1
  go_wp2_with fail
  refine (h1 _ hb1).mono ?_
  rintro _ w2 ⟨rfl, hw2⟩
  rw [hw2]
  clear h1 hw2 w2
  go_wp2_with fail
  obtain ⟨wF, hwF⟩ : ∃ wF, wF = (setL w1 (w.heap.size) 0 [.int .i64 k, .int .u8 b0, .int .i64 l, .int .i64 r, .int .i64 t]) := ⟨_, rfl⟩
  have kwF : Blk wF (w.heap.size) 95 #[.int .i64 k, .int .u8 b0, .int .i64 l, .int .i64 r, .int .i64 t] := by rw [hwF]; exact setL_all k1 _ rfl
  have bwF : Below w.heap.size w wF := by rw [hwF]; exact (setL_below hb1 (Nat.le_refl _) 0 _)
  simp only [setL, Nat.zero_add, Nat.reduceAdd] at hwF
  rw [← hwF]
  clear hwF
  have f0 := kwF.cell 0
  have f1 := kwF.cell 1
  have f2 := kwF.cell 2
  have f3 := kwF.cell 3
  have f4 := kwF.cell 4
  simp only [List.getElem?_toArray, List.getElem?_cons_zero, List.getElem?_cons_succ] at f0 f1 f2 f3 f4
  refine bodyPost_ret (v := .tuple #[.agg #[.int .i64 k, .int .u8 b0, .int .i64 l, .int .i64 r, .int .i64 t], .nilIface]) (by simp [results, Try.results49, go_sem, f0, f1, f2, f3, f4]) rfl ?_
  exact ⟨rfl, bwF⟩
end Go.Proofs.Ytphpfkhpihlalaa
