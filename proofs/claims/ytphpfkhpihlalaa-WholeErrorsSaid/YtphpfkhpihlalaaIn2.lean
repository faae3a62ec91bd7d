/- The walk of the store's at. -/
import Derived.Test.YtphpfkhpihlalaaIn1
namespace Go.Proofs.Ytphpfkhpihlalaa
open Go.RowKit
set_option maxRecDepth 100000 in
set_option maxHeartbeats 4000000 in
theorem at_some {w : World} {F : Nat → Prop} {p m : Nat} {E : List En} (h : StAt w F p m E) (i : Nat) (e : En) (he : E[i]? = some e) : Calls Try.prog 39 #[ptr p, .int .i64 ((i + 1 : Nat) : Int)] w fun r w' => r = .returned (.agg e.cells.toArray) ∧ Below w.heap.size w w' := by
  obtain ⟨g, A, c, h⟩ := h
  have hi : i < E.length := by
    rcases Nat.lt_or_ge i E.length with h1 | h1
    · exact h1
    · rw [List.getElem?_eq_none h1] at he; cases he
  have hlen := h.len
  have hmost := h.most
  obtain ⟨b, rfl, hbl, -, hc⟩ := h.cells he
  obtain ⟨⟨k, b0, l, r, t⟩, ⟨n, nl, hd, tl, ⟨dv, ds⟩⟩, dp, ev, tx⟩ := e
  have hp := h.blk.lt
  have kp := h.blk
  clear he h
  simp only [En.cells, List.getElem?_cons] at hc ⊢
  generalize (dv : Int) = dv at hc ⊢
  generalize (ds : Int) = ds at hc ⊢
  generalize (dp : Int) = dp at hc ⊢
  unfold ptr
  have y0 := hc 0 _ rfl
  have y1 := hc 1 _ rfl
  have y2 := hc 2 _ rfl
  have y3 := hc 3 _ rfl
  have y4 := hc 4 _ rfl
  have y5 := hc 5 _ rfl
  have y6 := hc 6 _ rfl
  have y7 := hc 7 _ rfl
  have y8 := hc 8 _ rfl
  have y9 := hc 9 _ rfl
  have y10 := hc 10 _ rfl
  have y11 := hc 11 _ rfl
  have y12 := hc 12 _ rfl
  clear hc
  have h0 : (0 : Int) ≤ (i : Int) := by omega
  have h1 : (i : Int) < (E.length : Int) := by omega
  obtain ⟨x, hx⟩ : ∃ x : Int, x = ((i + 1 : Nat) : Int) := ⟨_, rfl⟩
  have hs : IntKind.i64.wrap (x - 1) = (i : Int) := by rw [IntWalk.i64_in _ (by omega)]; omega
  have hne : (x == 0) = false := by simp; omega
  rw [← hx]
  clear hx hi hlen hmost
  have k1 := Blk.new w 97 #[.int .i64 0, .int .u8 0, .int .i64 0, .int .i64 0, .int .i64 0, .int .i64 0, .int .i64 0, .int .i64 0, .int .i64 0, .int .u64 0, .int .u64 0, .int .i64 0, .bool false]
  have hb1 : Below w.heap.size w (w.alloc (.cells #[.int .i64 0, .int .u8 0, .int .i64 0, .int .i64 0, .int .i64 0, .int .i64 0, .int .i64 0, .int .i64 0, .int .i64 0, .int .u64 0, .int .u64 0, .int .i64 0, .bool false] 97)) := (Below.refl _ _).alloc (Nat.le_refl _) _
  obtain ⟨w1, hw1⟩ : ∃ w1, w1 = w.alloc (.cells #[.int .i64 0, .int .u8 0, .int .i64 0, .int .i64 0, .int .i64 0, .int .i64 0, .int .i64 0, .int .i64 0, .int .i64 0, .int .u64 0, .int .u64 0, .int .i64 0, .bool false] 97) := ⟨_, rfl⟩
  rw [← hw1] at k1 hb1
  have HW1 := Lib.hid hw1
  clear hw1
  have c1 := (kp.below hb1 kp.lt).cell 1
  simp only [List.getElem?_toArray, List.getElem?_cons_zero, List.getElem?_cons_succ] at c1
  have x0 := (hb1.cell (p := ⟨b, i * 13, none⟩) hbl).trans y0
  have x1 := (hb1.cell (p := ⟨b, i * 13 + 1, none⟩) hbl).trans y1
  have x2 := (hb1.cell (p := ⟨b, i * 13 + 2, none⟩) hbl).trans y2
  have x3 := (hb1.cell (p := ⟨b, i * 13 + 3, none⟩) hbl).trans y3
  have x4 := (hb1.cell (p := ⟨b, i * 13 + 4, none⟩) hbl).trans y4
  have x5 := (hb1.cell (p := ⟨b, i * 13 + 5, none⟩) hbl).trans y5
  have x6 := (hb1.cell (p := ⟨b, i * 13 + 6, none⟩) hbl).trans y6
  have x7 := (hb1.cell (p := ⟨b, i * 13 + 7, none⟩) hbl).trans y7
  have x8 := (hb1.cell (p := ⟨b, i * 13 + 8, none⟩) hbl).trans y8
  have x9 := (hb1.cell (p := ⟨b, i * 13 + 9, none⟩) hbl).trans y9
  have x10 := (hb1.cell (p := ⟨b, i * 13 + 10, none⟩) hbl).trans y10
  have x11 := (hb1.cell (p := ⟨b, i * 13 + 11, none⟩) hbl).trans y11
  have x12 := (hb1.cell (p := ⟨b, i * 13 + 12, none⟩) hbl).trans y12
  clear kp hp hbl y0 y1 y2 y3 y4 y5 y6 y7 y8 y9 y10 y11 y12
  have z0 := k1.cell 0
  have z1 := k1.cell 1
  have z2 := k1.cell 2
  have z3 := k1.cell 3
  have z4 := k1.cell 4
  have z5 := k1.cell 5
  have z6 := k1.cell 6
  have z7 := k1.cell 7
  have z8 := k1.cell 8
  have z9 := k1.cell 9
  have z10 := k1.cell 10
  have z11 := k1.cell 11
  have z12 := k1.cell 12
  simp only [List.getElem?_toArray, List.getElem?_cons_zero, List.getElem?_cons_succ] at z0 z1 z2 z3 z4 z5 z6 z7 z8 z9 z10 z11 z12
  have q0 := k1.frozen 0
  have q1 := k1.frozen 1
  have q2 := k1.frozen 2
  have q3 := k1.frozen 3
  have q4 := k1.frozen 4
  have q5 := k1.frozen 5
  have q6 := k1.frozen 6
  have q7 := k1.frozen 7
  have q8 := k1.frozen 8
  have q9 := k1.frozen 9
  have q10 := k1.frozen 10
  have q11 := k1.frozen 11
  have q12 := k1.frozen 12
  go_enter Try.func39, Try.ntmps39
  go_upto_region 3 with (fail)
  rw [← HW1.out]
  clear HW1
  go_wp2_with fail
  obtain ⟨wF, hwF⟩ : ∃ wF, wF = (setL w1 (w.heap.size) 0 [.int .i64 k, .int .u8 b0, .int .i64 l, .int .i64 r, .int .i64 t, .int .i64 n, .int .i64 nl, .int .i64 hd, .int .i64 tl, .int .u64 dv, .int .u64 ds, .int .i64 dp, .bool ev]) := ⟨_, rfl⟩
  have kwF : Blk wF (w.heap.size) 97 #[.int .i64 k, .int .u8 b0, .int .i64 l, .int .i64 r, .int .i64 t, .int .i64 n, .int .i64 nl, .int .i64 hd, .int .i64 tl, .int .u64 dv, .int .u64 ds, .int .i64 dp, .bool ev] := by rw [hwF]; exact setL_all k1 _ rfl
  have bwF : Below w.heap.size w wF := by rw [hwF]; exact (setL_below hb1 (Nat.le_refl _) 0 _)
  simp only [setL, Nat.zero_add, Nat.reduceAdd] at hwF
  rw [← hwF]
  clear hwF
  have f0 := kwF.cell 0
  have f1 := kwF.cell 1
  have f2 := kwF.cell 2
  have f3 := kwF.cell 3
  have f4 := kwF.cell 4
  have f5 := kwF.cell 5
  have f6 := kwF.cell 6
  have f7 := kwF.cell 7
  have f8 := kwF.cell 8
  have f9 := kwF.cell 9
  have f10 := kwF.cell 10
  have f11 := kwF.cell 11
  have f12 := kwF.cell 12
  simp only [List.getElem?_toArray, List.getElem?_cons_zero, List.getElem?_cons_succ] at f0 f1 f2 f3 f4 f5 f6 f7 f8 f9 f10 f11 f12
  refine bodyPost_ret (v := .agg #[.int .i64 k, .int .u8 b0, .int .i64 l, .int .i64 r, .int .i64 t, .int .i64 n, .int .i64 nl, .int .i64 hd, .int .i64 tl, .int .u64 dv, .int .u64 ds, .int .i64 dp, .bool ev]) (by simp [results, Try.results39, go_sem, f0, f1, f2, f3, f4, f5, f6, f7, f8, f9, f10, f11, f12]) rfl ?_
  exact ⟨rfl, bwF⟩
theorem at_any {w : World} {F : Nat → Prop} {p m : Nat} {E : List En} (h : StAt w F p m E) (id : Nat) (e : En) (he : atE E id = some e) : Calls Try.prog 39 #[ptr p, .int .i64 (id : Int)] w fun r w' => r = .returned (.agg e.cells.toArray) ∧ Below w.heap.size w w' := by
  unfold atE at he
  split at he
  · rename_i h0; subst h0; cases he; exact at_none p w
  · obtain ⟨i, rfl⟩ : ∃ i, id = i + 1 := ⟨id - 1, by omega⟩
    exact at_some h i e he
end Go.Proofs.Ytphpfkhpihlalaa
