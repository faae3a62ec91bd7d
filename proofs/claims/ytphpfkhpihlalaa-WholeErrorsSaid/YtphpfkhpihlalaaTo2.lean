/- The walks of evergreentop.plain: its kinds 0, 1 and 3. -/
import Derived.Test.YtphpfkhpihlalaaTo1
import Derived.Laws.Strings2
namespace Go.Proofs.Ytphpfkhpihlalaa
open Go.RowKit
set_option maxRecDepth 100000 in
theorem plain_text (kd ka kb kn km : Int) (tx : ByteArray) (A : Option Addr) (k c : Nat) (w : World) (h0 : kd % 6 = 0) (h1 : tx.size ≤ 60) :
    Calls Try.prog 76 #[.slice A k c, .agg #[.int .i64 kd, .int .i64 ka, .int .i64 kb, .int .i64 kn, .int .i64 km, .string tx]] w fun e w' => e = .returned (.tuple #[.string tx, .bool true]) ∧ Below w.heap.size w w' := by
  have hk := fun W => at92_any kd 6 W (by omega) (by omega)
  rw [h0] at hk
  have h2 : (tx.size : Int) ≤ 60 := by omega
  clear h0 h1
  have HB1 := Lib.hid ((Below.refl w.heap.size w).alloc (Nat.le_refl _) (.cells #[.int .i64 kd, .int .i64 ka, .int .i64 kb, .int .i64 kn, .int .i64 km, .string tx] 86))
  have HK := Lib.hid (Blk.new w 86 #[.int .i64 kd, .int .i64 ka, .int .i64 kb, .int .i64 kn, .int .i64 km, .string tx])
  obtain ⟨w1, hw1⟩ : ∃ w1, w1 = w.alloc (.cells #[.int .i64 kd, .int .i64 ka, .int .i64 kb, .int .i64 kn, .int .i64 km, .string tx] 86) := ⟨_, rfl⟩
  rw [← hw1] at HB1 HK
  have HW1 := Lib.hid hw1
  clear hw1
  go_enter Try.func76, Try.ntmps76
  go_upto_region 1 with (fail)
  rw [← HW1.out]
  clear HW1
  have z0 := HK.out.cell 0
  have z1 := HK.out.cell 1
  have z2 := HK.out.cell 2
  have z3 := HK.out.cell 3
  have z4 := HK.out.cell 4
  have z5 := HK.out.cell 5
  simp only [List.getElem?_toArray, List.getElem?_cons_zero, List.getElem?_cons_succ] at z0 z1 z2 z3 z4 z5
  go_wp2_with fail
  refine (hk _).mono ?_
  rintro _ wk ⟨rfl, hwk⟩
  rw [hwk]
  clear hwk wk hk
  go_wp2_with fail
  go_quiet (fail)
  go_wp2_with fail
  refine bodyPost_ret (v := .tuple #[.string tx, .bool true]) (by simp [results, Try.results76, go_sem]) rfl ?_
  exact ⟨rfl, below_drewN HB1.out _⟩
set_option maxRecDepth 100000 in
set_option maxHeartbeats 1000000 in
theorem plain_join (kd ka kb kn km : Int) (tx : ByteArray) (g o k c : Nat) (w : World) (x y : ByteArray) (h0 : kd % 6 = 1) (hk0 : 0 < k) (hk1 : k ≤ 1048576) (i j : Nat) (hi : ka % (k : Int) = (i : Int)) (hj : kb % (k : Int) = (j : Int)) (hx : w.cell? ⟨g, o + i, none⟩ = some (.string x)) (hy : w.cell? ⟨g, o + j, none⟩ = some (.string y)) (hg : g < w.heap.size) (hl : x.size + y.size ≤ 400) :
    Calls Try.prog 76 #[.slice (some ⟨g, o, none⟩) k c, .agg #[.int .i64 kd, .int .i64 ka, .int .i64 kb, .int .i64 kn, .int .i64 km, .string tx]] w fun e w' => e = .returned (.tuple #[.string (x ++ y), .bool true]) ∧ Below w.heap.size w w' := by
  have hk := fun W => at92_any kd 6 W (by omega) (by omega)
  rw [h0] at hk
  have ha := fun W => at92_any ka k W (by omega) (by omega)
  rw [hi] at ha
  have hb := fun W => at92_any kb k W (by omega) (by omega)
  rw [hj] at hb
  have hn := fun W => at92_any kn 7 W (by omega) (by omega)
  generalize kn % 7 = n at hn
  have hik : i < k := by have := Int.emod_lt_of_pos ka (show (0 : Int) < k by omega); omega
  have hjk : j < k := by have := Int.emod_lt_of_pos kb (show (0 : Int) < k by omega); omega
  have hkz : ((k : Int) == 0) = false := by simp; omega
  have i0 : (0 : Int) ≤ (i : Int) := by omega
  have i1 : (i : Int) < (k : Int) := by omega
  have j0 : (0 : Int) ≤ (j : Int) := by omega
  have j1 : (j : Int) < (k : Int) := by omega
  have l1 : IntKind.i64.wrap ((x.size : Int) + (y.size : Int)) = (x.size : Int) + (y.size : Int) := IntWalk.i64_in _ (by omega)
  have l2 : (x.size : Int) + (y.size : Int) ≤ 400 := by omega
  clear h0 hi hj hk0 hk1 hik hjk
  have HB1 := Lib.hid ((Below.refl w.heap.size w).alloc (Nat.le_refl _) (.cells #[.int .i64 kd, .int .i64 ka, .int .i64 kb, .int .i64 kn, .int .i64 km, .string tx] 86))
  have HK := Lib.hid (Blk.new w 86 #[.int .i64 kd, .int .i64 ka, .int .i64 kb, .int .i64 kn, .int .i64 km, .string tx])
  obtain ⟨w1, hw1⟩ : ∃ w1, w1 = w.alloc (.cells #[.int .i64 kd, .int .i64 ka, .int .i64 kb, .int .i64 kn, .int .i64 km, .string tx] 86) := ⟨_, rfl⟩
  rw [← hw1] at HB1 HK
  have HW1 := Lib.hid hw1
  clear hw1
  go_enter Try.func76, Try.ntmps76
  go_upto_region 1 with (fail)
  rw [← HW1.out]
  clear HW1
  have z0 := HK.out.cell 0
  have z1 := HK.out.cell 1
  have z2 := HK.out.cell 2
  have z3 := HK.out.cell 3
  have z4 := HK.out.cell 4
  have z5 := HK.out.cell 5
  simp only [List.getElem?_toArray, List.getElem?_cons_zero, List.getElem?_cons_succ] at z0 z1 z2 z3 z4 z5
  go_wp2_with fail
  refine (hk _).mono ?_
  rintro _ wk ⟨rfl, hwk⟩
  rw [hwk]
  clear hwk wk hk
  have x0 := (HB1.out.cell (p := ⟨g, o + i, none⟩) hg).trans hx
  have y0 := (HB1.out.cell (p := ⟨g, o + j, none⟩) hg).trans hy
  go_wp2_with fail
  go_quiet (first
    | (go_at_call 92; with_reducible exact Calls.quiet_of_same (ha _))
    | (go_at_call 92; with_reducible exact Calls.quiet_of_same (hb _)))
  have HB2 := Lib.hid (below_drewN HB1.out nq)
  have HK2 := Lib.hid (HK.out.drewN nq)
  obtain ⟨w2, hw2⟩ : ∃ w2, w2 = w1.drewN nq := ⟨_, rfl⟩
  rw [← hw2] at HB2 HK2 ⊢
  clear hw2 ha hb x0 y0 z0 z1 z2 z3 z4 z5 hx hy i0 i1 j0 j1 HB1 HK
  have z3 := HK2.out.cell 3
  have z4 := HK2.out.cell 4
  simp only [List.getElem?_toArray, List.getElem?_cons_zero, List.getElem?_cons_succ] at z3 z4
  go_wp2_with fail
  refine (hn _).mono ?_
  rintro _ wk ⟨rfl, hwk⟩
  rw [hwk]
  clear hwk wk hn
  go_wp2_with fail
  refine bodyPost_ret (v := .tuple #[.string (x ++ y), .bool true]) (by simp [results, Try.results76, go_sem]) rfl ?_
  exact ⟨rfl, HB2.out⟩
set_option maxRecDepth 100000 in
set_option maxHeartbeats 1000000 in
theorem plain_sect (kd ka kb kn km : Int) (tx : ByteArray) (g o k c : Nat) (w : World) (x y : ByteArray) (h0 : kd % 6 = 3) (hk0 : 0 < k) (hk1 : k ≤ 1048576) (i j : Nat) (hi : ka % (k : Int) = (i : Int)) (hj : kb % (k : Int) = (j : Int)) (hx : w.cell? ⟨g, o + i, none⟩ = some (.string x)) (hy : w.cell? ⟨g, o + j, none⟩ = some (.string y)) (hg : g < w.heap.size) (hl : x.size ≤ 400) (f q : Nat) (h3 : kn % ((x.size : Int) + 1) = (f : Int)) (h4 : km % ((x.size : Int) - (f : Int) + 1) = (q : Int)) (hfx : f ≤ x.size) :
    Calls Try.prog 76 #[.slice (some ⟨g, o, none⟩) k c, .agg #[.int .i64 kd, .int .i64 ka, .int .i64 kb, .int .i64 kn, .int .i64 km, .string tx]] w fun e w' => e = .returned (.tuple #[.string (x.extract f (f + q)), .bool true]) ∧ Below w.heap.size w w' := by
  have hk := fun W => at92_any kd 6 W (by omega) (by omega)
  rw [h0] at hk
  have ha := fun W => at92_any ka k W (by omega) (by omega)
  rw [hi] at ha
  have hb := fun W => at92_any kb k W (by omega) (by omega)
  rw [hj] at hb
  have hn := fun W => at92_any kn 7 W (by omega) (by omega)
  generalize kn % 7 = n at hn
  have hik : i < k := by have := Int.emod_lt_of_pos ka (show (0 : Int) < k by omega); omega
  have hjk : j < k := by have := Int.emod_lt_of_pos kb (show (0 : Int) < k by omega); omega
  have hkz : ((k : Int) == 0) = false := by simp; omega
  have i0 : (0 : Int) ≤ (i : Int) := by omega
  have i1 : (i : Int) < (k : Int) := by omega
  have j0 : (0 : Int) ≤ (j : Int) := by omega
  have j1 : (j : Int) < (k : Int) := by omega
  have hf := fun W => at92_any kn ((x.size : Int) + 1) W (by omega) (by omega)
  rw [h3] at hf
  have hq := fun W => at92_any km ((x.size : Int) - (f : Int) + 1) W (by omega) (by omega)
  rw [h4] at hq
  have hq2 : f + q ≤ x.size := by have := Int.emod_lt_of_pos km (show (0 : Int) < (x.size : Int) - (f : Int) + 1 by omega); omega
  have l1 : IntKind.i64.wrap ((x.size : Int) + 1) = (x.size : Int) + 1 := IntWalk.i64_in _ (by omega)
  have l2 : IntKind.i64.wrap ((x.size : Int) - (f : Int)) = (x.size : Int) - (f : Int) := IntWalk.i64_in _ (by omega)
  have l3 : IntKind.i64.wrap ((x.size : Int) - (f : Int) + 1) = (x.size : Int) - (f : Int) + 1 := IntWalk.i64_in _ (by omega)
  have l4 : IntKind.i64.wrap ((f : Int) + (q : Int)) = ((f + q : Nat) : Int) := by rw [IntWalk.i64_in _ (by omega)]; omega
  have hsl := fun W => run_slice_string (P := Try.prog) W 9 x .i64 .i64 (f : Int) ((f + q : Nat) : Int) Try.underlying9 (by omega) (by omega) (by omega)
  simp only [Int.toNat_natCast] at hsl
  clear h0 hi hj hk0 hk1 hik hjk
  have HB1 := Lib.hid ((Below.refl w.heap.size w).alloc (Nat.le_refl _) (.cells #[.int .i64 kd, .int .i64 ka, .int .i64 kb, .int .i64 kn, .int .i64 km, .string tx] 86))
  have HK := Lib.hid (Blk.new w 86 #[.int .i64 kd, .int .i64 ka, .int .i64 kb, .int .i64 kn, .int .i64 km, .string tx])
  obtain ⟨w1, hw1⟩ : ∃ w1, w1 = w.alloc (.cells #[.int .i64 kd, .int .i64 ka, .int .i64 kb, .int .i64 kn, .int .i64 km, .string tx] 86) := ⟨_, rfl⟩
  rw [← hw1] at HB1 HK
  have HW1 := Lib.hid hw1
  clear hw1
  go_enter Try.func76, Try.ntmps76
  go_upto_region 1 with (fail)
  rw [← HW1.out]
  clear HW1
  have z0 := HK.out.cell 0
  have z1 := HK.out.cell 1
  have z2 := HK.out.cell 2
  have z3 := HK.out.cell 3
  have z4 := HK.out.cell 4
  have z5 := HK.out.cell 5
  simp only [List.getElem?_toArray, List.getElem?_cons_zero, List.getElem?_cons_succ] at z0 z1 z2 z3 z4 z5
  go_wp2_with fail
  refine (hk _).mono ?_
  rintro _ wk ⟨rfl, hwk⟩
  rw [hwk]
  clear hwk wk hk
  have x0 := (HB1.out.cell (p := ⟨g, o + i, none⟩) hg).trans hx
  have y0 := (HB1.out.cell (p := ⟨g, o + j, none⟩) hg).trans hy
  go_wp2_with fail
  go_quiet (first
    | (go_at_call 92; with_reducible exact Calls.quiet_of_same (ha _))
    | (go_at_call 92; with_reducible exact Calls.quiet_of_same (hb _)))
  have HB2 := Lib.hid (below_drewN HB1.out nq)
  have HK2 := Lib.hid (HK.out.drewN nq)
  obtain ⟨w2, hw2⟩ : ∃ w2, w2 = w1.drewN nq := ⟨_, rfl⟩
  rw [← hw2] at HB2 HK2 ⊢
  clear hw2 ha hb x0 y0 z0 z1 z2 z3 z4 z5 hx hy i0 i1 j0 j1 HB1 HK
  have z3 := HK2.out.cell 3
  have z4 := HK2.out.cell 4
  simp only [List.getElem?_toArray, List.getElem?_cons_zero, List.getElem?_cons_succ] at z3 z4
  go_wp2_with fail
  refine (hn _).mono ?_
  rintro _ wk ⟨rfl, hwk⟩
  rw [hwk]
  clear hwk wk hn
  go_wp2_with fail
  refine (hf _).mono ?_
  rintro _ wk ⟨rfl, hwk⟩
  rw [hwk]
  clear hwk wk hf
  go_wp2_with fail
  refine (hq _).mono ?_
  rintro _ wk ⟨rfl, hwk⟩
  rw [hwk]
  clear hwk wk hq
  go_wp2_with fail
  refine bodyPost_ret (v := .tuple #[.string (x.extract f (f + q)), .bool true]) (by simp [results, Try.results76, go_sem]) rfl ?_
  exact ⟨rfl, HB2.out⟩
end Go.Proofs.Ytphpfkhpihlalaa
