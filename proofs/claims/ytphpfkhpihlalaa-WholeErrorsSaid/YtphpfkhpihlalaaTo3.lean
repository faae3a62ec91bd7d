/- split.Section; the walks of evergreentop.made: its kinds 0, 1 and 3. -/
import Derived.Test.YtphpfkhpihlalaaTo2
import Derived.Lib.ConvBytes
import Derived.Laws.AppendOwn
namespace Go.Proofs.Ytphpfkhpihlalaa
open Go.RowKit
set_option maxRecDepth 100000 in
theorem Section_walk (p : Nat) (id f n total : Int) (w : World) {R : Option Nat → World → Prop} (g0 : ∀ W, Below w.heap.size w W → Calls Try.prog 40 #[ptr p, .int .i64 id] W fun e w' => e = .returned (.tuple #[.int .i64 total, .nilIface]) ∧ Below W.heap.size W w')
    (hr : ∀ W, Calls Try.prog 63 #[.int .i64 f, .int .i64 n, .int .i64 total] W fun e w' => e = .returned .nilIface ∧ w' = W)
    (g1 : ∀ W, Below w.heap.size w W → Calls Try.prog 98 #[ptr p, .int .i64 id, .int .i64 f, .int .i64 n] W (Ids R)) :
    Calls Try.prog 93 #[ptr p, .int .i64 id, .int .i64 f, .int .i64 n] w (Ids R) := by
  unfold ptr at *
  go_enter Try.func93, Try.ntmps93
  go_wp2_with fail
  refine (g0 _ (Below.refl _ _)).mono ?_
  rintro _ w1 ⟨rfl, hb1⟩
  have g5 := g1 _ hb1
  clear g0 g1 hb1
  go_wp2_with fail
  refine (hr _).mono ?_
  rintro _ wk ⟨rfl, hwk⟩
  rw [hwk]
  clear hwk wk hr
  go_wp2_with fail
  refine g5.mono ?_
  rintro _ w7 ⟨o, rfl, hr⟩
  have HR := Lib.hid hr
  clear hr g5
  cases o with
  | none =>
    unfold idV
    go_wp2_with fail
    refine bodyPost_ret (v := .tuple #[.int .i64 0, .iface 50 (.int .i64 3)]) (by simp [results, Try.results93, go_sem]) rfl ?_
    exact ⟨none, rfl, HR.out⟩
  | some r =>
    unfold idV
    go_wp2_with fail
    refine bodyPost_ret (v := .tuple #[.int .i64 (r : Int), .nilIface]) (by simp [results, Try.results93, go_sem]) rfl ?_
    exact ⟨some r, rfl, HR.out⟩
theorem Section_any {w : World} {F : Nat → Prop} {p m : Nat} {E : List En} (hE : EOk E) (h : StAt w F p m E) {id d : Nat} {t : List UInt8} (hx : TxO E id t d) (f n : Nat) (hn : f + n ≤ t.length) :
    Calls Try.prog 93 #[ptr p, .int .i64 (id : Int), .int .i64 (f : Int), .int .i64 (n : Int)] w (AvEnd 50 w F p m E 1480 (fun E' i => ∃ r, TxO E' i ((t.drop f).take n) r)) := by
  obtain ⟨z, hz, hzt, _, hze⟩ := hx.at_
  have hl : z.wt.len = (t.length : Int) := by rw [(hE.fit id z hz).length, hzt]
  have hc := check_tx h hz hze
  rw [hl] at hc
  have hlen := (hx.len hE).1
  exact (Section_walk p id f n t.length w hc (fun W => lrange_any f n t.length W (by omega) (by omega) (by omega) (by omega)) (fun W hW => (section_any hE (h.below hW) hx f n hn).mono fun e w' he => (he.over hW).ids)).mono fun _ _ he => he.av
theorem bytes_below (w : World) (e : TypeId) (s : ByteArray) : Below w.heap.size w (Lib.bytesWorld w e s) :=
  ⟨rfl, rfl, rfl, by rw [Lib.bytesWorld_size]; omega, fun k hk => Lib.bytesWorld_at_old w e s k hk⟩
theorem bytes_slB (w : World) (e : TypeId) (s : ByteArray) (F : Nat → Prop) (hF : ∀ i, F i → i < w.heap.size) : SlB (Lib.bytesWorld w e s) F w.heap.size 0 s.data.toList := by
  refine ⟨by rw [Lib.bytesWorld_size]; omega, fun h => by have := hF _ h; omega, fun i b hi => ?_⟩
  have hlt : i < s.size := by
    rcases Nat.lt_or_ge i s.data.toList.length with h | h
    · exact h
    · rw [List.getElem?_eq_none h] at hi; cases hi
  rw [Nat.zero_add, Lib.bytesWorld_cell w e s i hlt, List.getD, hi]
  rfl
set_option maxRecDepth 100000 in
theorem made_text (p : Nat) (kd ka kb kn km : Int) (tx : ByteArray) (A1 A2 : Option Addr) (k1 c1 k2 c2 : Nat) (w : World) {R : Option Nat → World → Prop} (h0 : kd % 6 = 0)
    (g : ∀ (W : World) (c : Nat), Below w.heap.size w W → tx.size ≤ c → Calls Try.prog 11 #[ptr p, .slice (some ⟨W.heap.size, 0, none⟩) tx.size c] (Lib.bytesWorld W 5 tx) (Ids R)) :
    Calls Try.prog 77 #[ptr p, .slice A1 k1 c1, .slice A2 k2 c2, .agg #[.int .i64 kd, .int .i64 ka, .int .i64 kb, .int .i64 kn, .int .i64 km, .string tx]] w (Ids R) := by
  have hk := fun W => at92_any kd 6 W (by omega) (by omega)
  rw [h0] at hk
  clear h0
  have hcv : ∀ W, (convert 9 22 (.string tx)).run Try.prog W = .ok (.slice (some ⟨W.heap.size, 0, none⟩) tx.size (grownCap W tx.size 0 5)) (Lib.bytesWorld W 5 tx) := fun W => Lib.run_convert_string_bytes W _ _ _ tx Try.underlying9 Try.underlying22 Try.underlying5
  have HB1 := Lib.hid ((Below.refl w.heap.size w).alloc (Nat.le_refl _) (.cells #[.int .i64 kd, .int .i64 ka, .int .i64 kb, .int .i64 kn, .int .i64 km, .string tx] 86))
  have HK := Lib.hid (Blk.new w 86 #[.int .i64 kd, .int .i64 ka, .int .i64 kb, .int .i64 kn, .int .i64 km, .string tx])
  obtain ⟨w1, hw1⟩ : ∃ w1, w1 = w.alloc (.cells #[.int .i64 kd, .int .i64 ka, .int .i64 kb, .int .i64 kn, .int .i64 km, .string tx] 86) := ⟨_, rfl⟩
  rw [← hw1] at HB1 HK
  have HW1 := Lib.hid hw1
  clear hw1
  unfold ptr at *
  go_enter Try.func77, Try.ntmps77
  go_upto_region 1 with (fail)
  rw [← HW1.out]
  clear HW1
  have z0 := HK.out.cell 0
  have z1 := HK.out.cell 1
  have z2 := HK.out.cell 2
  have z3 := HK.out.cell 3
  have z4 := HK.out.cell 4
  have z5 := HK.out.cell 5
  simp only [List.getElem?_toArray, List.getElem?_cons_zero, List.getElem?_cons_succ] at z0 z1 z2 z3 z4 z5
  go_wp2_with fail
  refine (hk _).mono ?_
  rintro _ wk ⟨rfl, hwk⟩
  rw [hwk]
  clear hwk wk hk
  have g5 := g _ _ HB1.out (grownCap_ge w1 tx.size 0 5)
  clear g
  go_wp2_with fail
  refine g5.mono ?_
  rintro _ w7 ⟨o, rfl, hr⟩
  have HR := Lib.hid hr
  clear hr g5
  cases o with
  | none =>
    unfold idV
    go_wp2_with fail
    refine bodyPost_ret (v := .tuple #[.int .i64 0, .iface 50 (.int .i64 3)]) (by simp [results, Try.results77, go_sem]) rfl ?_
    exact ⟨none, rfl, HR.out⟩
  | some r =>
    unfold idV
    go_wp2_with fail
    refine bodyPost_ret (v := .tuple #[.int .i64 (r : Int), .nilIface]) (by simp [results, Try.results77, go_sem]) rfl ?_
    exact ⟨some r, rfl, HR.out⟩
set_option maxRecDepth 100000 in
set_option maxHeartbeats 1000000 in
theorem made_join (p : Nat) (kd ka kb kn km : Int) (tx : ByteArray) (g1 o1 g2 o2 k c1 c2 : Nat) (w : World) {R : Option Nat → World → Prop} (a b : Int) (x : ByteArray) (h0 : kd % 6 = 1) (hk0 : 0 < k) (hk1 : k ≤ 1048576) (i j : Nat) (hi : ka % (k : Int) = (i : Int)) (hj : kb % (k : Int) = (j : Int))
    (ha1 : w.cell? ⟨g1, o1 + i, none⟩ = some (.int .i64 a)) (hb1 : w.cell? ⟨g1, o1 + j, none⟩ = some (.int .i64 b)) (hx1 : w.cell? ⟨g2, o2 + i, none⟩ = some (.string x)) (hg1 : g1 < w.heap.size) (hg2 : g2 < w.heap.size)
    (gg : ∀ W, Below w.heap.size w W → Calls Try.prog 17 #[ptr p, .int .i64 a, .int .i64 b] W (Ids R)) :
    Calls Try.prog 77 #[ptr p, .slice (some ⟨g1, o1, none⟩) k c1, .slice (some ⟨g2, o2, none⟩) k c2, .agg #[.int .i64 kd, .int .i64 ka, .int .i64 kb, .int .i64 kn, .int .i64 km, .string tx]] w (Ids R) := by
  have hk := fun W => at92_any kd 6 W (by omega) (by omega)
  rw [h0] at hk
  have ha := fun W => at92_any ka k W (by omega) (by omega)
  rw [hi] at ha
  have hb := fun W => at92_any kb k W (by omega) (by omega)
  rw [hj] at hb
  have hn := fun W => at92_any kn 7 W (by omega) (by omega)
  generalize kn % 7 = n at *
  have hik : i < k := by have := Int.emod_lt_of_pos ka (show (0 : Int) < k by omega); omega
  have hjk : j < k := by have := Int.emod_lt_of_pos kb (show (0 : Int) < k by omega); omega
  have hkz : ((k : Int) == 0) = false := by simp; omega
  have i0 : (0 : Int) ≤ (i : Int) := by omega
  have i1 : (i : Int) < (k : Int) := by omega
  have j0 : (0 : Int) ≤ (j : Int) := by omega
  have j1 : (j : Int) < (k : Int) := by omega
  clear h0 hi hj hk0 hk1 hik hjk
  have HB1 := Lib.hid ((Below.refl w.heap.size w).alloc (Nat.le_refl _) (.cells #[.int .i64 kd, .int .i64 ka, .int .i64 kb, .int .i64 kn, .int .i64 km, .string tx] 86))
  have HK := Lib.hid (Blk.new w 86 #[.int .i64 kd, .int .i64 ka, .int .i64 kb, .int .i64 kn, .int .i64 km, .string tx])
  obtain ⟨w1, hw1⟩ : ∃ w1, w1 = w.alloc (.cells #[.int .i64 kd, .int .i64 ka, .int .i64 kb, .int .i64 kn, .int .i64 km, .string tx] 86) := ⟨_, rfl⟩
  rw [← hw1] at HB1 HK
  have HW1 := Lib.hid hw1
  clear hw1
  unfold ptr at *
  go_enter Try.func77, Try.ntmps77
  go_upto_region 1 with (fail)
  rw [← HW1.out]
  clear HW1
  have z0 := HK.out.cell 0
  have z1 := HK.out.cell 1
  have z2 := HK.out.cell 2
  have z3 := HK.out.cell 3
  have z4 := HK.out.cell 4
  have z5 := HK.out.cell 5
  simp only [List.getElem?_toArray, List.getElem?_cons_zero, List.getElem?_cons_succ] at z0 z1 z2 z3 z4 z5
  go_wp2_with fail
  refine (hk _).mono ?_
  rintro _ wk ⟨rfl, hwk⟩
  rw [hwk]
  clear hwk wk hk
  have x0 := (HB1.out.cell (p := ⟨g1, o1 + i, none⟩) hg1).trans ha1
  have x1 := (HB1.out.cell (p := ⟨g1, o1 + j, none⟩) hg1).trans hb1
  have x2 := (HB1.out.cell (p := ⟨g2, o2 + i, none⟩) hg2).trans hx1
  go_wp2_with fail
  go_quiet (first
    | (go_at_call 92; with_reducible exact Calls.quiet_of_same (ha _))
    | (go_at_call 92; with_reducible exact Calls.quiet_of_same (hb _)))
  have HB2 := Lib.hid (below_drewN HB1.out nq)
  have HK2 := Lib.hid (HK.out.drewN nq)
  have HX2 := Lib.hid (show (w1.drewN nq).cell? ⟨g2, o2 + i, none⟩ = some (.string x) from x2)
  obtain ⟨w2, hw2⟩ : ∃ w2, w2 = w1.drewN nq := ⟨_, rfl⟩
  rw [← hw2] at HB2 HK2 HX2 ⊢
  clear hw2 hb x0 x1 x2 z0 z1 z2 z3 z4 z5 ha1 hb1 hx1 j0 j1 HB1 HK
  have z1 := HK2.out.cell 1
  have z3 := HK2.out.cell 3
  have z4 := HK2.out.cell 4
  simp only [List.getElem?_toArray, List.getElem?_cons_zero, List.getElem?_cons_succ] at z1 z3 z4
  have x2 := HX2.out
  go_wp2_with fail
  refine (ha _).mono ?_
  rintro _ wk ⟨rfl, hwk⟩
  rw [hwk]
  clear hwk wk ha
  go_wp2_with fail
  refine (hn _).mono ?_
  rintro _ wk ⟨rfl, hwk⟩
  rw [hwk]
  clear hwk wk hn
  have g5 := gg _ HB2.out
  clear gg x2 i0 i1 z1 z3 z4
  go_wp2_with fail
  refine g5.mono ?_
  rintro _ w7 ⟨o, rfl, hr⟩
  have HR := Lib.hid hr
  clear hr g5
  cases o with
  | none =>
    unfold idV
    go_wp2_with fail
    refine bodyPost_ret (v := .tuple #[.int .i64 0, .iface 50 (.int .i64 3)]) (by simp [results, Try.results77, go_sem]) rfl ?_
    exact ⟨none, rfl, HR.out⟩
  | some r =>
    unfold idV
    go_wp2_with fail
    refine bodyPost_ret (v := .tuple #[.int .i64 (r : Int), .nilIface]) (by simp [results, Try.results77, go_sem]) rfl ?_
    exact ⟨some r, rfl, HR.out⟩
set_option maxRecDepth 100000 in
set_option maxHeartbeats 1000000 in
theorem made_sect (p : Nat) (kd ka kb kn km : Int) (tx : ByteArray) (g1 o1 g2 o2 k c1 c2 : Nat) (w : World) {R : Option Nat → World → Prop} (a b : Int) (x : ByteArray) (h0 : kd % 6 = 3) (hk0 : 0 < k) (hk1 : k ≤ 1048576) (i j : Nat) (hi : ka % (k : Int) = (i : Int)) (hj : kb % (k : Int) = (j : Int))
    (ha1 : w.cell? ⟨g1, o1 + i, none⟩ = some (.int .i64 a)) (hb1 : w.cell? ⟨g1, o1 + j, none⟩ = some (.int .i64 b)) (hx1 : w.cell? ⟨g2, o2 + i, none⟩ = some (.string x)) (hg1 : g1 < w.heap.size) (hg2 : g2 < w.heap.size)
    (hl : x.size ≤ 400) (f q : Nat) (h3 : kn % ((x.size : Int) + 1) = (f : Int)) (h4 : km % ((x.size : Int) - (f : Int) + 1) = (q : Int)) (hfx : f ≤ x.size)
    (gg : ∀ W, Below w.heap.size w W → Calls Try.prog 93 #[ptr p, .int .i64 a, .int .i64 (f : Int), .int .i64 (q : Int)] W (Ids R)) :
    Calls Try.prog 77 #[ptr p, .slice (some ⟨g1, o1, none⟩) k c1, .slice (some ⟨g2, o2, none⟩) k c2, .agg #[.int .i64 kd, .int .i64 ka, .int .i64 kb, .int .i64 kn, .int .i64 km, .string tx]] w (Ids R) := by
  have hk := fun W => at92_any kd 6 W (by omega) (by omega)
  rw [h0] at hk
  have ha := fun W => at92_any ka k W (by omega) (by omega)
  rw [hi] at ha
  have hb := fun W => at92_any kb k W (by omega) (by omega)
  rw [hj] at hb
  have hn := fun W => at92_any kn 7 W (by omega) (by omega)
  have hf := fun W => at92_any kn ((x.size : Int) + 1) W (by omega) (by omega)
  rw [h3] at hf
  have hq := fun W => at92_any km ((x.size : Int) - (f : Int) + 1) W (by omega) (by omega)
  rw [h4] at hq
  have l1 : IntKind.i64.wrap ((x.size : Int) + 1) = (x.size : Int) + 1 := IntWalk.i64_in _ (by omega)
  have l2 : IntKind.i64.wrap ((x.size : Int) - (f : Int)) = (x.size : Int) - (f : Int) := IntWalk.i64_in _ (by omega)
  have l3 : IntKind.i64.wrap ((x.size : Int) - (f : Int) + 1) = (x.size : Int) - (f : Int) + 1 := IntWalk.i64_in _ (by omega)
  generalize kn % 7 = n at *
  have hik : i < k := by have := Int.emod_lt_of_pos ka (show (0 : Int) < k by omega); omega
  have hjk : j < k := by have := Int.emod_lt_of_pos kb (show (0 : Int) < k by omega); omega
  have hkz : ((k : Int) == 0) = false := by simp; omega
  have i0 : (0 : Int) ≤ (i : Int) := by omega
  have i1 : (i : Int) < (k : Int) := by omega
  have j0 : (0 : Int) ≤ (j : Int) := by omega
  have j1 : (j : Int) < (k : Int) := by omega
  clear h0 hi hj hk0 hk1 hik hjk
  have HB1 := Lib.hid ((Below.refl w.heap.size w).alloc (Nat.le_refl _) (.cells #[.int .i64 kd, .int .i64 ka, .int .i64 kb, .int .i64 kn, .int .i64 km, .string tx] 86))
  have HK := Lib.hid (Blk.new w 86 #[.int .i64 kd, .int .i64 ka, .int .i64 kb, .int .i64 kn, .int .i64 km, .string tx])
  obtain ⟨w1, hw1⟩ : ∃ w1, w1 = w.alloc (.cells #[.int .i64 kd, .int .i64 ka, .int .i64 kb, .int .i64 kn, .int .i64 km, .string tx] 86) := ⟨_, rfl⟩
  rw [← hw1] at HB1 HK
  have HW1 := Lib.hid hw1
  clear hw1
  unfold ptr at *
  go_enter Try.func77, Try.ntmps77
  go_upto_region 1 with (fail)
  rw [← HW1.out]
  clear HW1
  have z0 := HK.out.cell 0
  have z1 := HK.out.cell 1
  have z2 := HK.out.cell 2
  have z3 := HK.out.cell 3
  have z4 := HK.out.cell 4
  have z5 := HK.out.cell 5
  simp only [List.getElem?_toArray, List.getElem?_cons_zero, List.getElem?_cons_succ] at z0 z1 z2 z3 z4 z5
  go_wp2_with fail
  refine (hk _).mono ?_
  rintro _ wk ⟨rfl, hwk⟩
  rw [hwk]
  clear hwk wk hk
  have x0 := (HB1.out.cell (p := ⟨g1, o1 + i, none⟩) hg1).trans ha1
  have x1 := (HB1.out.cell (p := ⟨g1, o1 + j, none⟩) hg1).trans hb1
  have x2 := (HB1.out.cell (p := ⟨g2, o2 + i, none⟩) hg2).trans hx1
  go_wp2_with fail
  go_quiet (first
    | (go_at_call 92; with_reducible exact Calls.quiet_of_same (ha _))
    | (go_at_call 92; with_reducible exact Calls.quiet_of_same (hb _)))
  have HB2 := Lib.hid (below_drewN HB1.out nq)
  have HK2 := Lib.hid (HK.out.drewN nq)
  have HX2 := Lib.hid (show (w1.drewN nq).cell? ⟨g2, o2 + i, none⟩ = some (.string x) from x2)
  obtain ⟨w2, hw2⟩ : ∃ w2, w2 = w1.drewN nq := ⟨_, rfl⟩
  rw [← hw2] at HB2 HK2 HX2 ⊢
  clear hw2 hb x0 x1 x2 z0 z1 z2 z3 z4 z5 ha1 hb1 hx1 j0 j1 HB1 HK
  have z1 := HK2.out.cell 1
  have z3 := HK2.out.cell 3
  have z4 := HK2.out.cell 4
  simp only [List.getElem?_toArray, List.getElem?_cons_zero, List.getElem?_cons_succ] at z1 z3 z4
  have x2 := HX2.out
  go_wp2_with fail
  refine (ha _).mono ?_
  rintro _ wk ⟨rfl, hwk⟩
  rw [hwk]
  clear hwk wk ha
  go_wp2_with fail
  refine (hn _).mono ?_
  rintro _ wk ⟨rfl, hwk⟩
  rw [hwk]
  clear hwk wk hn
  go_wp2_with fail
  refine (hf _).mono ?_
  rintro _ wk ⟨rfl, hwk⟩
  rw [hwk]
  clear hwk wk hf
  go_wp2_with fail
  refine (hq _).mono ?_
  rintro _ wk ⟨rfl, hwk⟩
  rw [hwk]
  clear hwk wk hq
  have g5 := gg _ HB2.out
  clear gg x2 i0 i1 z1 z3 z4
  go_wp2_with fail
  refine g5.mono ?_
  rintro _ w7 ⟨o, rfl, hr⟩
  have HR := Lib.hid hr
  clear hr g5
  cases o with
  | none =>
    unfold idV
    go_wp2_with fail
    refine bodyPost_ret (v := .tuple #[.int .i64 0, .iface 50 (.int .i64 3)]) (by simp [results, Try.results77, go_sem]) rfl ?_
    exact ⟨none, rfl, HR.out⟩
  | some r =>
    unfold idV
    go_wp2_with fail
    refine bodyPost_ret (v := .tuple #[.int .i64 (r : Int), .nilIface]) (by simp [results, Try.results77, go_sem]) rfl ?_
    exact ⟨some r, rfl, HR.out⟩
end Go.Proofs.Ytphpfkhpihlalaa
