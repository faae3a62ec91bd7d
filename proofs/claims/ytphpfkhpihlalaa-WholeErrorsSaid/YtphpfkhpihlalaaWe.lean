/- The law WholeErrors. -/
import Derived.Test.YtphpfkhpihlalaaEr1
import Derived.RangeFuncFrom
import Derived.RangeFuncLeaves
namespace Go.Proofs.Ytphpfkhpihlalaa
open Go.RowKit
theorem calls_marks {P : Program} {f : FuncId} {fn : Func} {c : Code} {args : Array Value} {w : World} {R : Ending → World → Prop} (hf : P.funcs[f]? = some fn) (hb : fn.body = some c)
    (h : c.wp P (bodyPostM Fence.wide 3 P fn R) { tmps := args ++ Array.replicate (fn.ntmps - args.size) undef, defers := [] } w) : Calls P f args w R :=
  (callsIn_wide (n := 3)).1 (callsIn_of_wp_marks (F := Fence.wide) (n := 3) hf hb trivial (wpIn_wide.2 h))
theorem bodyM_ret {P : Program} {fn : Func} {R : Ending → World → Prop} {a : Act} {w : World} {v : Value} (hd : a.defers = []) (hr : (results fn a.tmps).run P w = .ok v w) (hR : R (.returned v) w) : bodyPostM Fence.wide 3 P fn R .ret a w := by
  show LeavesInM Fence.wide 3 P fn a.tmps R a.defers .returning w
  rw [hd]
  exact ⟨v, hr, hR⟩
theorem bodyM_mark {P : Program} {fn : Func} {R : Ending → World → Prop} {a : Act} {w : World} {v : Value} {D : Nat} (hd : a.defers = [{ target := .collected D, args := #[] }]) (hk : w.heap[D]? = some (.deferred (some []))) (hr : (results fn a.tmps).run P (w.putObj D (.deferred none)) = .ok v (w.putObj D (.deferred none))) (hR : R (.returned v) (w.putObj D (.deferred none))) : bodyPostM Fence.wide 3 P fn R .ret a w := by
  show LeavesInM Fence.wide 3 P fn a.tmps R a.defers .returning w
  rw [hd]
  exact ⟨by simp, .inl ⟨D, _, rfl, run_takeDeferred hk, v, hr, hR⟩⟩
theorem keepD {W W' : World} {D : Nat} {o : Obj} (h : W.heap[D]? = some o) (hb : Below W.heap.size W W') : W'.heap[D]? = some o := (hb.block D (Array.getElem?_eq_some_iff.1 h).1).trans h
theorem empty58 (x : Value) (w : World) : Calls Try.prog 58 #[x] w fun e w' => (∃ v, e = .returned v) ∧ w' = w := by
  go_enter Try.func58, Try.ntmps58
  go_wp2_with fail
  exact bodyPost_end (results_none rfl _ _ _) rfl ⟨⟨_, rfl⟩, rfl⟩
set_option maxRecDepth 100000 in
set_option maxHeartbeats 8000000 in
theorem errors_any (id : Int) (w : World) : Calls Try.prog 7 #[.int .i64 id] w fun e w' => e = .returned (.bool true) ∧ Below w.heap.size w w' := by
  obtain ⟨w0, hw0⟩ : ∃ w0, w0 = w.alloc (.cells #[.bool false] 4) := ⟨_, rfl⟩
  have hk0 : Blk w0 w.heap.size 4 #[.bool false] := by rw [hw0]; exact Blk.new _ _ _
  have hb0 : Below w.heap.size w w0 := by rw [hw0]; exact (Below.refl _ _).alloc (Nat.le_refl _) _
  have hs0 : w0.heap.size = w.heap.size + 1 := by rw [hw0]; simp
  have HW0 := Lib.hid hw0
  clear hw0
  have hst := stands_any w0
  refine calls_marks Try.func7 rfl ?_
  simp only [Try.ntmps7, List.size_toArray, List.length_cons, List.length_nil, Nat.reduceAdd, Nat.reduceSub, Array.replicate_succ, Array.replicate_zero, List.push_toArray, List.append_toArray, List.nil_append, List.cons_append]
  go_upto_region 1 with (fail)
  rw [← HW0.out]
  clear HW0
  go_wp2_with fail
  refine hst.mono ?_
  rintro _ w1 ⟨rfl, hb1⟩
  have hnew := new_any 10 w1
  rw [show (max 0 (min (10 : Int) 1048576)).toNat = 10 by decide] at hnew
  have HB1 := Lib.hid hb1
  clear hst hb1
  go_wp2_with fail
  refine hnew.mono ?_
  rintro _ w2 ⟨p, hp, rfl, hb2, hst2⟩
  have HBZ := Lib.hid (HB1.out.trans (hb2.mono HB1.out.size))
  have HST := Lib.hid hst2
  clear hnew hb2 hst2 hp HB1
  unfold ptr
  have HKZ := Lib.hid (hk0.below HBZ.out hk0.lt)
  have HB0 := Lib.hid hb0
  have HS0 := Lib.hid hs0
  clear hk0 hb0 hs0
  by_cases hid0 : id = 0
  · have hi0 : (id == 0) = true := by simp [hid0]
    have x0 := HKZ.out.cell 0
    simp only [List.getElem?_toArray, List.getElem?_cons_zero] at x0
    have q0 := HKZ.out.frozen 0
    go_wp2_with fail
    obtain ⟨wF, hwF⟩ : ∃ wF, wF = w2.setCell ⟨w.heap.size, 0, none⟩ (.bool true) := ⟨_, rfl⟩
    have hKF : Blk wF w.heap.size 4 #[.bool true] := by rw [hwF]; have := HKZ.out.set_ 0 (.bool true); simpa using this
    have HBF := Lib.hid (show Below w.heap.size w wF by rw [hwF]; exact (HB0.out.trans (HBZ.out.mono (by have := HS0.out; omega))).setCell (p := ⟨w.heap.size, 0, none⟩) (Nat.le_refl _) _)
    rw [← hwF]
    clear hwF
    have f0 := hKF.cell 0
    simp only [List.getElem?_toArray, List.getElem?_cons_zero] at f0
    refine bodyM_ret (v := .bool true) rfl (by simp [results, Try.results7, go_sem, f0]) ?_
    exact ⟨rfl, HBF.out⟩
  have hi0 : (id == 0) = false := by simpa using hid0
  have hno : id < 0 ∨ ((([] : List En).length : Nat) : Int) < id := by simp; omega
  have HW : Hid (∀ W, Below w2.heap.size w2 W → Calls Try.prog 14 #[.pointer (some ⟨p, 0, none⟩), .int .i64 id] W fun e w' => e = .returned (.tuple #[.agg #[.int .i64 0, .int .i64 0, .int .i64 0, .int .i64 0, .int .u64 0, .int .u64 0], .iface 50 (.int .i64 1)]) ∧ Below W.heap.size W w') := Lib.hid (fun W hW => weight_no (HST.out.below hW) id hno)
  have HD : Hid (∀ W, Below w2.heap.size w2 W → Calls Try.prog 13 #[.pointer (some ⟨p, 0, none⟩), .int .i64 id] W fun e w' => e = .returned (.tuple #[.int .i64 0, .iface 50 (.int .i64 1)]) ∧ Below W.heap.size W w') := Lib.hid (fun W hW => depth_no (HST.out.below hW) id hno)
  have HWZ : Hid (∀ W, Below w2.heap.size w2 W → Calls Try.prog 14 #[.pointer (some ⟨p, 0, none⟩), .int .i64 0] W fun e w' => e = .returned (.tuple #[(Wt.of []).val, .nilIface]) ∧ Below W.heap.size W w') := Lib.hid (fun W hW => weight_of EOk.nil (HST.out.below hW) (TxO.none []) W (Below.refl _ _))
  have HB := Lib.hid (Below.refl w2.heap.size w2)
  clear hno hid0 HST
  have tr : ∀ {W W' : World}, Below w2.heap.size w2 W → Below W.heap.size W W' → Below w2.heap.size w2 W' := fun {W W' : World} (hW : Below w2.heap.size w2 W) (h : Below W.heap.size W W') => hW.trans (h.mono hW.size)
  have HBAL := Lib.hid (fun W (hW : Below w2.heap.size w2 W) => balanced_err (.pointer (some ⟨p, 0, none⟩)) id 1 W fun W' h => HD.out W' (tr hW h))
  have c1 := fun W (hW : Below w2.heap.size w2 W) => join_err2 (.pointer (some ⟨p, 0, none⟩)) 0 id 1 _ W (fun W' h => HWZ.out W' (tr hW h)) (fun W' h => HW.out W' (tr hW h))
  have c2 := fun W (hW : Below w2.heap.size w2 W) => split_err (.pointer (some ⟨p, 0, none⟩)) id 1 0 W fun W' h => check_err (.pointer (some ⟨p, 0, none⟩)) id 1 W' fun W'' h' => HBAL.out W'' (tr (tr hW h) h')
  have c3 := fun W (hW : Below w2.heap.size w2 W) => of_err (.pointer (some ⟨p, 0, none⟩)) id 1 W fun W' h => HBAL.out W' (tr hW h)
  have c4 := fun W (hW : Below w2.heap.size w2 W) => at_err (.pointer (some ⟨p, 0, none⟩)) id 1 0 W fun W' h => HW.out W' (tr hW h)
  have c5 := fun W (hW : Below w2.heap.size w2 W) => cursor_err (.pointer (some ⟨p, 0, none⟩)) id 1 W fun W' h => HW.out W' (tr hW h)
  have c6 := fun W (hW : Below w2.heap.size w2 W) => count_err (.pointer (some ⟨p, 0, none⟩)) id 1 W fun W' h => HW.out W' (tr hW h)
  have c7 := fun W (hW : Below w2.heap.size w2 W) => letters_err (some ⟨p, 0, none⟩) id 0 W fun W' h => wknown_err (.pointer (some ⟨p, 0, none⟩)) id 1 W' fun W'' h' => HW.out W'' (tr (tr hW h) h')
  clear tr HBAL HWZ HD HW
  go_wp2_with fail
  refine (c1 _ HB.out).mono ?_
  rintro _ w3 ⟨rfl, hb⟩
  have HBn := Lib.hid (HB.out.trans (hb.mono HB.out.size))
  clear HB hb
  have HB := HBn
  clear HBn
  go_wp2_with fail
  refine (c2 _ HB.out).mono ?_
  rintro _ w4 ⟨rfl, hb⟩
  have HBn := Lib.hid (HB.out.trans (hb.mono HB.out.size))
  clear HB hb
  have HB := HBn
  clear HBn
  go_wp2_with fail
  refine (c3 _ HB.out).mono ?_
  rintro _ w5 ⟨rfl, hb⟩
  have HBn := Lib.hid (HB.out.trans (hb.mono HB.out.size))
  clear HB hb
  have HB := HBn
  clear HBn
  go_wp2_with fail
  refine (c4 _ HB.out).mono ?_
  rintro _ w6 ⟨rfl, hb⟩
  have HBn := Lib.hid (HB.out.trans (hb.mono HB.out.size))
  clear HB hb
  have HB := HBn
  clear HBn
  go_wp2_with fail
  refine (c5 _ HB.out).mono ?_
  rintro _ w7 ⟨rfl, hb⟩
  have HBn := Lib.hid (HB.out.trans (hb.mono HB.out.size))
  clear HB hb
  have HB := HBn
  clear HBn
  go_wp2_with fail
  refine (c6 _ HB.out).mono ?_
  rintro _ w8 ⟨rfl, hb⟩
  have HBn := Lib.hid (HB.out.trans (hb.mono HB.out.size))
  clear HB hb
  have HB := HBn
  clear HBn
  clear c1 c2 c3 c4 c5 c6
  go_upto_region 14 with (fail)
  have HL := Lib.hid (Blk.new w8 28 #[.iface 50 (.int .i64 1), .iface 50 (.int .i64 1), .iface 50 (.int .i64 1), .iface 50 (.int .i64 1), .iface 50 (.int .i64 1), .iface 50 (.int .i64 1)])
  have hb := (Below.refl w8.heap.size w8).alloc (Nat.le_refl _) (.cells #[.iface 50 (.int .i64 1), .iface 50 (.int .i64 1), .iface 50 (.int .i64 1), .iface 50 (.int .i64 1), .iface 50 (.int .i64 1), .iface 50 (.int .i64 1)] 28)
  obtain ⟨w9, hw⟩ : ∃ w9, w9 = w8.alloc (.cells #[.iface 50 (.int .i64 1), .iface 50 (.int .i64 1), .iface 50 (.int .i64 1), .iface 50 (.int .i64 1), .iface 50 (.int .i64 1), .iface 50 (.int .i64 1)] 28) := ⟨_, rfl⟩
  rw [← hw] at hb HL ⊢
  clear hw
  have HBn := Lib.hid (HB.out.trans (hb.mono HB.out.size))
  clear HB hb
  have HB := HBn
  clear HBn
  generalize w8.heap.size = q1 at *
  have HLC : Hid (∀ k : Nat, k < 6 → w9.cell? ⟨q1, 0 + k, none⟩ = some (.iface 50 (.int .i64 1))) := Lib.hid (fun k hk => by rw [Nat.zero_add, HL.out.cell]; match k, hk with | 0, _ => rfl | 1, _ => rfl | 2, _ => rfl | 3, _ => rfl | 4, _ => rfl | 5, _ => rfl)
  have his := fun W => is_same 1 W (by decide)
  go_wp2_with fail
  go_loop [19] (fun i => ∃ k : Nat, i = .int .i64 (k : Int) ∧ k ≤ 6) (fun i => 6 - (intOf i).toNat)
  case atStart => exact ⟨0, rfl, by omega⟩
  case round =>
    obtain ⟨k, rfl, hk6⟩ := hrel
    by_cases hk : k < 6
    · have x0 := HLC.out k hk
      have k0 : (0 : Int) ≤ (k : Int) := by omega
      have k1 : (k : Int) < 6 := by omega
      have k2 : IntKind.i64.wrap ((k : Int) + 1) = ((k + 1 : Nat) : Int) := by rw [IntWalk.i64_in _ (by omega)]; omega
      rw [Nat.zero_add] at x0
      go_wp2_with fail
      refine (his _).mono ?_
      rintro _ wk ⟨rfl, hwk⟩
      rw [hwk]
      clear hwk wk
      go_wp2_with fail
      go_round
      case rel => exact ⟨k + 1, rfl, by omega⟩
      case measure => simp only [intOf]; omega
    · have k1 : ¬ (k : Int) < 6 := by omega
      have k6 : k = 6 := by omega
      clear hk
      subst k6
      clear HL HLC his
      go_wp2_with fail
      refine (c7 _ HB.out).mono ?_
      rintro _ wa ⟨rfl, hb⟩
      have HBa := Lib.hid (HB.out.trans (hb.mono HB.out.size))
      clear hb c7
      go_wp2_with fail
      refine (wpIn_wide (n := 3)).1 ?_
      refine wpIn_rangeFunc_ownF (α := Empty) (n := 3) (F := Fence.wide) (gf := 58) (lb := #[]) (w0 := wa) (N := 0) (encs := fun _ => #[]) (Kp := fun _ _ => True) (S := fun _ => True) (Sp := fun _ => False) rfl (by decide) rfl trivial (enters_of Try.func58 (by kernel_rfl) rfl) (fun l J Jx W _ _ _ _ h0 => callsIn_wide.2 ((empty58 _ W).mono fun e w' h => ⟨h.1, .inl ⟨[], trivial, h.2.symm ▸ h0⟩⟩)) (fun _ _ => trivial) (fun _ _ _ _ _ _ _ _ => trivial) (Below.refl _ _) (fun x => x.elim) (fun _ W => Below w2.heap.size w2 W) (fun _ _ _ => True) (ownFrom_below (Nat.le_refl _) HBa.out.size) (fun _ _ _ _ _ _ _ _ => trivial) HBa.out (fun x => x.elim) (fun _ x => x.elim) (fun _ _ x => x.elim) ?_ (fun _ _ _ _ _ h => h.elim)
      rintro D xs W hD - hbW hKD
      have HBW := Lib.hid hbW
      have HKD := Lib.hid hKD
      have HDD := Lib.hid hD
      clear hbW hKD hD
      dsimp only
      go_wp2_with fail
      skip
      clear HB
      have HB := HBW
      clear HBW
      have hs0 := HS0.out
      have hz0 := HBZ.out.size
      have HDL : Hid (w.heap.size < D) := Lib.hid (by have h1 := HBZ.out.size; have h2 := HBa.out.size; have h3 := HDD.out; omega)
      clear hs0 hz0
      have d1 := fun W => join_err1 (.pointer none) 0 5 0 W fun W' _ => weight_nil 0 W'
      have dB := fun W => balanced_err (.pointer none) 0 5 W fun W' _ => depth_nil 0 W'
      have d2 := fun W => split_err (.pointer none) 0 5 0 W fun W' _ => check_err (.pointer none) 0 5 W' fun W'' _ => dB W''
      have d3 := fun W => of_err (.pointer none) 0 5 W fun W' _ => dB W'
      have d4 := fun W => at_err (.pointer none) 0 5 0 W fun W' _ => weight_nil 0 W'
      have d5 := fun W => cursor_err (.pointer none) 0 5 W fun W' _ => weight_nil 0 W'
      have d6 := fun W => count_err (.pointer none) 0 5 W fun W' _ => weight_nil 0 W'
      clear dB
      refine (d1 _).mono ?_
      rintro _ w10 ⟨rfl, hb⟩
      have HBn := Lib.hid (HB.out.trans (hb.mono HB.out.size))
      have HKDn := Lib.hid (keepD HKD.out hb)
      clear HB HKD hb
      have HB := HBn
      have HKD := HKDn
      clear HBn HKDn
      go_wp2_with fail
      refine (d2 _).mono ?_
      rintro _ w11 ⟨rfl, hb⟩
      have HBn := Lib.hid (HB.out.trans (hb.mono HB.out.size))
      have HKDn := Lib.hid (keepD HKD.out hb)
      clear HB HKD hb
      have HB := HBn
      have HKD := HKDn
      clear HBn HKDn
      go_wp2_with fail
      refine (d3 _).mono ?_
      rintro _ w12 ⟨rfl, hb⟩
      have HBn := Lib.hid (HB.out.trans (hb.mono HB.out.size))
      have HKDn := Lib.hid (keepD HKD.out hb)
      clear HB HKD hb
      have HB := HBn
      have HKD := HKDn
      clear HBn HKDn
      go_wp2_with fail
      refine (d4 _).mono ?_
      rintro _ w13 ⟨rfl, hb⟩
      have HBn := Lib.hid (HB.out.trans (hb.mono HB.out.size))
      have HKDn := Lib.hid (keepD HKD.out hb)
      clear HB HKD hb
      have HB := HBn
      have HKD := HKDn
      clear HBn HKDn
      go_wp2_with fail
      refine (d5 _).mono ?_
      rintro _ w14 ⟨rfl, hb⟩
      have HBn := Lib.hid (HB.out.trans (hb.mono HB.out.size))
      have HKDn := Lib.hid (keepD HKD.out hb)
      clear HB HKD hb
      have HB := HBn
      have HKD := HKDn
      clear HBn HKDn
      go_wp2_with fail
      refine (d6 _).mono ?_
      rintro _ w15 ⟨rfl, hb⟩
      have HBn := Lib.hid (HB.out.trans (hb.mono HB.out.size))
      have HKDn := Lib.hid (keepD HKD.out hb)
      clear HB HKD hb
      have HB := HBn
      have HKD := HKDn
      clear HBn HKDn
      clear d1 d2 d3 d4 d5 d6
      go_upto_region 28 with (fail)
      have HL := Lib.hid (Blk.new w15 28 #[.iface 50 (.int .i64 5), .iface 50 (.int .i64 5), .iface 50 (.int .i64 5), .iface 50 (.int .i64 5), .iface 50 (.int .i64 5), .iface 50 (.int .i64 5)])
      have hb := (Below.refl w15.heap.size w15).alloc (Nat.le_refl _) (.cells #[.iface 50 (.int .i64 5), .iface 50 (.int .i64 5), .iface 50 (.int .i64 5), .iface 50 (.int .i64 5), .iface 50 (.int .i64 5), .iface 50 (.int .i64 5)] 28)
      obtain ⟨w16, hw⟩ : ∃ w16, w16 = w15.alloc (.cells #[.iface 50 (.int .i64 5), .iface 50 (.int .i64 5), .iface 50 (.int .i64 5), .iface 50 (.int .i64 5), .iface 50 (.int .i64 5), .iface 50 (.int .i64 5)] 28) := ⟨_, rfl⟩
      rw [← hw] at hb HL ⊢
      clear hw
      have HBn := Lib.hid (HB.out.trans (hb.mono HB.out.size))
      have HKDn := Lib.hid (keepD HKD.out hb)
      clear HB HKD hb
      have HB := HBn
      have HKD := HKDn
      clear HBn HKDn
      generalize w15.heap.size = q2 at *
      have HLC : Hid (∀ k : Nat, k < 6 → w16.cell? ⟨q2, 0 + k, none⟩ = some (.iface 50 (.int .i64 5))) := Lib.hid (fun k hk => by rw [Nat.zero_add, HL.out.cell]; match k, hk with | 0, _ => rfl | 1, _ => rfl | 2, _ => rfl | 3, _ => rfl | 4, _ => rfl | 5, _ => rfl)
      have his := fun W => is_same 5 W (by decide)
      go_wp2_with fail
      go_loop [20] (fun i => ∃ k : Nat, i = .int .i64 (k : Int) ∧ k ≤ 6) (fun i => 6 - (intOf i).toNat)
      case atStart => exact ⟨0, rfl, by omega⟩
      case round =>
        obtain ⟨k, rfl, hk6⟩ := hrel
        by_cases hk : k < 6
        · have x0 := HLC.out k hk
          have k0 : (0 : Int) ≤ (k : Int) := by omega
          have k1 : (k : Int) < 6 := by omega
          have k2 : IntKind.i64.wrap ((k : Int) + 1) = ((k + 1 : Nat) : Int) := by rw [IntWalk.i64_in _ (by omega)]; omega
          rw [Nat.zero_add] at x0
          go_wp2_with fail
          refine (his _).mono ?_
          rintro _ wk ⟨rfl, hwk⟩
          rw [hwk]
          clear hwk wk
          go_wp2_with fail
          go_round
          case rel => exact ⟨k + 1, rfl, by omega⟩
          case measure => simp only [intOf]; omega
        · have k1 : ¬ (k : Int) < 6 := by omega
          have k6 : k = 6 := by omega
          clear hk
          subst k6
          clear HL HLC his
          have HKK := Lib.hid (HKZ.out.below HB.out HKZ.out.lt)
          have x0 := HKK.out.cell 0
          simp only [List.getElem?_toArray, List.getElem?_cons_zero] at x0
          have q0 := HKK.out.frozen 0
          go_wp2_with fail
          obtain ⟨wF, hwF⟩ : ∃ wF, wF = w16.setCell ⟨w.heap.size, 0, none⟩ (.bool true) := ⟨_, rfl⟩
          have hKF : Blk wF w.heap.size 4 #[.bool true] := by rw [hwF]; have := HKK.out.set_ 0 (.bool true); simpa using this
          have hBF : Below w.heap.size w wF := by rw [hwF]; exact (HB0.out.trans ((HBZ.out.trans (HB.out.mono HBZ.out.size)).mono (by have := HS0.out; omega))).setCell (p := ⟨w.heap.size, 0, none⟩) (Nat.le_refl _) _
          have hDF : wF.heap[D]? = some (.deferred (some [])) := by rw [hwF]; exact (Below.heap_setCell _ _ _ _ (by have := HDL.out; show D ≠ w.heap.size; omega)).trans HKD.out
          rw [← hwF]
          clear hwF
          have hg := grownBy_putObj' wF D (.deferred none)
          have hKG : Blk (wF.putObj D (.deferred none)) w.heap.size 4 #[.bool true] := (hg.block _ hKF.lt (by have := HDL.out; simp; omega)).trans hKF
          have HBG := Lib.hid (hBF.grown hg (by have := hKF.lt; omega) (fun k e => by cases e; have := HDL.out; omega))
          have f0 := hKG.cell 0
          simp only [List.getElem?_toArray, List.getElem?_cons_zero] at f0
          clear hg hKF hBF
          refine bodyM_mark (v := .bool true) rfl hDF (by simp [results, Try.results7, go_sem, f0]) ?_
          exact ⟨rfl, HBG.out⟩
end Go.Proofs.Ytphpfkhpihlalaa
