/- The walk of the store's Letter. -/
import Derived.Test.YtphpfkhpihlalaaIn5
namespace Go.Proofs.Ytphpfkhpihlalaa
open Go.RowKit
theorem avEnd_old {w w' : World} {F : Nat → Prop} {p m c : Nat} {E : List En} {good : List En → Nat → Prop} {e : Ending} (h : StAt w F p m E) (hb : Below w.heap.size w w') (r : Option Nat) (ho : Out m E c good (E, r)) (he : e = .returned (idV 50 r)) : AvEnd 50 w F p m E c good e w' :=
  ⟨(E, r), ho, he, Kept.of_below hb, (h.below hb).keep (fun _ _ => rfl) (fun i hi => ⟨.inl hi, Nat.lt_of_lt_of_le (h.lt i hi) hb.size⟩) (fun _ hi => hi.2)⟩
set_option maxRecDepth 100000 in
set_option maxHeartbeats 4000000 in
theorem letter_any {w : World} {F : Nat → Prop} {p m : Nat} {E : List En} (hE : EOk E) (h : StAt w F p m E) (b : UInt8) : Calls Try.prog 67 #[ptr p, .int .u8 b.toNat] w (AvEnd 50 w F p m E 1 (fun E' id => Tx E' id [b] 0)) := by
  have hfd := fun W (hb : Below w.heap.size w W) => find_any (h.below hb) (Ru.one b)
  have ho := letter_out (m := m) hE b
  have hru : encR (Ru.one b) = .agg #[.int .i64 1, .int .u8 b.toNat, .int .i64 0, .int .i64 0, .int .i64 0] := rfl
  rw [hru] at hfd
  clear hru
  unfold fdV at hfd
  unfold addR at ho
  rw [show (En.one b).ru = Ru.one b from rfl] at ho
  have HSt := Lib.hid h
  unfold ptr at hfd ⊢
  have k1 := Blk.new w 95 #[.int .i64 1, .int .u8 b.toNat, .int .i64 0, .int .i64 0, .int .i64 0]
  have hb1 : Below w.heap.size w (w.alloc (.cells #[.int .i64 1, .int .u8 b.toNat, .int .i64 0, .int .i64 0, .int .i64 0] 95)) := (Below.refl _ _).alloc (Nat.le_refl _) _
  obtain ⟨w1, hw1⟩ : ∃ w1, w1 = w.alloc (.cells #[.int .i64 1, .int .u8 b.toNat, .int .i64 0, .int .i64 0, .int .i64 0] 95) := ⟨_, rfl⟩
  rw [← hw1] at k1 hb1
  have HW1 := Lib.hid hw1
  clear hw1
  have HB1 := Lib.hid hb1
  clear hb1
  have z0 := k1.cell 0
  have z1 := k1.cell 1
  have z2 := k1.cell 2
  have z3 := k1.cell 3
  have z4 := k1.cell 4
  simp only [List.getElem?_toArray, List.getElem?_cons_zero, List.getElem?_cons_succ] at z0 z1 z2 z3 z4
  have HK1 := Lib.hid k1
  cases hi : idOf E (Ru.one b) with
  | some i =>
    simp only [hi] at hfd ho
    have hpos : ((i : Nat) : Int) ≠ 0 := by
      obtain ⟨x, h1, _⟩ := idF_some hi
      omega
    have hne : (((i : Nat) : Int) != 0) = true := by simp; omega
    have hne2 : (((i : Nat) : Int) == 0) = false := by simp; omega
    have HO := Lib.hid ho
    clear ho hi hE k1
    go_enter Try.func67, Try.ntmps67
    go_upto_region 4 with (fail)
    rw [← HW1.out]
    clear HW1
    go_wp2_with fail
    refine (hfd _ HB1.out).mono ?_
    rintro _ w2 ⟨rfl, hb2⟩
    have HQ := Lib.hid (HB1.out.trans (hb2.mono HB1.out.size))
    clear hfd hb2
    go_wp2_with fail
    refine bodyPost_ret (v := .tuple #[.int .i64 ((i : Nat) : Int), .nilIface]) (by simp [results, Try.results67, go_sem]) rfl ?_
    exact avEnd_old HSt.out HQ.out (some i) HO.out rfl
  | none =>
    simp only [hi] at hfd ho
    by_cases hfl : m ≤ E.length
    · simp only [hfl, if_true] at hfd ho
      have HO := Lib.hid ho
      clear ho hi hE k1 hfl
      go_enter Try.func67, Try.ntmps67
      go_upto_region 4 with (fail)
      rw [← HW1.out]
      clear HW1
      go_wp2_with fail
      refine (hfd _ HB1.out).mono ?_
      rintro _ w2 ⟨rfl, hb2⟩
      have HQ := Lib.hid (HB1.out.trans (hb2.mono HB1.out.size))
      clear hfd hb2
      go_wp2_with fail
      refine bodyPost_ret (v := .tuple #[.int .i64 0, .iface 50 (.int .i64 3)]) (by simp [results, Try.results67, go_sem]) rfl ?_
      exact avEnd_old HSt.out HQ.out none HO.out rfl
    · simp only [hfl, if_false] at hfd ho
      have HO := Lib.hid ho
      have HI := Lib.hid hi
      have HLT : Hid (E.length < m) := Lib.hid (by omega)
      obtain ⟨x, hx⟩ : ∃ x, x = Wt.letter b := ⟨_, rfl⟩
      have hwl := fun W => wletter_any b W
      rw [← hx] at hwl
      have hcl : (En.one b).cells.toArray = ((⟨Ru.one b, x, 0, true, [b]⟩ : En).cells.toArray) := by rw [hx]; rfl
      have had : ∀ W (hb : Below w.heap.size w W), _ := fun W hb => add_any (h.below hb) (En.one b) HLT.out hi
      simp only [hcl] at had
      clear hcl hx
      obtain ⟨n, nl, hd, tl, ⟨dv, ds⟩⟩ := x
      simp only [En.cells, Wt.val, Ru.one] at had hwl
      generalize (dv : Int) = dv at had hwl
      generalize (ds : Int) = ds at had hwl
      unfold ptr at had
      have HWL := Lib.hid hwl
      have HAD := Lib.hid had
      clear had hwl
      clear ho hi hE k1 hfl
      go_enter Try.func67, Try.ntmps67
      go_upto_region 4 with (fail)
      rw [← HW1.out]
      clear HW1
      go_wp2_with fail
      refine (hfd _ HB1.out).mono ?_
      rintro _ w2 ⟨rfl, hb2⟩
      have HQ := Lib.hid (HB1.out.trans (hb2.mono HB1.out.size))
      have k2 := HK1.out.below hb2 HK1.out.lt
      have HK2 := Lib.hid k2
      clear hfd hb2 z0 z1 z2 z3 z4
      have z0 := k2.cell 0
      have z1 := k2.cell 1
      have z2 := k2.cell 2
      have z3 := k2.cell 3
      have z4 := k2.cell 4
      simp only [List.getElem?_toArray, List.getElem?_cons_zero, List.getElem?_cons_succ] at z0 z1 z2 z3 z4
      clear k2
      go_wp2_with fail
      refine wp_region_noPanic ?_
      refine wp_region_held_drew (S := (fun w' => w'.cell? ⟨w.heap.size, 0, none⟩ = some (.int .i64 1) ∧ w'.cell? ⟨w.heap.size, 1, none⟩ = some (.int .u8 b.toNat) ∧ w'.cell? ⟨w.heap.size, 2, none⟩ = some (.int .i64 0) ∧ w'.cell? ⟨w.heap.size, 3, none⟩ = some (.int .i64 0) ∧ w'.cell? ⟨w.heap.size, 4, none⟩ = some (.int .i64 0))) (by kernel_rfl) ⟨z0, z1, z2, z3, z4⟩ (fun hHeld => ?_)
      refine wpAnyH_take (i := 0) (v := ?_) rfl (by kernel_rfl) (by kernel_rfl) (by kernel_rfl) (fun _ _ _ h => h) (Or.inl ⟨by kernel_rfl, ?_⟩) hHeld ?_
      rotate_left
      · intro w' hSw
        (try dsimp only at hSw)
        go_simp <;> with_reducible rfl
      try simp only [Act.put, List.setIfInBounds_toArray, List.set_cons_zero, List.set_cons_succ]
      refine wpAnyH_take (i := 1) (v := ?_) rfl (by kernel_rfl) (by kernel_rfl) (by kernel_rfl) (fun _ _ _ h => h) (Or.inl ⟨by kernel_rfl, ?_⟩) hHeld ?_
      rotate_left
      · intro w' hSw
        (try dsimp only at hSw)
        go_simp <;> with_reducible rfl
      try simp only [Act.put, List.setIfInBounds_toArray, List.set_cons_zero, List.set_cons_succ]
      refine wpAnyH_take (i := 2) (v := ?_) rfl (by kernel_rfl) (by kernel_rfl) (by kernel_rfl) (fun _ _ _ h => h) (Or.inl ⟨by kernel_rfl, ?_⟩) hHeld ?_
      rotate_left
      · intro w' hSw
        (try dsimp only at hSw)
        go_simp <;> with_reducible rfl
      try simp only [Act.put, List.setIfInBounds_toArray, List.set_cons_zero, List.set_cons_succ]
      refine wpAnyH_one (i := 3) (by kernel_rfl) rfl (fun K hK => ?_)
      go_simp
      go_at_call 88
      refine (HWL.out _).mono ?_
      rintro e w3 ⟨rfl, hb3⟩
      have hb3' : Below w2.heap.size w2 w3 := ((Below.refl _ w2).drew).trans hb3
      have HK3 := Lib.hid (HK2.out.below hb3' HK2.out.lt)
      have HQ3 := Lib.hid (HQ.out.trans (hb3'.mono HQ.out.size))
      have k3 := HK3.out
      clear hb3 hb3' hHeld z0 z1 z2 z3 z4
      have z0 := k3.cell 0
      have z1 := k3.cell 1
      have z2 := k3.cell 2
      have z3 := k3.cell 3
      have z4 := k3.cell 4
      simp only [List.getElem?_toArray, List.getElem?_cons_zero, List.getElem?_cons_succ] at z0 z1 z2 z3 z4
      have hHeld := And.intro z0 (And.intro z1 (And.intro z2 (And.intro z3 z4)))
      refine hK.out _ _ hHeld ?_
      clear hK K k3
      try simp only [Act.put, List.setIfInBounds_toArray, List.set_cons_zero, List.set_cons_succ]
      refine wpAnyH_take (i := 4) (v := ?_) rfl (by kernel_rfl) (by kernel_rfl) (by kernel_rfl) (fun _ _ _ h => h) (Or.inl ⟨by kernel_rfl, ?_⟩) hHeld ?_
      rotate_left
      · intro w' hSw
        (try dsimp only at hSw)
        go_simp <;> with_reducible rfl
      try simp only [Act.put, List.setIfInBounds_toArray, List.set_cons_zero, List.set_cons_succ]
      refine wpAnyH_one (i := 5) (by kernel_rfl) rfl (fun K hK => ?_)
      go_simp
      go_at_call 87
      refine (HAD.out _ HQ3.out).mono ?_
      rintro e w4 ⟨rfl, hk4, hs4⟩
      have k4 := HK3.out.kept hk4 (fun hF => absurd (HSt.out.lt _ hF) (Nat.lt_irrefl _))
      have HK4 := Lib.hid hk4
      have HS4 := Lib.hid hs4
      clear hk4 hs4 hHeld z0 z1 z2 z3 z4
      have z0 := k4.cell 0
      have z1 := k4.cell 1
      have z2 := k4.cell 2
      have z3 := k4.cell 3
      have z4 := k4.cell 4
      simp only [List.getElem?_toArray, List.getElem?_cons_zero, List.getElem?_cons_succ] at z0 z1 z2 z3 z4
      have hHeld := And.intro z0 (And.intro z1 (And.intro z2 (And.intro z3 z4)))
      refine hK.out _ _ hHeld ?_
      clear hK K k4
      try simp only [Act.put, List.setIfInBounds_toArray, List.set_cons_zero, List.set_cons_succ]
      refine wpAnyH_one (i := 6) (by kernel_rfl) rfl (fun K hK => ?_)
      go_simp
      refine hK.out _ _ hHeld ?_
      clear hK K
      try simp only [Act.put, List.setIfInBounds_toArray, List.set_cons_zero, List.set_cons_succ]
      refine wpAnyH_one (i := 7) (by kernel_rfl) rfl (fun K hK => ?_)
      go_simp
      refine hK.out _ _ hHeld ?_
      clear hK K
      try simp only [Act.put, List.setIfInBounds_toArray, List.set_cons_zero, List.set_cons_succ]
      refine wpAnyH_done (by kernel_rfl) ?_ _
      refine NoPanic.normal ?_
      try simp only [Act.put, List.setIfInBounds_toArray, List.set_cons_zero, List.set_cons_succ]
      clear hHeld z0 z1 z2 z3 z4
      go_wp2_with fail
      refine bodyPost_ret (v := .tuple #[.int .i64 ((E.length + 1 : Nat) : Int), .nilIface]) (by simp [results, Try.results67, go_sem]) rfl ?_
      exact ⟨_, HO.out, rfl, (Kept.of_below HQ3.out).via (fun i h => .inl h) HK4.out, HS4.out.grow HQ3.out.size (fun i h => .inl h)⟩
end Go.Proofs.Ytphpfkhpihlalaa
