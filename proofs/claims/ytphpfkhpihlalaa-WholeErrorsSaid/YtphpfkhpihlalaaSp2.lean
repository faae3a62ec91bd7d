/- The walks of split.front and split.rest. -/
import Derived.Test.YtphpfkhpihlalaaSp1
namespace Go.Proofs.Ytphpfkhpihlalaa
open Go.RowKit
set_option maxRecDepth 100000 in
set_option maxHeartbeats 1000000 in
theorem front_walk (p : Nat) (id n total mid l r : Int) (w : World) {R R1 : Option Nat → World → Prop} {F : Nat → Prop} (hF : ∀ i, F i → i < w.heap.size) (s1 : IntKind.i64.wrap (n - mid) = n - mid)
    (g1 : ∀ W, Below w.heap.size w W → Calls Try.prog 71 #[ptr p, .int .i64 id] W fun e w' => e = .returned (.tuple #[.int .i64 total, .nilIface]) ∧ Below W.heap.size W w')
    (g2 : n ≠ 0 → n ≠ total → ∀ W, Below w.heap.size w W → Calls Try.prog 49 #[ptr p, .int .i64 id] W fun e w' => e = .returned (.tuple #[.agg #[.int .i64 2, .int .u8 0, .int .i64 l, .int .i64 r, .int .i64 0], .nilIface]) ∧ Below W.heap.size W w')
    (g3 : n ≠ 0 → n ≠ total → ∀ W, Below w.heap.size w W → Calls Try.prog 71 #[ptr p, .int .i64 l] W fun e w' => e = .returned (.tuple #[.int .i64 mid, .nilIface]) ∧ Below W.heap.size W w')
    (k0 : n = 0 → ∀ W, Below w.heap.size w W → Ids R (.returned (.tuple #[.int .i64 0, .nilIface])) W)
    (k1 : n ≠ 0 → n = total → ∀ W, Below w.heap.size w W → Ids R (.returned (.tuple #[.int .i64 id, .nilIface])) W)
    (k2 : n ≠ 0 → n ≠ total → n ≤ mid → ∀ W, Below w.heap.size w W → Calls Try.prog 41 #[ptr p, .int .i64 l, .int .i64 n] W (Ids R))
    (k3 : n ≠ 0 → n ≠ total → ¬ n ≤ mid → ∀ W, Below w.heap.size w W → Calls Try.prog 41 #[ptr p, .int .i64 r, .int .i64 (n - mid)] W fun e w' => Ids R1 e w' ∧ Kept F W w')
    (n1 : ∀ W, R1 none W → R none W)
    (k4 : ∀ i W, R1 (some i) W → Calls Try.prog 17 #[ptr p, .int .i64 l, .int .i64 ((i : Nat) : Int)] W (Ids R)) :
    Calls Try.prog 41 #[ptr p, .int .i64 id, .int .i64 n] w (Ids R) := by
  have K0 := Lib.hid k0
  have K1 := Lib.hid k1
  have K2 := Lib.hid k2
  have K3 := Lib.hid k3
  have K4 := Lib.hid k4
  have N1 := Lib.hid n1
  have HF := Lib.hid hF
  clear k0 k1 k2 k3 k4 n1 hF
  unfold ptr at *
  by_cases h0 : n = 0
  · have HE := Lib.hid (K0.out h0 w (Below.refl _ _))
    have hn0 : (n == 0) = true := by simp [h0]
    go_enter Try.func41, Try.ntmps41
    go_wp2_with fail
    refine bodyPost_ret (v := .tuple #[.int .i64 0, .nilIface]) (by simp [results, Try.results41, go_sem]) rfl ?_
    exact HE.out
  have hn0 : (n == 0) = false := by simpa using h0
  go_enter Try.func41, Try.ntmps41
  go_wp2_with fail
  refine (g1 _ (Below.refl _ _)).mono ?_
  rintro _ w1 ⟨rfl, hb1⟩
  have HB1 := Lib.hid hb1
  clear hb1 g1
  by_cases h1 : n = total
  · have HE := Lib.hid (K1.out h0 h1 _ HB1.out)
    have hnt : (n == total) = true := by simp [h1]
    go_wp2_with fail
    refine bodyPost_ret (v := .tuple #[.int .i64 id, .nilIface]) (by simp [results, Try.results41, go_sem]) rfl ?_
    exact HE.out
  have hnt : (n == total) = false := by simpa using h1
  have G2 := g2 h0 h1
  have G3 := g3 h0 h1
  clear g2 g3
  go_wp2_with fail
  refine (G2 _ HB1.out).mono ?_
  rintro _ w2 ⟨rfl, hb2⟩
  have HB2 := Lib.hid (HB1.out.trans (hb2.mono HB1.out.size))
  clear hb2 G2 HB1
  go_upto_region 11 with (fail)
  have HK := Lib.hid (Blk.new w2 95 #[.int .i64 2, .int .u8 0, .int .i64 l, .int .i64 r, .int .i64 0])
  have HB3 := Lib.hid (HB2.out.alloc HB2.out.size (.cells #[.int .i64 2, .int .u8 0, .int .i64 l, .int .i64 r, .int .i64 0] 95))
  have HS := Lib.hid HB2.out.size
  obtain ⟨w3, hw3⟩ : ∃ w3, w3 = w2.alloc (.cells #[.int .i64 2, .int .u8 0, .int .i64 l, .int .i64 r, .int .i64 0] 95) := ⟨_, rfl⟩
  rw [← hw3] at HK HB3 ⊢
  clear hw3 HB2
  generalize w2.heap.size = q at *
  have z2 := HK.out.cell 2
  simp only [List.getElem?_toArray, List.getElem?_cons_zero, List.getElem?_cons_succ] at z2
  go_wp2_with fail
  refine (G3 _ HB3.out).mono ?_
  rintro _ w4 ⟨rfl, hb4⟩
  have HK4 := Lib.hid (HK.out.below hb4 HK.out.lt)
  have HB4 := Lib.hid (HB3.out.trans (hb4.mono HB3.out.size))
  clear hb4 G3 z2 HK HB3
  have z2 := HK4.out.cell 2
  have z3 := HK4.out.cell 3
  simp only [List.getElem?_toArray, List.getElem?_cons_zero, List.getElem?_cons_succ] at z2 z3
  by_cases hm : n ≤ mid
  · have g5 := K2.out h0 h1 hm _ HB4.out
    go_wp2_with fail
    refine g5.mono ?_
    rintro _ w7 ⟨o, rfl, hr⟩
    have HR := Lib.hid hr
    clear hr g5
    cases o with
    | none =>
      unfold idV
      go_wp2_with fail
      refine bodyPost_ret (v := .tuple #[.int .i64 0, .iface 50 (.int .i64 3)]) (by simp [results, Try.results41, go_sem]) rfl ?_
      exact ⟨none, rfl, HR.out⟩
    | some r =>
      unfold idV
      go_wp2_with fail
      refine bodyPost_ret (v := .tuple #[.int .i64 (r : Int), .nilIface]) (by simp [results, Try.results41, go_sem]) rfl ?_
      exact ⟨some r, rfl, HR.out⟩
  · have g5 := K3.out h0 h1 (by omega) _ HB4.out
    have hq : ¬ F q := fun hq => by have := HF.out q hq; have := HS.out; omega
    have HQ := Lib.hid hq
    clear hq
    go_wp2_with fail
    refine g5.mono ?_
    rintro _ w5 ⟨⟨o, rfl, hr⟩, hk5⟩
    have HK5 := Lib.hid (HK4.out.kept hk5 HQ.out)
    clear hk5 g5 z2 z3
    cases o with
    | none =>
      have HR := Lib.hid (N1.out _ hr)
      clear hr
      unfold idV
      go_wp2_with fail
      refine bodyPost_ret (v := .tuple #[.int .i64 0, .iface 50 (.int .i64 3)]) (by simp [results, Try.results41, go_sem]) rfl ?_
      exact ⟨none, rfl, HR.out⟩
    | some i =>
      have g6 := K4.out i _ hr
      clear hr
      have z2 := HK5.out.cell 2
      have z3 := HK5.out.cell 3
      simp only [List.getElem?_toArray, List.getElem?_cons_zero, List.getElem?_cons_succ] at z2 z3
      unfold idV
      go_wp2_with fail
      refine g6.mono ?_
      rintro _ w7 ⟨o, rfl, hr⟩
      have HR := Lib.hid hr
      clear hr g6
      cases o with
      | none =>
        unfold idV
        go_wp2_with fail
        refine bodyPost_ret (v := .tuple #[.int .i64 0, .iface 50 (.int .i64 3)]) (by simp [results, Try.results41, go_sem]) rfl ?_
        exact ⟨none, rfl, HR.out⟩
      | some y =>
        unfold idV
        go_wp2_with fail
        refine bodyPost_ret (v := .tuple #[.int .i64 (y : Int), .nilIface]) (by simp [results, Try.results41, go_sem]) rfl ?_
        exact ⟨some y, rfl, HR.out⟩
set_option maxRecDepth 100000 in
set_option maxHeartbeats 1000000 in
theorem rest_walk (p : Nat) (id n total mid l r : Int) (w : World) {R R1 : Option Nat → World → Prop} {F : Nat → Prop} (hF : ∀ i, F i → i < w.heap.size) (s1 : IntKind.i64.wrap (n - mid) = n - mid)
    (g1 : ∀ W, Below w.heap.size w W → Calls Try.prog 71 #[ptr p, .int .i64 id] W fun e w' => e = .returned (.tuple #[.int .i64 total, .nilIface]) ∧ Below W.heap.size W w')
    (g2 : n ≠ 0 → n ≠ total → ∀ W, Below w.heap.size w W → Calls Try.prog 49 #[ptr p, .int .i64 id] W fun e w' => e = .returned (.tuple #[.agg #[.int .i64 2, .int .u8 0, .int .i64 l, .int .i64 r, .int .i64 0], .nilIface]) ∧ Below W.heap.size W w')
    (g3 : n ≠ 0 → n ≠ total → ∀ W, Below w.heap.size w W → Calls Try.prog 71 #[ptr p, .int .i64 l] W fun e w' => e = .returned (.tuple #[.int .i64 mid, .nilIface]) ∧ Below W.heap.size W w')
    (k0 : n = 0 → ∀ W, Below w.heap.size w W → Ids R (.returned (.tuple #[.int .i64 id, .nilIface])) W)
    (k1 : n ≠ 0 → n = total → ∀ W, Below w.heap.size w W → Ids R (.returned (.tuple #[.int .i64 0, .nilIface])) W)
    (k2 : n ≠ 0 → n ≠ total → mid ≤ n → ∀ W, Below w.heap.size w W → Calls Try.prog 42 #[ptr p, .int .i64 r, .int .i64 (n - mid)] W (Ids R))
    (k3 : n ≠ 0 → n ≠ total → ¬ mid ≤ n → ∀ W, Below w.heap.size w W → Calls Try.prog 42 #[ptr p, .int .i64 l, .int .i64 n] W fun e w' => Ids R1 e w' ∧ Kept F W w')
    (n1 : ∀ W, R1 none W → R none W)
    (k4 : ∀ i W, R1 (some i) W → Calls Try.prog 17 #[ptr p, .int .i64 ((i : Nat) : Int), .int .i64 r] W (Ids R)) :
    Calls Try.prog 42 #[ptr p, .int .i64 id, .int .i64 n] w (Ids R) := by
  have K0 := Lib.hid k0
  have K1 := Lib.hid k1
  have K2 := Lib.hid k2
  have K3 := Lib.hid k3
  have K4 := Lib.hid k4
  have N1 := Lib.hid n1
  have HF := Lib.hid hF
  clear k0 k1 k2 k3 k4 n1 hF
  unfold ptr at *
  by_cases h0 : n = 0
  · have HE := Lib.hid (K0.out h0 w (Below.refl _ _))
    have hn0 : (n == 0) = true := by simp [h0]
    go_enter Try.func42, Try.ntmps42
    go_wp2_with fail
    refine bodyPost_ret (v := .tuple #[.int .i64 id, .nilIface]) (by simp [results, Try.results42, go_sem]) rfl ?_
    exact HE.out
  have hn0 : (n == 0) = false := by simpa using h0
  go_enter Try.func42, Try.ntmps42
  go_wp2_with fail
  refine (g1 _ (Below.refl _ _)).mono ?_
  rintro _ w1 ⟨rfl, hb1⟩
  have HB1 := Lib.hid hb1
  clear hb1 g1
  by_cases h1 : n = total
  · have HE := Lib.hid (K1.out h0 h1 _ HB1.out)
    have hnt : (n == total) = true := by simp [h1]
    go_wp2_with fail
    refine bodyPost_ret (v := .tuple #[.int .i64 0, .nilIface]) (by simp [results, Try.results42, go_sem]) rfl ?_
    exact HE.out
  have hnt : (n == total) = false := by simpa using h1
  have G2 := g2 h0 h1
  have G3 := g3 h0 h1
  clear g2 g3
  go_wp2_with fail
  refine (G2 _ HB1.out).mono ?_
  rintro _ w2 ⟨rfl, hb2⟩
  have HB2 := Lib.hid (HB1.out.trans (hb2.mono HB1.out.size))
  clear hb2 G2 HB1
  go_upto_region 9 with (fail)
  have HK := Lib.hid (Blk.new w2 95 #[.int .i64 2, .int .u8 0, .int .i64 l, .int .i64 r, .int .i64 0])
  have HB3 := Lib.hid (HB2.out.alloc HB2.out.size (.cells #[.int .i64 2, .int .u8 0, .int .i64 l, .int .i64 r, .int .i64 0] 95))
  have HS := Lib.hid HB2.out.size
  obtain ⟨w3, hw3⟩ : ∃ w3, w3 = w2.alloc (.cells #[.int .i64 2, .int .u8 0, .int .i64 l, .int .i64 r, .int .i64 0] 95) := ⟨_, rfl⟩
  rw [← hw3] at HK HB3 ⊢
  clear hw3 HB2
  generalize w2.heap.size = q at *
  have z2 := HK.out.cell 2
  simp only [List.getElem?_toArray, List.getElem?_cons_zero, List.getElem?_cons_succ] at z2
  go_wp2_with fail
  refine (G3 _ HB3.out).mono ?_
  rintro _ w4 ⟨rfl, hb4⟩
  have HK4 := Lib.hid (HK.out.below hb4 HK.out.lt)
  have HB4 := Lib.hid (HB3.out.trans (hb4.mono HB3.out.size))
  clear hb4 G3 z2 HK HB3
  have z2 := HK4.out.cell 2
  have z3 := HK4.out.cell 3
  simp only [List.getElem?_toArray, List.getElem?_cons_zero, List.getElem?_cons_succ] at z2 z3
  by_cases hm : mid ≤ n
  · have g5 := K2.out h0 h1 hm _ HB4.out
    go_wp2_with fail
    refine g5.mono ?_
    rintro _ w7 ⟨o, rfl, hr⟩
    have HR := Lib.hid hr
    clear hr g5
    cases o with
    | none =>
      unfold idV
      go_wp2_with fail
      refine bodyPost_ret (v := .tuple #[.int .i64 0, .iface 50 (.int .i64 3)]) (by simp [results, Try.results42, go_sem]) rfl ?_
      exact ⟨none, rfl, HR.out⟩
    | some r =>
      unfold idV
      go_wp2_with fail
      refine bodyPost_ret (v := .tuple #[.int .i64 (r : Int), .nilIface]) (by simp [results, Try.results42, go_sem]) rfl ?_
      exact ⟨some r, rfl, HR.out⟩
  · have g5 := K3.out h0 h1 (by omega) _ HB4.out
    have hq : ¬ F q := fun hq => by have := HF.out q hq; have := HS.out; omega
    have HQ := Lib.hid hq
    clear hq
    go_wp2_with fail
    refine g5.mono ?_
    rintro _ w5 ⟨⟨o, rfl, hr⟩, hk5⟩
    have HK5 := Lib.hid (HK4.out.kept hk5 HQ.out)
    clear hk5 g5 z2 z3
    cases o with
    | none =>
      have HR := Lib.hid (N1.out _ hr)
      clear hr
      unfold idV
      go_wp2_with fail
      refine bodyPost_ret (v := .tuple #[.int .i64 0, .iface 50 (.int .i64 3)]) (by simp [results, Try.results42, go_sem]) rfl ?_
      exact ⟨none, rfl, HR.out⟩
    | some i =>
      have g6 := K4.out i _ hr
      clear hr
      have z2 := HK5.out.cell 2
      have z3 := HK5.out.cell 3
      simp only [List.getElem?_toArray, List.getElem?_cons_zero, List.getElem?_cons_succ] at z2 z3
      unfold idV
      go_wp2_with fail
      refine g6.mono ?_
      rintro _ w7 ⟨o, rfl, hr⟩
      have HR := Lib.hid hr
      clear hr g6
      cases o with
      | none =>
        unfold idV
        go_wp2_with fail
        refine bodyPost_ret (v := .tuple #[.int .i64 0, .iface 50 (.int .i64 3)]) (by simp [results, Try.results42, go_sem]) rfl ?_
        exact ⟨none, rfl, HR.out⟩
      | some y =>
        unfold idV
        go_wp2_with fail
        refine bodyPost_ret (v := .tuple #[.int .i64 (y : Int), .nilIface]) (by simp [results, Try.results42, go_sem]) rfl ?_
        exact ⟨some y, rfl, HR.out⟩
end Go.Proofs.Ytphpfkhpihlalaa
