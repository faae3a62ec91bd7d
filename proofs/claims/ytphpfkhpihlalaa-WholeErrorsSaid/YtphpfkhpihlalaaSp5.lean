/- split.section and split.Section. -/
import Derived.Test.YtphpfkhpihlalaaSp4
import Derived.LoopTactic
namespace Go.Proofs.Ytphpfkhpihlalaa
open Go.RowKit
/-- What a round of section meets. -/
structure SecR (p : Nat) (n : Int) (I : Nat → Int → World → Prop) (R : Option Nat → World → Prop) (R1 : Option Nat → World → Prop) (F : World → Nat → Prop) (id : Nat) (f : Int) (W : World) (total mid : Int) (l r : Nat) : Prop where
  lt : ∀ i, F W i → i < W.heap.size
  g1 : (∀ W', Below W.heap.size W W' → Calls Try.prog 71 #[ptr p, .int .i64 (id : Int)] W' fun e w' => e = .returned (.tuple #[.int .i64 total, .nilIface]) ∧ Below W'.heap.size W' w')
  g2 : n ≠ total → (∀ W', Below W.heap.size W W' → Calls Try.prog 49 #[ptr p, .int .i64 (id : Int)] W' fun e w' => e = .returned (.tuple #[.agg #[.int .i64 2, .int .u8 0, .int .i64 (l : Int), .int .i64 (r : Int), .int .i64 0], .nilIface]) ∧ Below W'.heap.size W' w')
  g3 : n ≠ total → (∀ W', Below W.heap.size W W' → Calls Try.prog 71 #[ptr p, .int .i64 (l : Int)] W' fun e w' => e = .returned (.tuple #[.int .i64 mid, .nilIface]) ∧ Below W'.heap.size W' w')
  s1 : IntKind.i64.wrap (f + n) = f + n
  s2 : IntKind.i64.wrap (f - mid) = f - mid
  s3 : IntKind.i64.wrap (f + n - mid) = f + n - mid
  k0 : n = total → ∀ W', Below W.heap.size W W' → Ids R (.returned (.tuple #[.int .i64 (id : Int), .nilIface])) W'
  k1 : n ≠ total → f + n ≤ mid → ∀ W', Below W.heap.size W W' → I l f W' ∧ l < id
  k2 : n ≠ total → ¬ f + n ≤ mid → mid ≤ f → ∀ W', Below W.heap.size W W' → I r (f - mid) W' ∧ r < id
  k3 : n ≠ total → ¬ f + n ≤ mid → ¬ mid ≤ f → ∀ W', Below W.heap.size W W' → Calls Try.prog 42 #[ptr p, .int .i64 (l : Int), .int .i64 f] W' fun e w' => Ids R1 e w' ∧ Kept (F W) W' w'
  n1 : ∀ W', R1 none W' → R none W'
  k4 : ∀ i W', R1 (some i) W' → ∃ R2 : Option Nat → World → Prop, (Calls Try.prog 41 #[ptr p, .int .i64 (r : Int), .int .i64 (f + n - mid)] W' (Ids R2)) ∧ (∀ W, R2 none W → R none W) ∧ (∀ j W, R2 (some j) W → Calls Try.prog 17 #[ptr p, .int .i64 (i : Int), .int .i64 ((j : Nat) : Int)] W (Ids R))
set_option maxRecDepth 100000 in
theorem section_zero (p : Nat) (id f : Int) (w : World) : Calls Try.prog 98 #[ptr p, .int .i64 id, .int .i64 f, .int .i64 0] w fun e w' => e = .returned (idV 50 (some 0)) ∧ w' = w := by
  unfold ptr idV
  go_enter Try.func98, Try.ntmps98
  go_wp2_with fail
  refine bodyPost_ret (v := .tuple #[.int .i64 0, .nilIface]) (by simp [results, Try.results98, go_sem]) rfl ?_
  exact ⟨rfl, rfl⟩
set_option maxRecDepth 100000 in
set_option maxHeartbeats 2000000 in
theorem section_walk (p : Nat) (id0 : Nat) (f0 n : Int) (w : World) {I : Nat → Int → World → Prop} {R : Option Nat → World → Prop} {F : World → Nat → Prop} (hn : n ≠ 0) (hI : I id0 f0 w)
    (hr : ∀ id f W, I id f W → ∃ total mid l r R1, SecR p n I R R1 F id f W total mid l r) :
    Calls Try.prog 98 #[ptr p, .int .i64 (id0 : Int), .int .i64 f0, .int .i64 n] w (Ids R) := by
  have hn0 : (n == 0) = false := by simpa using hn
  have H0 := Lib.hid hI
  have HR := Lib.hid hr
  clear hn hI hr
  unfold ptr at *
  go_enter Try.func98, Try.ntmps98
  go_wp2_with fail
  go_loopw [1, 2] (fun x1 x2 wr => ∃ (id : Nat) (f : Int), x1 = .int .i64 (id : Int) ∧ x2 = .int .i64 f ∧ I id f wr) (fun x1 _ _ => (intOf x1).toNat)
  case atStart => exact ⟨id0, f0, rfl, rfl, H0.out⟩
  case round =>
    obtain ⟨id, f, rfl, rfl, hi⟩ := hrel
    obtain ⟨total, mid, l, r, R1, S⟩ := HR.out _ _ _ hi
    have HS := Lib.hid S
    clear S hi HR H0
    have g1 := HS.out.g1 _ (Below.refl _ _)
    unfold ptr at g1
    go_wp2_with fail
    refine g1.mono ?_
    rintro _ w1 ⟨rfl, hb1⟩
    have HB1 := Lib.hid hb1
    clear hb1 g1
    by_cases h1 : n = total
    · have HE := Lib.hid (HS.out.k0 h1 _ HB1.out)
      have hnt : (n == total) = true := by simp [h1]
      go_wp2_with fail
      refine bodyPost_ret (v := .tuple #[.int .i64 (id : Int), .nilIface]) (by simp [results, Try.results98, go_sem]) rfl ?_
      exact HE.out
    have hnt : (n == total) = false := by simpa using h1
    have g2 := HS.out.g2 h1 _ HB1.out
    unfold ptr at g2
    go_wp2_with fail
    refine g2.mono ?_
    rintro _ w2 ⟨rfl, hb2⟩
    have HB2 := Lib.hid (HB1.out.trans (hb2.mono HB1.out.size))
    clear hb2 g2 HB1
    go_upto_region 11 with (fail)
    have HK := Lib.hid (Blk.new w2 95 #[.int .i64 2, .int .u8 0, .int .i64 (l : Int), .int .i64 (r : Int), .int .i64 0])
    have HB3 := Lib.hid (HB2.out.alloc HB2.out.size (.cells #[.int .i64 2, .int .u8 0, .int .i64 (l : Int), .int .i64 (r : Int), .int .i64 0] 95))
    have HZ := Lib.hid HB2.out.size
    obtain ⟨w3, hw3⟩ : ∃ w3, w3 = w2.alloc (.cells #[.int .i64 2, .int .u8 0, .int .i64 (l : Int), .int .i64 (r : Int), .int .i64 0] 95) := ⟨_, rfl⟩
    rw [← hw3] at HK HB3 ⊢
    clear hw3 HB2
    generalize w2.heap.size = q at *
    have z2 := HK.out.cell 2
    simp only [List.getElem?_toArray, List.getElem?_cons_zero, List.getElem?_cons_succ] at z2
    have g3 := HS.out.g3 h1 _ HB3.out
    unfold ptr at g3
    go_wp2_with fail
    refine g3.mono ?_
    rintro _ w4 ⟨rfl, hb4⟩
    have HK4 := Lib.hid (HK.out.below hb4 HK.out.lt)
    have HB4 := Lib.hid (HB3.out.trans (hb4.mono HB3.out.size))
    clear hb4 g3 z2 HK HB3
    have z2 := HK4.out.cell 2
    have z3 := HK4.out.cell 3
    simp only [List.getElem?_toArray, List.getElem?_cons_zero, List.getElem?_cons_succ] at z2 z3
    have s1 := HS.out.s1
    have s2 := HS.out.s2
    have s3 := HS.out.s3
    by_cases hm : f + n ≤ mid
    · have HI := Lib.hid (HS.out.k1 h1 hm _ HB4.out)
      go_wp2_with fail
      go_roundw
      case rel => exact ⟨l, f, rfl, rfl, HI.out.1⟩
      case measure => simp only [intOf]; have := HI.out.2; omega
    · by_cases hm2 : mid ≤ f
      · have HI := Lib.hid (HS.out.k2 h1 hm hm2 _ HB4.out)
        go_wp2_with fail
        go_roundw
        case rel => exact ⟨r, f - mid, rfl, rfl, HI.out.1⟩
        case measure => simp only [intOf]; have := HI.out.2; omega
      · have g5 := HS.out.k3 h1 hm hm2 _ HB4.out
        have hq : ¬ F wr q := fun hq => by have := HS.out.lt q hq; have := HZ.out; omega
        have HQ := Lib.hid hq
        clear hq
        unfold ptr at g5
        go_wp2_with fail
        refine g5.mono ?_
        rintro _ w5 ⟨⟨o, rfl, hr⟩, hk5⟩
        have HK5 := Lib.hid (HK4.out.kept hk5 HQ.out)
        clear hk5 g5 z2 z3
        cases o with
        | none =>
          have HR := Lib.hid (HS.out.n1 _ hr)
          clear hr
          unfold idV
          go_wp2_with fail
          refine bodyPost_ret (v := .tuple #[.int .i64 0, .iface 50 (.int .i64 3)]) (by simp [results, Try.results98, go_sem]) rfl ?_
          exact ⟨none, rfl, HR.out⟩
        | some i =>
          obtain ⟨R2, g6, n2, k5⟩ := HS.out.k4 i _ hr
          have N2 := Lib.hid n2
          have K5 := Lib.hid k5
          clear hr n2 k5
          have z2 := HK5.out.cell 2
          have z3 := HK5.out.cell 3
          simp only [List.getElem?_toArray, List.getElem?_cons_zero, List.getElem?_cons_succ] at z2 z3
          unfold ptr at g6
          unfold idV
          go_wp2_with fail
          refine g6.mono ?_
          rintro _ w6 ⟨o, rfl, hr⟩
          clear g6 z2 z3
          cases o with
          | none =>
            have HR := Lib.hid (N2.out _ hr)
            clear hr
            unfold idV
            go_wp2_with fail
            refine bodyPost_ret (v := .tuple #[.int .i64 0, .iface 50 (.int .i64 3)]) (by simp [results, Try.results98, go_sem]) rfl ?_
            exact ⟨none, rfl, HR.out⟩
          | some j =>
            have g7 := K5.out j _ hr
            clear hr
            unfold ptr at g7
            unfold idV
            go_wp2_with fail
            refine g7.mono ?_
            rintro _ w7 ⟨o, rfl, hr⟩
            have HR := Lib.hid hr
            clear hr g7
            cases o with
            | none =>
              unfold idV
              go_wp2_with fail
              refine bodyPost_ret (v := .tuple #[.int .i64 0, .iface 50 (.int .i64 3)]) (by simp [results, Try.results98, go_sem]) rfl ?_
              exact ⟨none, rfl, HR.out⟩
            | some y =>
              unfold idV
              go_wp2_with fail
              refine bodyPost_ret (v := .tuple #[.int .i64 (y : Int), .nilIface]) (by simp [results, Try.results98, go_sem]) rfl ?_
              exact ⟨some y, rfl, HR.out⟩
end Go.Proofs.Ytphpfkhpihlalaa
