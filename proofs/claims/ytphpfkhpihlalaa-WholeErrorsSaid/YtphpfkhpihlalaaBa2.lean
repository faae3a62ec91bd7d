/- The walk of balance.repeat. -/
import Derived.Test.YtphpfkhpihlalaaBa1
import Derived.LoopTactic
namespace Go.Proofs.Ytphpfkhpihlalaa
open Go.RowKit
set_option maxRecDepth 100000 in
set_option maxHeartbeats 2000000 in
theorem repeat_walk (p id0 k0 : Nat) (w : World) {R : Option Nat → World → Prop} (I J : Nat → Nat → Nat → World → Prop) (R1 R2 : Nat → Nat → Option Nat → World → Prop) (hI : I id0 k0 0 w)
    (hk : ∀ id k r W, I id k r W → k < 9223372036854775808 ∧ 0 < k)
    (g1 : ∀ id k r W, I id k r W → k % 2 = 1 → Calls Try.prog 17 #[ptr p, .int .i64 ((r : Nat) : Int), .int .i64 ((id : Nat) : Int)] W (Ids (R1 id k)))
    (n1 : ∀ id k W, R1 id k none W → R none W) (j0 : ∀ id k r W, I id k r W → ¬ k % 2 = 1 → J id k r W) (j1 : ∀ id k r W, R1 id k (some r) W → J id k r W)
    (fin : ∀ id k r W, J id k r W → k / 2 = 0 → R (some r) W)
    (g2 : ∀ id k r W, J id k r W → k / 2 ≠ 0 → Calls Try.prog 17 #[ptr p, .int .i64 ((id : Nat) : Int), .int .i64 ((id : Nat) : Int)] W (Ids (R2 k r)))
    (n2 : ∀ k r W, R2 k r none W → R none W) (i2 : ∀ id k r W, R2 k r (some id) W → I id (k / 2) r W) :
    Calls Try.prog 37 #[ptr p, .int .i64 (id0 : Int), .int .i64 (k0 : Int)] w (Ids R) := by
  have G1 := Lib.hid g1
  have G2 := Lib.hid g2
  have N1 := Lib.hid n1
  have N2 := Lib.hid n2
  have J0 := Lib.hid j0
  have J1 := Lib.hid j1
  have FIN := Lib.hid fin
  have I2 := Lib.hid i2
  have HK := Lib.hid hk
  have H0 := Lib.hid hI
  clear g1 g2 n1 n2 j0 j1 fin i2 hk hI
  unfold ptr at *
  go_enter Try.func37, Try.ntmps37
  go_wp2_with fail
  go_loopw [1, 2, 8] (fun x1 x2 x8 wr => ∃ id k r : Nat, x1 = .int .i64 (id : Int) ∧ x2 = .int .i64 (k : Int) ∧ x8 = .int .i64 (r : Int) ∧ I id k r wr) (fun _ x2 _ _ => (intOf x2).toNat)
  case atStart => exact ⟨id0, k0, 0, rfl, rfl, rfl, H0.out⟩
  case round =>
    obtain ⟨id, k, r, rfl, rfl, rfl, hi⟩ := hrel
    have HI := Lib.hid hi
    clear hi
    have hk1 := (HK.out _ _ _ _ HI.out).1
    have hk2 := (HK.out _ _ _ _ HI.out).2
    have hq : wrap64 ((k : Int) / 2) = ((k / 2 : Nat) : Int) := by
      unfold wrap64; omega
    obtain ⟨kq, hkq⟩ : ∃ kq, kq = k / 2 := ⟨_, rfl⟩
    rw [← hkq] at hq
    have HQ := Lib.hid hkq
    have HK2 := Lib.hid hk2
    clear hkq hk1 hk2
    by_cases hodd : k % 2 = 1
    · have hm1 : (((k : Int) % 2) == 1) = true := by simp; omega
      have g5 := G1.out id k r _ HI.out hodd
      go_wp2_with fail
      refine g5.mono ?_
      rintro _ w5 ⟨z, rfl, hr⟩
      clear g5
      cases z with
      | none =>
        have HR := Lib.hid (N1.out id k _ hr)
        clear hr
        unfold idV
        go_wp2_with fail
        refine bodyPost_ret (v := .tuple #[.int .i64 0, .iface 50 (.int .i64 3)]) (by simp [results, Try.results37, go_sem]) rfl ?_
        exact ⟨none, rfl, HR.out⟩
      | some r1 =>
        have hJ := Lib.hid (J1.out id k r1 _ hr)
        clear hr
        unfold idV
        by_cases hq0 : kq = 0
        · have HR := Lib.hid (FIN.out id k r1 _ hJ.out (by have := HQ.out; omega))
          have hqz : ((kq : Int) == 0) = true := by simp; omega
          go_wp2_with fail
          refine bodyPost_ret (v := .tuple #[.int .i64 (r1 : Int), .nilIface]) (by simp [results, Try.results37, go_sem]) rfl ?_
          exact ⟨some r1, rfl, HR.out⟩
        · have hqz : ((kq : Int) == 0) = false := by simp; omega
          have g6 := G2.out id k r1 _ hJ.out (by have := HQ.out; omega)
          go_wp2_with fail
          refine g6.mono ?_
          rintro _ w6 ⟨z, rfl, hr⟩
          clear g6
          cases z with
          | none =>
            have HR := Lib.hid (N2.out k r1 _ hr)
            clear hr
            unfold idV
            go_wp2_with fail
            refine bodyPost_ret (v := .tuple #[.int .i64 0, .iface 50 (.int .i64 3)]) (by simp [results, Try.results37, go_sem]) rfl ?_
            exact ⟨none, rfl, HR.out⟩
          | some id2 =>
            have HI := Lib.hid (I2.out id2 k r1 _ hr)
            clear hr
            unfold idV
            go_wp2_with fail
            go_roundw
            case rel => exact ⟨id2, kq, r1, rfl, rfl, rfl, by rw [HQ.out]; exact HI.out⟩
            case measure => simp only [intOf]; have := HQ.out; have := HK2.out; omega
    · have hm1 : (((k : Int) % 2) == 1) = false := by simp; omega
      have hJ := Lib.hid (J0.out id k r _ HI.out hodd)
      by_cases hq0 : kq = 0
      · have HR := Lib.hid (FIN.out id k r _ hJ.out (by have := HQ.out; omega))
        have hqz : ((kq : Int) == 0) = true := by simp; omega
        go_wp2_with fail
        refine bodyPost_ret (v := .tuple #[.int .i64 (r : Int), .nilIface]) (by simp [results, Try.results37, go_sem]) rfl ?_
        exact ⟨some r, rfl, HR.out⟩
      · have hqz : ((kq : Int) == 0) = false := by simp; omega
        have g6 := G2.out id k r _ hJ.out (by have := HQ.out; omega)
        go_wp2_with fail
        refine g6.mono ?_
        rintro _ w6 ⟨z, rfl, hr⟩
        clear g6
        cases z with
        | none =>
          have HR := Lib.hid (N2.out k r _ hr)
          clear hr
          unfold idV
          go_wp2_with fail
          refine bodyPost_ret (v := .tuple #[.int .i64 0, .iface 50 (.int .i64 3)]) (by simp [results, Try.results37, go_sem]) rfl ?_
          exact ⟨none, rfl, HR.out⟩
        | some id2 =>
          have HI := Lib.hid (I2.out id2 k r _ hr)
          clear hr
          unfold idV
          go_wp2_with fail
          go_roundw
          case rel => exact ⟨id2, kq, r, rfl, rfl, rfl, by rw [HQ.out]; exact HI.out⟩
          case measure => simp only [intOf]; have := HQ.out; have := HK2.out; omega
end Go.Proofs.Ytphpfkhpihlalaa
