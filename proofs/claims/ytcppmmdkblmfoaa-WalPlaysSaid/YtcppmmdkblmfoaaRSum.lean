/- The walk of the reference's Sum. -/
import Derived.Test.YtcppmmdkblmfoaaSum
namespace Go.Proofs.Ytcppmmdkblmfoaa
open Go.RowKit
theorem bit_val (y b m : Nat) (hy : y < 4294967296) (hb : b < 256) :
    bits BinOp.xor IntKind.u32 (bits BinOp.and IntKind.u32 (y : Int) 1) (bits BinOp.and IntKind.u32 ((b : Int) / 2 ^ m % 4294967296) 1) = (((y % 2 + b / 2 ^ m % 2) % 2 : Nat) : Int) := by
  have hq : b / 2 ^ m ≤ b := Nat.div_le_self _ _
  have e0 : ((b : Int) / 2 ^ m % 4294967296) = ((b / 2 ^ m : Nat) : Int) := by
    have h1 : ((b : Int) / 2 ^ m) = ((b / 2 ^ m : Nat) : Int) := by simp
    rw [h1]; clear h1; generalize b / 2 ^ m = q at *; omega
  rw [e0]
  generalize b / 2 ^ m = q at *
  have h1 := u32_and_nat y 1 hy (by decide)
  have h2 := u32_and_nat q 1 (by omega) (by decide)
  rw [nat_mask1] at h1 h2
  have h3 := u32_xor_nat (y % 2) (q % 2) (by omega) (by omega)
  rw [show ((1 : Nat) : Int) = 1 from rfl] at h1 h2
  rw [h1, h2, h3]
  rcases Nat.mod_two_eq_zero_or_one y with a | a <;> rcases Nat.mod_two_eq_zero_or_one q with c | c <;> simp [a, c]
theorem T_bit (y q : Nat) : Crc.T (y ^^^ q % 2) = if (y % 2 + q % 2) % 2 = 1 then y / 2 ^^^ 2197175160 else y / 2 := by
  unfold Crc.T
  rw [Crc.xor_mod2, Crc.xor_div2]
  have : q % 2 / 2 = 0 := by omega
  rw [this]; simp
set_option maxHeartbeats 400000 in
theorem rsum_any (A : Option Addr) (n c B : Nat) (l : List UInt8) (w : World) (hr : Reads w B 1 A n (l.map byteV)) (hn : n ≤ 9223372036854775807) :
    Calls Try.prog 12 #[.slice A n c] w fun e w' => e = .returned (.int .u32 (Crc.sum (l.map UInt8.toNat) : Nat)) ∧ w = w' := by
  go_enter Try.func12, Try.ntmps12
  go_wp2
  go_loop [3, 9] (fun s i => ∃ k : Nat, k ≤ n ∧ i = .int .i64 k ∧ s = .int .u32 (Crc.reg 4294967295 ((l.take k).map UInt8.toNat) : Nat)) (fun _ i => n - (intOf i).toNat)
  case atStart => exact ⟨0, by omega, rfl, rfl⟩
  case round =>
    obtain ⟨k, hk, rfl, rfl⟩ := hrel
    by_cases hlt : k < n
    · obtain ⟨ad, u, rfl, hbl, hu, hcell⟩ := hr.at_ hlt
      have hkl : k < l.length := by have := hr.1; simp at this; omega
      have hub : u = byteV l[k] := by simpa [hkl] using hu.symm
      subst hub
      have hstep : Crc.reg 4294967295 ((l.take (k + 1)).map UInt8.toNat) = Crc.byte (Crc.reg 4294967295 ((l.take k).map UInt8.toNat)) l[k].toNat := by
        rw [List.take_succ_eq_append_getElem hkl, List.map_append, Crc.reg_append]; rfl
      have hR : Crc.reg 4294967295 ((l.take k).map UInt8.toNat) < 4294967296 := Crc.reg_lt _ (by decide) (by
        intro b hb; simp only [List.mem_map] at hb; obtain ⟨x, _, rfl⟩ := hb; exact x.toNat_lt)
      generalize Crc.reg 4294967295 ((l.take k).map UInt8.toNat) = R at *
      have hb := l[k].toNat_lt
      unfold byteV at hcell
      generalize l[k].toNat = b at *
      have HS := Lib.hid hstep
      clear hstep
      go_wp2
      go_loop [3, 12] (fun x j => ∃ m y : Nat, m ≤ 8 ∧ j = .int .i64 m ∧ x = .int .u32 (y : Nat) ∧ y < 4294967296 ∧ y ^^^ b / 2 ^ m = Crc.Tn m (R ^^^ b)) (fun _ j => 8 - (intOf j).toNat)
      case atStart => exact ⟨0, R, by omega, rfl, rfl, hR, by simp [Crc.Tn]⟩
      case round =>
        obtain ⟨m, y, hm, rfl, rfl, hy, hrel⟩ := hrel
        have HR := Lib.hid hrel
        clear hrel
        by_cases hlt2 : m < 8
        · have hbit := Crc.bit_step m HR.out
          rw [T_bit] at hbit
          have hv := bit_val y b m hy hb
          by_cases h1 : (y % 2 + b / 2 ^ m % 2) % 2 = 1
          · rw [if_pos h1] at hbit
            have b1 : (bits BinOp.xor IntKind.u32 (bits BinOp.and IntKind.u32 (y : Int) 1) (bits BinOp.and IntKind.u32 ((b : Int) / 2 ^ m % 4294967296) 1) == 1) = true := by rw [hv, h1]; rfl
            have hx : (y / 2 ^^^ 2197175160) < 4294967296 := Nat.xor_lt_two_pow (n := 32) (by omega) (by decide)
            have hz := u32_xor_nat (y / 2) 2197175160 (by omega) (by decide)
            have HB := Lib.hid hbit
            have HZ := Lib.hid hz
            clear hbit hz hv h1
            go_wp2
            go_roundw
            case rel => exact ⟨m + 1, _, by omega, by go_num, congrArg (fun x => Value.int .u32 x) HZ.out, hx, HB.out⟩
            case measure => simp [intOf]; omega
          · rw [if_neg h1] at hbit
            have b1 : (bits BinOp.xor IntKind.u32 (bits BinOp.and IntKind.u32 (y : Int) 1) (bits BinOp.and IntKind.u32 ((b : Int) / 2 ^ m % 4294967296) 1) == 1) = false := by
              rw [hv, show (y % 2 + b / 2 ^ m % 2) % 2 = 0 by omega]; rfl
            have HB := Lib.hid hbit
            clear hbit hv h1
            go_wp2
            go_roundw
            case rel => exact ⟨m + 1, y / 2, by omega, by go_num, by go_num, by omega, HB.out⟩
            case measure => simp [intOf]; omega
        · obtain rfl : m = 8 := by omega
          have he := Crc.bit_end hb HR.out
          have HE := Lib.hid he
          clear he
          go_wp2
          go_round
          case rel => exact ⟨k + 1, by omega, by go_num, by rw [HE.out, HS.out]⟩
          case measure => simp [intOf]; omega
    · have hkn : k = n := by omega
      have hll : l.length ≤ k := by have := hr.1; simp at this; omega
      rw [List.take_of_length_le hll]
      have hR : Crc.reg 4294967295 (l.map UInt8.toNat) < 4294967296 := Crc.reg_lt _ (by decide) (by
        intro b hb; simp only [List.mem_map] at hb; obtain ⟨x, _, rfl⟩ := hb; exact x.toNat_lt)
      have he := u32_xor_nat 4294967295 _ (by decide) hR
      have HE := Lib.hid he
      clear hkn he
      go_wp2
      go_ret
      exact ⟨congrArg (fun x => Ending.returned (.int .u32 x)) HE.out, rfl⟩
end Go.Proofs.Ytcppmmdkblmfoaa
