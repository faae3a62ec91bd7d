/- The walk of wal.Sum. -/
import Derived.Test.YtcppmmdkblmfoaaProg
import Derived.Test.YtcppmmdkblmfoaaMem
import Derived.Test.YtcppmmdkblmfoaaCrc
import Derived.WalkKit
import Derived.WalkSpells
import Derived.WalkLawsBesides
import Derived.Lib.Hide
namespace Go.Proofs.Ytcppmmdkblmfoaa
open Go.RowKit
def byteV (b : UInt8) : Value := .int .u8 (b.toNat : Int)
def tabC (k : Nat) : Array Value := (Array.range 16).map fun i => .int .u32 (if i < k then (Crc.Tn 4 i : Nat) else 0 : Int)
theorem tabC_zero : #[Value.int IntKind.u32 0, Value.int IntKind.u32 0, Value.int IntKind.u32 0, Value.int IntKind.u32 0,
      Value.int IntKind.u32 0, Value.int IntKind.u32 0, Value.int IntKind.u32 0, Value.int IntKind.u32 0,
      Value.int IntKind.u32 0, Value.int IntKind.u32 0, Value.int IntKind.u32 0, Value.int IntKind.u32 0,
      Value.int IntKind.u32 0, Value.int IntKind.u32 0, Value.int IntKind.u32 0, Value.int IntKind.u32 0] = tabC 0 := by
  apply Array.toList_inj.1
  simp [tabC, List.range, List.range.loop]
theorem tabC_at (k i : Nat) (h : i < 16) : (tabC k)[i]? = some (.int .u32 (if i < k then (Crc.Tn 4 i : Nat) else 0 : Int)) := by
  simp [tabC, h]
theorem tabC_succ (k : Nat) (h : k < 16) : (tabC k).setIfInBounds k (.int .u32 (Crc.Tn 4 k : Nat)) = tabC (k + 1) := by
  apply Array.ext_getElem?
  intro i
  rw [Array.getElem?_setIfInBounds]
  have hs : (tabC k).size = 16 := by simp [tabC]
  by_cases hi : i < 16
  · rw [tabC_at _ _ hi, tabC_at _ _ hi]
    by_cases e : k = i
    · subst e; simp [hs, h]
    · by_cases h2 : i < k
      · simp [e, h2, show i < k + 1 by omega]
      · simp [e, h2, show ¬ i < k + 1 by omega]
  · rw [if_neg (by omega)]; simp [tabC, hi]
set_option maxHeartbeats 400000 in
theorem sum_any (A : Option Addr) (n c B : Nat) (l : List UInt8) (w : World) (hr : Reads w B 1 A n (l.map byteV)) (hB : B ≤ w.heap.size) (hn : n ≤ 9223372036854775807) :
    Calls Try.prog 11 #[.slice A n c] w fun e w' => e = .returned (.int .u32 (Crc.sum (l.map UInt8.toNat) : Nat)) ∧ Below w.heap.size w w' := by
  go_enter Try.func11, Try.ntmps11
  go_wp2
  go_loopw [9] (fun i wr => ∃ k : Nat, k ≤ 16 ∧ i = .int .i64 k ∧ wr = w.alloc (.cells (tabC k) 64)) (fun i _ => 16 - (intOf i).toNat)
  case atStart => exact ⟨0, by omega, rfl, by rw [tabC_zero]⟩
  case round =>
    obtain ⟨k, hk, rfl, rfl⟩ := hrel
    by_cases hlt : k < 16
    · have hget := tabC_at k k hlt
      go_wp2
      go_loop [5, 14] (fun x j => ∃ m : Nat, m ≤ 4 ∧ j = .int .i64 m ∧ x = .int .u32 (Crc.Tn m k : Nat)) (fun _ j => 4 - (intOf j).toNat)
      case atStart => exact ⟨0, by omega, rfl, rfl⟩
      case round =>
        obtain ⟨m, hm, rfl, rfl⟩ := hrel
        by_cases hlt2 : m < 4
        · have hT := Crc.Tn_lt m (x := k) (by omega)
          have e1 : bits BinOp.and IntKind.u32 (Crc.Tn m k : Nat) 1 = ((Crc.Tn m k % 2 : Nat) : Int) := by
            have := u32_and_nat (Crc.Tn m k) 1 hT (by decide)
            rw [nat_mask1] at this; exact this
          have e2 : bits BinOp.xor IntKind.u32 ((Crc.Tn m k : Nat) / 2 : Int) 2197175160 = ((Crc.Tn m k / 2 ^^^ 2197175160 : Nat) : Int) :=
            u32_xor_nat (Crc.Tn m k / 2) 2197175160 (by omega) (by decide)
          by_cases hb : Crc.Tn m k % 2 = 1
          · have hs : Crc.Tn (m + 1) k = Crc.Tn m k / 2 ^^^ 2197175160 := by simp only [Crc.Tn, Crc.T, if_pos hb]
            have b1 : (bits BinOp.and IntKind.u32 (Crc.Tn m k : Nat) 1 == 1) = true := by rw [e1, hb]; rfl
            have HS := Lib.hid hs
            have H2 := Lib.hid e2
            clear hs e1 e2 hb
            go_wp2
            go_round
            case rel => exact ⟨m + 1, by omega, by go_num, by rw [HS.out, H2.out]⟩
            case measure => simp [intOf]; omega
          · have hs : Crc.Tn (m + 1) k = Crc.Tn m k / 2 := by simp only [Crc.Tn, Crc.T, if_neg hb]
            have b1 : (bits BinOp.and IntKind.u32 (Crc.Tn m k : Nat) 1 == 1) = false := by rw [e1, show Crc.Tn m k % 2 = 0 by omega]; rfl
            have HS := Lib.hid hs
            clear hs e1 e2 hb
            go_wp2
            go_round
            case rel => exact ⟨m + 1, by omega, by go_num, by rw [HS.out]; go_num⟩
            case measure => simp [intOf]; omega
        · obtain rfl : m = 4 := by omega
          have HS := Lib.hid (tabC_succ k hlt)
          go_wp2
          go_roundw
          case rel => exact ⟨k + 1, by omega, by go_num, by rw [← HS.out]⟩
          case measure => simp [intOf]; omega
    · obtain rfl : k = 16 := by omega
      clear hk hlt
      go_wp2
      go_loop [6, 31] (fun s i => ∃ k : Nat, k ≤ n ∧ i = .int .i64 k ∧ s = .int .u32 (Crc.reg 4294967295 ((l.take k).map UInt8.toNat) : Nat)) (fun _ i => n - (intOf i).toNat)
      case atStart => exact ⟨0, by omega, rfl, rfl⟩
      case round =>
        obtain ⟨k, hk, rfl, rfl⟩ := hrel
        by_cases hlt : k < n
        · obtain ⟨ad, u, rfl, hbl, hu, hcell⟩ := (hr.alloc hB (.cells (tabC 16) 64)).at_ hlt
          have hkl : k < l.length := by have := hr.1; simp at this; omega
          have hub : u = byteV l[k] := by simpa [hkl] using hu.symm
          subst hub
          have hstep : Crc.reg 4294967295 ((l.take (k + 1)).map UInt8.toNat) = Crc.byte (Crc.reg 4294967295 ((l.take k).map UInt8.toNat)) l[k].toNat := by
            rw [List.take_succ_eq_append_getElem hkl, List.map_append, Crc.reg_append]; rfl
          have hR : Crc.reg 4294967295 ((l.take k).map UInt8.toNat) < 4294967296 := Crc.reg_lt _ (by decide) (by
            intro b hb; simp only [List.mem_map] at hb; obtain ⟨x, _, rfl⟩ := hb; exact x.toNat_lt)
          generalize Crc.reg 4294967295 ((l.take k).map UInt8.toNat) = R at *
          have hb := l[k].toNat_lt
          unfold byteV at hcell
          generalize l[k].toNat = b at *
          rw [Crc.byte_eq] at hstep
          have e1 : bits BinOp.xor IntKind.u32 (R : Int) (b : Int) = ((R ^^^ b : Nat) : Int) := u32_xor_nat R b hR (by omega)
          have hX : R ^^^ b < 4294967296 := Nat.xor_lt_two_pow (n := 32) hR (by omega)
          generalize R ^^^ b = X at *
          have e2 : bits BinOp.and IntKind.u32 (X : Int) 15 = ((X % 16 : Nat) : Int) := by
            have := u32_and_nat X 15 hX (by decide)
            rw [nat_mask4] at this; exact this
          have t2 := tabC_at 16 (X % 16) (by omega)
          rw [if_pos (by omega)] at t2
          have hTX := Crc.Tn_lt 4 (x := X % 16) (by omega)
          have h4 := Crc.four X
          have e3 : bits BinOp.xor IntKind.u32 ((X : Int) / 16) (Crc.Tn 4 (X % 16) : Nat) = ((Crc.Tn 4 X : Nat) : Int) := by
            rw [h4]; exact u32_xor_nat (X / 16) (Crc.Tn 4 (X % 16)) (by omega) hTX
          clear h4
          have hY := Crc.Tn_lt 4 (x := X) hX
          generalize Crc.Tn 4 X = Y at *
          have e4 : bits BinOp.and IntKind.u32 (Y : Int) 15 = ((Y % 16 : Nat) : Int) := by
            have := u32_and_nat Y 15 hY (by decide)
            rw [nat_mask4] at this; exact this
          have t3 := tabC_at 16 (Y % 16) (by omega)
          rw [if_pos (by omega)] at t3
          have e5 : bits BinOp.xor IntKind.u32 ((Y : Int) / 16) (Crc.Tn 4 (Y % 16) : Nat) = ((Y / 16 ^^^ Crc.Tn 4 (Y % 16) : Nat) : Int) :=
            u32_xor_nat (Y / 16) (Crc.Tn 4 (Y % 16)) (by omega) (Crc.Tn_lt 4 (by omega))
          have HS := Lib.hid hstep
          have H5 := Lib.hid e5
          clear hstep e5
          go_wp2
          go_round
          case rel => exact ⟨k + 1, by omega, by go_num, by rw [HS.out, H5.out]⟩
          case measure => simp [intOf]; omega
        · have hkn : k = n := by omega
          have hll : l.length ≤ k := by have := hr.1; simp at this; omega
          rw [List.take_of_length_le hll]
          have hR : Crc.reg 4294967295 (l.map UInt8.toNat) < 4294967296 := Crc.reg_lt _ (by decide) (by
            intro b hb; simp only [List.mem_map] at hb; obtain ⟨x, _, rfl⟩ := hb; exact x.toNat_lt)
          have he := u32_xor_nat 4294967295 _ (by decide) hR
          have HE := Lib.hid he
          clear hkn he
          go_wp2
          go_ret
          exact ⟨congrArg (fun x => Ending.returned (.int .u32 x)) HE.out, (Below.refl _ _).alloc (Nat.le_refl _) _⟩
end Go.Proofs.Ytcppmmdkblmfoaa
