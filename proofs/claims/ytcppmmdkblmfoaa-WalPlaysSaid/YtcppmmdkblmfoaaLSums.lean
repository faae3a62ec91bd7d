/- The walk of the law WalSums. -/
import Derived.Test.YtcppmmdkblmfoaaAwake
import Derived.ChangeAlike
namespace Go.Proofs.Ytcppmmdkblmfoaa
open Go.RowKit
set_option maxRecDepth 100000 in
set_option maxHeartbeats 400000 in
theorem sums_long (A : Option Addr) (n c : Nat) (bit : Int) (w : World) (hn : 2000 < n) :
    Calls Try.prog 3 #[.slice A n c, .int .u16 bit] w (AwEnd w) := by
  have hn' : (2000 : Int) < (n : Int) := by omega
  go_enter Try.func3, Try.ntmps3
  go_wp2_with fail
  refine (awake_any w).mono ?_
  rintro e w1 ⟨rfl, hb1⟩
  go_wp2_with fail
  refine (awake_any w1).mono ?_
  rintro e w2 ⟨rfl, hb2⟩
  have hb := hb1.trans (hb2.mono hb1.size)
  go_wp2_with fail
  go_ret
  exact ⟨rfl, hb⟩
set_option maxRecDepth 100000 in
set_option maxHeartbeats 400000 in
theorem sums_empty (A : Option Addr) (c B : Nat) (bit : Int) (w : World) (hr : Reads w B 1 A 0 (([] : List UInt8).map byteV)) (hB : B ≤ w.heap.size) :
    Calls Try.prog 3 #[.slice A 0 c, .int .u16 bit] w (AwEnd w) := by
  have HS := Lib.hid (show Crc.sum ((([] : List UInt8).map UInt8.toNat)) = 0 by decide +kernel)
  go_enter Try.func3, Try.ntmps3
  go_wp2_with fail
  refine (awake_any w).mono ?_
  rintro e w1 ⟨rfl, hb1⟩
  have hr1 := hr.below (hb1.mono hB)
  go_wp2_with fail
  refine (sum_any _ 0 _ B [] w1 hr1 (by have := hb1.size; omega) (by decide)).mono ?_
  rintro e w2 ⟨rfl, hb2⟩
  have hb2' := hb1.trans (hb2.mono hb1.size)
  have hr2 := hr1.below (hb2.mono (by have := hb1.size; omega))
  rw [HS.out]
  clear hb1 hb2
  go_wp2_with fail
  refine (rsum_any _ 0 _ B [] w2 hr2 (by decide)).mono ?_
  rintro e w3 ⟨rfl, rfl⟩
  rw [HS.out]
  go_wp2_with fail
  go_ret
  exact ⟨rfl, hb2'⟩
/-- A changed bit of one byte: another byte, and another checksum. -/
theorem bit_change (l : List UInt8) (j k : Nat) (hj : j < l.length) (hk : k < 8) :
    ∃ y : UInt8, bits BinOp.xor IntKind.u8 ((l[j].toNat : Nat) : Int) ((2 : Int) ^ k % 256) = (y.toNat : Int) ∧ Crc.sum ((l.set j y).map UInt8.toNat) ≠ Crc.sum (l.map UInt8.toNat) := by
  have hp : 2 ^ k < 256 := Nat.lt_of_lt_of_le (Nat.pow_lt_pow_right (by decide) hk) (by decide)
  have hx := l[j].toNat_lt
  have hy : l[j].toNat ^^^ 2 ^ k < 256 := Nat.xor_lt_two_pow (n := 8) hx hp
  refine ⟨UInt8.ofNat (l[j].toNat ^^^ 2 ^ k), ?_, ?_⟩
  · have e0 : ((2 : Int) ^ k % 256) = ((2 ^ k : Nat) : Int) := by
      have h1 : ((2 : Int) ^ k) = ((2 ^ k : Nat) : Int) := by simp
      rw [h1]; clear h1; generalize 2 ^ k = p at *; omega
    rw [e0, u8_xor_nat _ _ hx hp, UInt8.toNat_ofNat', Nat.mod_eq_of_lt hy]
  · have hne : l[j].toNat ^^^ 2 ^ k ≠ l[j].toNat := by
      intro h
      have h2 : l[j].toNat ^^^ (l[j].toNat ^^^ 2 ^ k) = l[j].toNat ^^^ l[j].toNat := by rw [h]
      rw [← Nat.xor_assoc, Nat.xor_self, Nat.zero_xor] at h2
      have := Nat.two_pow_pos k
      omega
    have e1 : l.set j (UInt8.ofNat (l[j].toNat ^^^ 2 ^ k)) = l.take j ++ UInt8.ofNat (l[j].toNat ^^^ 2 ^ k) :: l.drop (j + 1) := by rw [List.set_eq_take_append_cons_drop, if_pos hj]
    have e2 : l = l.take j ++ l[j] :: l.drop (j + 1) := by
      rw [← List.drop_eq_getElem_cons hj, List.take_append_drop]
    rw [e1]
    intro h
    have h3 : Crc.sum (l.map UInt8.toNat) = Crc.sum ((l.take j ++ l[j] :: l.drop (j + 1)).map UInt8.toNat) := by rw [← e2]
    rw [h3] at h
    rw [List.map_append, List.map_append, List.map_cons, List.map_cons, UInt8.toNat_ofNat', Nat.mod_eq_of_lt hy] at h
    exact Crc.sum_change _ _ _ _ (bytes_lt _) (bytes_lt _) hy hx hne h
set_option maxRecDepth 100000 in
set_option maxHeartbeats 400000 in
theorem sums_some (A : Option Addr) (n c B : Nat) (l : List UInt8) (bit : Nat) (w : World) (hr : Reads w B 1 A n (l.map byteV)) (hB : B ≤ w.heap.size) (h0 : 0 < n) (hn : n ≤ 2000) (hbit : bit < 65536) :
    Calls Try.prog 3 #[.slice A n c, .int .u16 (bit : Int)] w (AwEnd w) := by
  obtain ⟨i0, hi, hz0, hz1, hz2⟩ := info_parts Try.info5
  have hn' : ¬ (2000 : Int) < (n : Int) := by omega
  have hnz : ((n : Int) == 0) = false := by simp; omega
  go_enter Try.func3, Try.ntmps3
  go_wp2_with fail
  refine (awake_any w).mono ?_
  rintro e w1 ⟨rfl, hb1⟩
  have hr1 := hr.below (hb1.mono hB)
  go_wp2_with fail
  refine (sum_any _ n _ B l w1 hr1 (by have := hb1.size; omega) (by omega)).mono ?_
  rintro e w2 ⟨rfl, hb2⟩
  have hb2' := hb1.trans (hb2.mono hb1.size)
  have hr2 := hr1.below (hb2.mono (by have := hb1.size; omega))
  obtain ⟨S, hS⟩ : ∃ S, S = Crc.sum (l.map UInt8.toNat) := ⟨_, rfl⟩
  rw [← hS]
  have HS := Lib.hid hS
  clear hb1 hb2 hS hr1
  go_wp2_with fail
  refine (rsum_any _ n _ B l w2 hr2 (by omega)).mono ?_
  rintro e w3 ⟨rfl, rfl⟩
  rw [← HS.out]
  have hown0 := World.ownsRow_lit (e := 5) (size := 1) w2 #[] 0 (Nat.le_refl _) (by decide) rfl
  have hr3 := hr2.alloc (by have := hb2'.size; omega) (.cells #[] 5)
  go_wp2_with (at_builtin; refine wpList_append_any _ rfl _ _ 22 rfl w2.heap.size 5 i0 (.int .u8 0) 1 1 Try.underlying22 hi hz0 hz1 hz2 rfl (by decide) _ _ _ rfl hown0 B _ n c (l.map byteV) rfl hr3 (oneB l) (by unfold maxLen; omega) (by omega) (by simp) ?_)
  intro v5 w5 hown5 hg5 _
  obtain ⟨g, cap, rfl, hgb, hgl⟩ := hown5.form h0
  have hb5 := below_own (hb2'.alloc hb2'.size (.cells #[] 5)) (by simp; have := hb2'.size; omega) (by have := hb2'.size; omega) hown0 hg5
  have hll : l.length = n := by have := hr.1; simpa using this
  obtain ⟨q, hq⟩ : ∃ q : Nat, q = bit % (8 * n) := ⟨_, rfl⟩
  have hql : q < 8 * n := by rw [hq]; exact Nat.mod_lt _ (by omega)
  have hqi : (bit : Int) % (8 * (n : Int)) = (q : Int) := by rw [hq]; simp
  clear hq
  have hj : q / 8 < l.length := by omega
  have hcell := hown5.cellAt (q / 8) (by omega)
  have hfro := hown5.frozenAt (q / 8)
  have hx : (l.map byteV)[q / 8]? = some (byteV (l[q / 8]'hj)) := by simp [hj]
  rw [hx] at hcell
  unfold byteV at hcell
  have hxl := (l[q / 8]'hj).toNat_lt
  have hstore := hown5.stored (q / 8)
  have j1 : (q : Int) / 8 < (n : Int) := by omega
  clear hx hg5 hr3 hown0
  obtain ⟨y, hy, hch⟩ := bit_change l (q / 8) (q % 8) hj (by omega)
  rw [← HS.out] at hch
  generalize (l[q / 8]'hj).toNat = x at *
  have HY := Lib.hid hy
  clear hy
  go_wp2_with fail
  go_region
  rw [HY.out]
  have hown6 := (hstore (.int .u8 (y.toNat : Int))).1
  have hset : (l.map byteV).set (q / 8) (.int .u8 (y.toNat : Int)) = (l.set (q / 8) y).map byteV := by rw [List.map_set]; rfl
  rw [hset] at hown6
  have hrd : Reads (w5.setCell ⟨g, q / 8, none⟩ (.int .u8 (y.toNat : Int))).drew (w5.setCell ⟨g, q / 8, none⟩ (.int .u8 (y.toNat : Int))).drew.heap.size 1 _ n _ := (Reads.of_own hown6).drew
  have hb6 : Below w.heap.size w (w5.setCell ⟨g, q / 8, none⟩ (.int .u8 (y.toNat : Int))).drew := (hb5.setCell (p := ⟨g, q / 8, none⟩) (by have := hb2'.size; show w.heap.size ≤ g; omega) _).drew
  generalize (w5.setCell ⟨g, q / 8, none⟩ (.int .u8 (y.toNat : Int))).drew = w6 at *
  clear hstore hown6 hset hcell hfro hown5 hb5 j1 hr2 hb2' hqi
  go_wp2_with fail
  refine (sum_any _ n _ _ (l.set (q / 8) y) w6 hrd (Nat.le_refl _) (by omega)).mono ?_
  rintro e w7 ⟨rfl, hb7⟩
  have hb7' := hb6.trans (hb7.mono hb6.size)
  generalize Crc.sum ((l.set (q / 8) y).map UInt8.toNat) = S' at *
  have b1 : ((S' : Int) != (S : Int)) = true := by simpa using fun h => hch (by omega)
  go_wp2_with fail
  go_ret
  exact ⟨rfl, hb7'⟩
end Go.Proofs.Ytcppmmdkblmfoaa
