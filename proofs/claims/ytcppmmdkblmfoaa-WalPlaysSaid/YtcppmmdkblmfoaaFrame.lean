/- The walks of wal.Frame, the reference's number and Frame. -/
import Derived.Test.YtcppmmdkblmfoaaPut
import Derived.Test.YtcppmmdkblmfoaaRSum
namespace Go.Proofs.Ytcppmmdkblmfoaa
open Go.RowKit
theorem be4b_vals (x : Nat) (h : x < 4294967296) : u8s (be4 x) = (be4b x).map byteV := by
  have e : ∀ k : Nat, k < 256 → k % 256 = k := fun k h => Nat.mod_eq_of_lt h
  simp [be4, be4b, u8s, byteV, UInt8.toNat_ofNat']
  omega
theorem put_b (base : Nat) (A : Option Addr) (n c : Nat) (xs : List UInt8) (x : Nat) (w : World) (hown : w.ownsRow base 5 1 (.slice A n c) n (xs.map byteV)) (hx : x < 4294967296) (hn : n ≤ 1000000000) (hb : base ≤ w.heap.size) :
    Calls Try.prog 33 #[.slice A n c, .int .u32 (x : Int)] w fun e w' => ∃ A' c', e = .returned (.slice A' (n + 4) c') ∧ w'.ownsRow base 5 1 (.slice A' (n + 4) c') (n + 4) ((xs ++ be4b x).map byteV) ∧ w.grownBy w' (Value.slice A n c).ownBlock := by
  refine (put_any base _ n _ x w hown hx hn hb).mono ?_
  rintro e w' ⟨v', rfl, hown', hg⟩
  obtain ⟨A', c', rfl⟩ := own_form hown'
  rw [be4b_vals x hx, ← List.map_append] at hown'
  exact ⟨A', c', rfl, hown', hg⟩
theorem oneB (l : List UInt8) : ∀ u ∈ l.map byteV, u.oneCell' = true := by
  intro u hu; simp only [List.mem_map] at hu; obtain ⟨x, _, rfl⟩ := hu; rfl
theorem frame_none (A : Option Addr) (c : Nat) (w : World) :
    Calls Try.prog 13 #[.slice A 0 c] w fun e w' => e = .returned (.tuple #[.slice none 0 0, .iface 33 (.int .i64 4)]) ∧ w = w' := by
  go_enter Try.func13, Try.ntmps13
  go_wp2
  go_ret2
  exact ⟨rfl, rfl⟩
theorem frame_large (A : Option Addr) (n c : Nat) (w : World) (h : 1048576 < n) :
    Calls Try.prog 13 #[.slice A n c] w fun e w' => e = .returned (.tuple #[.slice none 0 0, .iface 33 (.int .i64 9)]) ∧ w = w' := by
  have hz : ((n : Int) == 0) = false := by simp; omega
  go_enter Try.func13, Try.ntmps13
  go_wp2
  go_ret2
  exact ⟨rfl, rfl⟩
set_option maxRecDepth 100000 in
set_option maxHeartbeats 400000 in
theorem frame_ok (A : Option Addr) (n c B : Nat) (l : List UInt8) (w : World) (hr : Reads w B 1 A n (l.map byteV)) (hB : B ≤ w.heap.size) (h0 : 0 < n) (h1 : n ≤ 1048576) :
    Calls Try.prog 13 #[.slice A n c] w fun e w' => ∃ A' c', e = .returned (.tuple #[.slice A' (n + 8) c', .nilIface]) ∧ w'.ownsRow w.heap.size 5 1 (.slice A' (n + 8) c') (n + 8) ((frameL l).map byteV) ∧ Below w.heap.size w w' := by
  obtain ⟨i0, hi, hz0, hz1, hz2⟩ := info_parts Try.info5
  have hz : ((n : Int) == 0) = false := by simp; omega
  have hg : ¬ (1048576 : Int) < n := by omega
  go_enter Try.func13, Try.ntmps13
  go_wp2_with (at_make; refine wpList_make_own _ rfl _ _ 22 rfl w.heap.size 5 i0 (.int .u8 0) 1 Try.underlying22 hi hz0 hz1 _ _ _ (8 + n) rfl rfl (by omega) (by rw [hz2]; omega) (by unfold maxLen; omega) (Nat.le_refl _) ?_; intro w1 hown1 hg1)
  have hr1 := hr.grown hg1 hB (by simp)
  have hb1 : Below w.heap.size w w1 := (Below.refl _ _).grown hg1 (Nat.le_refl _) (by simp)
  refine (put_b w.heap.size _ 0 _ [] n _ hown1 (by omega) (by omega) hb1.size).mono ?_
  rintro e w2 ⟨A2, c2, rfl, hown2, hg2⟩
  have hr2 := hr1.grown hg2 (by have := hb1.size; omega) (by rintro g hg; have := hown1.lt g hg; omega)
  have hb2 : Below w.heap.size w w2 := hb1.grown hg2 hb1.size (by rintro g hg; exact (hown1.lt g hg).1)
  clear hg1 hr1 hg2
  go_wp2_with fail
  refine (sum_any A n c B l w2 hr2 (by have := hb2.size; omega) (by omega)).mono ?_
  rintro e w3 ⟨rfl, hb3⟩
  have hown3 := own_below hown2 hb3
  have hr3 := hr2.below (hb3.mono (by have := hb2.size; omega))
  have hb3' : Below w.heap.size w w3 := hb2.trans (hb3.mono hb2.size)
  clear hb3 hr2 hown2 hb2
  have hs := Crc.sum_lt _ (bytes_lt l)
  go_wp2_with fail
  refine (put_b w.heap.size _ 4 _ _ (Crc.sum (bytes l)) _ hown3 hs (by omega) hb3'.size).mono ?_
  rintro e w4 ⟨A4, c4, rfl, hown4, hg4⟩
  have hr4 := hr3.grown hg4 (by have := hb3'.size; omega) (by rintro g hg; have := hown3.lt g hg; omega)
  have hb4 : Below w.heap.size w w4 := hb3'.grown hg4 hb3'.size (by rintro g hg; exact (hown3.lt g hg).1)
  clear hg4 hr3 hown3 hb3'
  go_wp2_with (at_builtin; refine wpList_append_any _ rfl _ _ 22 rfl w.heap.size 5 i0 (.int .u8 0) 1 1 Try.underlying22 hi hz0 hz1 hz2 rfl (by decide) _ _ _ rfl hown4 B A n c (l.map byteV) rfl hr4 ?c1 ?c2 ?c3 ?c4 ?_)
  case c1 => exact oneB l
  case c2 => unfold maxLen; omega
  case c3 => omega
  case c4 => exact hb4.size
  intro v5 w5 hown5 hg5 _
  obtain ⟨A5, c5, rfl⟩ := own_form hown5
  have hb5 := below_own hb4 hb4.size (Nat.le_refl _) hown4 hg5
  have hl : n = l.length := by have := hr.1; simp at this; omega
  have HL := Lib.hid hl
  clear hl hr4 hb4 hg5 hown4
  go_wp2
  go_ret2
  refine ⟨A5, c5, by rw [show 4 + 4 + n = n + 8 by omega]; rfl, ?_, hb5⟩
  have := hown5
  rw [← List.map_append, show 4 + 4 + n = n + 8 by omega] at this
  unfold frameL
  rw [← HL.out]
  exact this
end Go.Proofs.Ytcppmmdkblmfoaa
