/- The walks of bytes.Clone, the reference's number and Frame. -/
import Derived.Test.YtcppmmdkblmfoaaFrame
namespace Go.Proofs.Ytcppmmdkblmfoaa
open Go.RowKit
theorem number_any (x : Nat) (w : World) (hx : x < 4294967296) :
    Calls Try.prog 34 #[.int .u32 (x : Int)] w fun e w' => e = .returned (.slice (some ⟨w.heap.size, 0, none⟩) 4 4) ∧ w'.ownsRow w.heap.size 5 1 (.slice (some ⟨w.heap.size, 0, none⟩) 4 4) 4 ((be4b x).map byteV) ∧ Below w.heap.size w w' := by
  go_enter Try.func34, Try.ntmps34
  go_wp2
  go_ret
  refine ⟨rfl, ?_, (Below.refl _ _).alloc (Nat.le_refl _) _⟩
  rw [← be4b_vals x hx, be4_vals]
  exact World.ownsRow_lit (e := 5) (size := 1) w _ 4 (Nat.le_refl _) (by decide) rfl
set_option maxRecDepth 100000 in
set_option maxHeartbeats 400000 in
theorem clone_ok (A : Option Addr) (n c B : Nat) (l : List UInt8) (w : World) (hr : Reads w B 1 A n (l.map byteV)) (hB : B ≤ w.heap.size) (h0 : 0 < n) (h1 : n ≤ 1000000000) :
    Calls Try.prog 36 #[.slice A n c] w fun e w' => ∃ A' c', e = .returned (.slice A' n c') ∧ w'.ownsRow w.heap.size 5 1 (.slice A' n c') n (l.map byteV) ∧ Below w.heap.size w w' := by
  obtain ⟨i0, hi, hz0, hz1, hz2⟩ := info_parts Try.info5
  obtain ⟨b, o, rfl, hbl, _⟩ := hr.form h0
  have hown0 := World.ownsRow_lit (e := 5) (size := 1) w #[] 0 (Nat.le_refl _) (by decide) rfl
  have hr0 := hr.alloc hB (.cells #[] 5)
  have heq := fun w => Lib.run_eql_slice_nil (P := Try.prog) w 22 5 (some ⟨b, o, none⟩) n c 0 0 Try.underlying22
  go_enter Try.func36, Try.ntmps36
  go_wp2_with (at_builtin; refine wpList_append_any _ rfl _ _ 22 rfl w.heap.size 5 i0 (.int .u8 0) 1 1 Try.underlying22 hi hz0 hz1 hz2 rfl (by decide) _ _ _ rfl hown0 B _ n c (l.map byteV) rfl hr0 (oneB l) (by unfold maxLen; omega) (by omega) (by simp) ?_)
  intro v5 w5 hown5 hg5 _
  obtain ⟨A5, c5, rfl⟩ := own_form hown5
  have hb5 := below_own ((Below.refl w.heap.size w).alloc (Nat.le_refl _) (.cells #[] 5)) (by simp) (Nat.le_refl _) hown0 hg5
  clear hg5 hown0 hr0
  go_wp2
  go_ret
  exact ⟨A5, c5, rfl, hown5, hb5⟩
set_option maxRecDepth 100000 in
set_option maxHeartbeats 400000 in
theorem rframe_ok (A : Option Addr) (n c B : Nat) (l : List UInt8) (w : World) (hr : Reads w B 1 A n (l.map byteV)) (hB : B ≤ w.heap.size) (h1 : n ≤ 1048576) :
    Calls Try.prog 16 #[.slice A n c] w fun e w' => ∃ A' c', e = .returned (.slice A' (n + 8) c') ∧ w'.ownsRow w.heap.size 5 1 (.slice A' (n + 8) c') (n + 8) ((frameL l).map byteV) ∧ Below w.heap.size w w' := by
  obtain ⟨i0, hi, hz0, hz1, hz2⟩ := info_parts Try.info5
  go_enter Try.func16, Try.ntmps16
  go_wp2_with fail
  refine (number_any n w (by omega)).mono ?_
  rintro e w1 ⟨rfl, hown1, hb1⟩
  have hr1 := hr.below (hb1.mono hB)
  go_wp2_with fail
  refine (rsum_any A n c B l w1 hr1 (by omega)).mono ?_
  rintro e w2 ⟨rfl, rfl⟩
  have hs := Crc.sum_lt _ (bytes_lt l)
  go_wp2_with fail
  refine (number_any (Crc.sum (bytes l)) w1 hs).mono ?_
  rintro e w2 ⟨rfl, hown2, hb2⟩
  have hr2 := hr1.below (hb2.mono (by have := hb1.size; omega))
  have hown1' := own_below hown1 hb2
  have hb2' := hb1.trans (hb2.mono hb1.size)
  have hrs := Reads.of_own hown2
  clear hown1 hb1 hb2 hown2 hr1
  go_wp2_with (at_builtin; refine wpList_append_any _ rfl (.tmp 6) (.tmp 9) 22 rfl w.heap.size 5 i0 (.int .u8 0) 1 1 Try.underlying22 hi hz0 hz1 hz2 rfl (by decide) _ _ _ rfl hown1' _ _ 4 4 _ rfl hrs ?c1 ?c2 ?c3 ?c4 ?_)
  case c1 => exact oneB _
  case c2 => unfold maxLen; omega
  case c3 => omega
  case c4 => exact hb2'.size
  intro v3 w3 hown3 hg3 _
  obtain ⟨A3, c3, rfl⟩ := own_form hown3
  have hb3 := below_own hb2' hb2'.size (Nat.le_refl _) hown1' hg3
  have hr3 := reads_own hr2 (by have := hb2'.size; omega) hB hown1' hg3
  clear hg3 hown1' hr2 hrs hb2'
  go_wp2_with (at_builtin; refine wpList_append_any _ rfl (.tmp 10) (.tmp 11) 22 rfl w.heap.size 5 i0 (.int .u8 0) 1 1 Try.underlying22 hi hz0 hz1 hz2 rfl (by decide) _ _ _ rfl hown3 B _ n c _ rfl hr3 ?d1 ?d2 ?d3 ?d4 ?_)
  case d1 => exact oneB _
  case d2 => unfold maxLen; omega
  case d3 => omega
  case d4 => exact hb3.size
  intro v5 w5 hown5 hg5 _
  obtain ⟨A5, c5, rfl⟩ := own_form hown5
  have hb5 := below_own hb3 hb3.size (Nat.le_refl _) hown3 hg5
  have HL : Hid (n = l.length) := by have := hr.1; simp at this; exact this.symm
  clear hr3 hb3 hg5 hown3
  go_wp2
  go_ret
  refine ⟨A5, c5, by rw [show 4 + 4 + n = n + 8 by omega]; rfl, ?_, hb5⟩
  have := hown5
  rw [← List.map_append, ← List.map_append, show 4 + 4 + n = n + 8 by omega] at this
  unfold frameL
  rw [← HL.out]
  exact this
end Go.Proofs.Ytcppmmdkblmfoaa
