/- The walk of the fixed example (awake). -/
import Derived.Test.YtcppmmdkblmfoaaRFrames
import Derived.Test.YtcppmmdkblmfoaaSame
import Derived.Lib.SlBytesConst
namespace Go.Proofs.Ytcppmmdkblmfoaa
open Go.RowKit
def nine : List UInt8 := [49, 50, 51, 52, 53, 54, 55, 56, 57]
theorem nine_sum : Crc.sum (bytes nine) = 3808858755 := by decide +kernel
theorem nine_frames : frames (frameL nine ++ [0, 0, 0, 1]) = ([nine], 17) := by
  rw [frames_frame nine _ (by decide) (by decide)]
  have : step1 [0, 0, 0, 1] = none := by unfold step1; rw [if_pos (by decide)]
  rw [frames_none this]; rfl
theorem Reads.of_alloc_mark (w : World) (cs : Array Value) (t : TypeId) (fr : Nat × Nat) {B n : Nat} (hB : w.heap.size < B) (hn : cs.size = n) : Reads (w.alloc (.cells cs t fr)) B 1 (some ⟨w.heap.size, 0, none⟩) n cs.toList :=
  ⟨by simp [hn], fun _ => ⟨_, rfl, hB, fun j u h => by
    rw [addr_add, Nat.zero_add, cell_of_row _ _ _ cs t fr (heap_alloc_new w _)]
    simpa using h⟩⟩
def nineC : Array Value := #[.int .u8 49, .int .u8 50, .int .u8 51, .int .u8 52, .int .u8 53, .int .u8 54, .int .u8 55, .int .u8 56, .int .u8 57]
def AwEnd (w : World) (e : Ending) (w' : World) : Prop := e = .returned (.bool true) ∧ Below w.heap.size w w'
set_option maxRecDepth 100000 in
set_option maxHeartbeats 400000 in
theorem awake_any (w : World) : Calls Try.prog 10 #[] w (AwEnd w) := by
  obtain ⟨i0, hi, hz0, hz1, hz2⟩ := info_parts Try.info5
  have hr0 : Reads (w.alloc (.cells #[.int .u8 49, .int .u8 50, .int .u8 51, .int .u8 52, .int .u8 53, .int .u8 54, .int .u8 55, .int .u8 56, .int .u8 57] 5 (9, 10))) (w.heap.size + 1) 1 (some ⟨w.heap.size, 0, none⟩) 9 (nine.map byteV) :=
    Reads.of_alloc_mark w _ 5 _ (by omega) rfl
  have kc := fun (w : World) (C : Array Value) (n c : Nat) => Lib.run_convert_bytes_const (P := Try.prog) w 22 5 C n c Try.underlying22 Try.underlying5
  go_enter Try.func10, Try.ntmps10
  go_wp2_with fail
  refine (frame_ok _ 9 _ _ nine _ hr0 ?_ (by decide) (by decide)).mono ?_
  · simp
  rintro e w1 ⟨A1, c1, rfl, hown1, hb1⟩
  have hb1' : Below w.heap.size w w1 := ((Below.refl w.heap.size w).alloc (Nat.le_refl _) _).trans (hb1.mono (by simp))
  have hbase : w.heap.size ≤ w1.heap.size := hb1'.size
  simp only [World.size_alloc] at hown1
  clear hr0 hb1
  have hown1a := hown1.alloc (.cells #[.int .u8 0, .int .u8 0, .int .u8 0, .int .u8 1] 5)
  have hrd : Reads (w1.alloc (.cells #[.int .u8 0, .int .u8 0, .int .u8 0, .int .u8 1] 5)) (w1.heap.size + 1) 1 (some ⟨w1.heap.size, 0, none⟩) 4 (([0, 0, 0, 1] : List UInt8).map byteV) := Reads.of_alloc w1 _ 5 (by omega) rfl
  go_wp2_with (at_builtin; refine wpList_append_any _ rfl (.tmp 12) (.tmp 13) 22 rfl (w.heap.size + 1) 5 i0 (.int .u8 0) 1 1 Try.underlying22 hi hz0 hz1 hz2 rfl (by decide) _ _ _ rfl hown1a _ _ 4 4 (([0, 0, 0, 1] : List UInt8).map byteV) rfl hrd (oneB _) (by decide) (by decide) (by simp; omega) ?_)
  intro v2 w2 hown2 hg2 _
  obtain ⟨A2, c2, rfl⟩ := own_form hown2
  have hb2 := below_own (hb1'.alloc hbase (.cells #[.int .u8 0, .int .u8 0, .int .u8 0, .int .u8 1] 5)) (by simp; omega) (by omega) hown1a hg2
  have hown2' : w2.ownsRow (w.heap.size + 1) 5 1 (.slice A2 21 c2) 21 ((frameL nine ++ [0, 0, 0, 1]).map byteV) := by rw [List.map_append]; exact hown2
  have hrd2 := Reads.of_own hown2'
  have hc2 := own_le hown2
  clear hown2 hg2 hrd hown1a hown1 hb1' hbase
  go_wp2_with fail
  refine (frames_any A2 21 c2 _ (frameL nine ++ [0, 0, 0, 1]) w2 hrd2 (Nat.le_refl _) (by decide) hc2).mono ?_
  intro e w3 h
  unfold FrEnd at h
  rw [nine_frames] at h
  obtain ⟨A3, c3, vs, rfl, hown3, hps3, hb3⟩ := h
  have hb3' := hb2.trans (hb3.mono hb2.size)
  have hr3 := Reads.of_own hown3
  obtain ⟨u, hu, hpay⟩ := hps3.free.at_ 0 (by simp)
  simp only [List.getElem_cons_zero] at hpay
  obtain ⟨b, o, rfl, hbl, hc⟩ := hr3.form (by decide)
  have e0 := hc 0 u hu
  rw [Nat.add_zero] at e0
  clear hb2 hown2' hrd2 hown3 hps3 hb3 hr3 hc hu hc2
  have hr4 : Reads (w3.alloc (.cells #[.int .u8 49, .int .u8 50, .int .u8 51, .int .u8 52, .int .u8 53, .int .u8 54, .int .u8 55, .int .u8 56, .int .u8 57] 5 (9, 10))) (w3.heap.size + 1) 1 (some ⟨w3.heap.size, 0, none⟩) 9 (nine.map byteV) :=
    Reads.of_alloc_mark w3 _ 5 _ (by omega) rfl
  have hs : Crc.sum (nine.map UInt8.toNat) = 3808858755 := nine_sum
  have HS := Lib.hid hs
  clear hs
  go_wp2_with fail
  refine (sum_any _ 9 _ _ nine _ hr4 ?_ (by decide)).mono ?_
  · simp
  rintro e w4 ⟨rfl, hb4⟩
  rw [HS.out]
  have hb4' : Below w3.heap.size w3 w4 := ((Below.refl w3.heap.size w3).alloc (Nat.le_refl _) _).trans (hb4.mono (by simp))
  have e4 : w4.cell? ⟨b, o, none⟩ = some u := by rw [hb4'.cell (p := ⟨b, o, none⟩) hbl]; exact e0
  have hp4 := hpay.below hb4'
  obtain ⟨Au, cu, rfl, _, hru⟩ := hp4.reads
  have hstr := str_of w4 Au _ cu _ nine hru
  have hb5 := hb3'.trans (hb4'.mono hb3'.size)
  clear hr4 hb4 hb4' hpay e0 hp4 hru hb3'
  go_wp2_with fail
  go_ret
  exact ⟨rfl, hb5⟩
end Go.Proofs.Ytcppmmdkblmfoaa
