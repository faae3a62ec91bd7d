/- The walk of the fixed calls (alive). -/
import Derived.Test.YthmbmecodddkeaaKeep
import Derived.Lib.SlBytesConst
namespace Go.Proofs.Ythmbmecodddkeaa
open Go.RowKit Go.WideMaps
def fN : ByteArray := ⟨#[102]⟩
def xN : ByteArray := ⟨#[120]⟩
theorem fN_valid : validN fN = true := by decide
theorem fN_size : fN.size ≤ maxLen := by decide
theorem xN_valid : validN xN = true := by decide
theorem xN_size : xN.size ≤ maxLen := by decide
def abc : List UInt8 := [97, 98, 99]
set_option maxRecDepth 100000 in
set_option maxHeartbeats 400000 in
theorem alive_any (w : World) : Calls Try.prog 8 #[] w (AwEnd w) := by
  have kc := fun (w : World) (C : Array Value) (n c : Nat) => Lib.run_convert_bytes_const (P := Try.prog) w 28 5 C n c Try.underlying28 Try.underlying5
  go_enter Try.func8, Try.ntmps8
  go_wp2_with fail
  refine (newS_any w).mono ?_
  rintro e w2 ⟨rfl, hS2, hq⟩
  have hS2 : SysM w2 w.heap.size _ (w.heap.size + 1) w.heap.size 0 emptyA := hS2.cap
  obtain ⟨F2, hF2, hS2⟩ : ∃ F2, Hid (∀ i, F2 i → w.heap.size ≤ i ∧ i < w2.heap.size) ∧ SysM w2 w.heap.size F2 (w.heap.size + 1) w.heap.size 0 emptyA := ⟨_, fun i hi => hi, hS2⟩
  have HQ := Lib.hid hq
  have hrd : Reads (w2.alloc (.cells #[.int .u8 97, .int .u8 98, .int .u8 99] 5 (3, 4))) (w2.heap.size + 1) 1 (some ⟨w2.heap.size, 0, none⟩) 3 (abc.map byteV) :=
    Reads.of_alloc_mark w2 _ 5 _ (by omega) rfl
  have hS3 := hS2.below ((Below.refl w2.heap.size w2).alloc (Nat.le_refl _) (.cells #[.int .u8 97, .int .u8 98, .int .u8 99] 5 (3, 4)))
  have happ := append_any w.heap.size (w.heap.size + 1) w.heap.size 0 F2 emptyA _ 3 3 _ abc fN _ hS3 hrd (by simp) rfl (by
    intro ad e _ hf
    injection e with e
    subst e
    have := (hF2.out _ hf).2
    simp at this) (by omega) fN_size (by unfold maxLen; omega)
  rw [append_empty fN abc fN_valid (by decide)] at happ
  simp only [errV_zero] at happ
  clear hS2 hS3 hrd hq
  go_wp2_with fail
  refine happ.mono ?_
  clear happ
  rintro e w4 ⟨rfl, hS4, hk4⟩
  have hb4 : Below w.heap.size w w4 := hk4.below (HQ.out.alloc HQ.out.size _) (by have := HQ.out.size; simp; omega) fun i hi => (hF2.out _ hi).1
  clear hk4
  have hrd := read_any w.heap.size (w.heap.size + 1) w.heap.size 1 _ (one fN abc 0) fN w4 hS4 fN_size
  rw [find_one] at hrd
  go_wp2_with fail
  refine hrd.mono ?_
  clear hrd
  rintro e w5 ⟨hb5, A5, c5, rfl, hown5⟩
  have hb := hb4.trans (hb5.mono hb4.size)
  have hstr := str_of w5 A5 _ c5 _ abc (Reads.of_own hown5)
  clear hS4 hb4 hb5 hown5
  go_wp2_with fail
  go_ret
  exact ⟨rfl, hb⟩
end Go.Proofs.Ythmbmecodddkeaa
