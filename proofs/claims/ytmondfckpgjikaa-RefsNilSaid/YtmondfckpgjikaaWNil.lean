/- The walk of RefsNil: the methods of a nil table. -/
import Derived.Test.YtmondfckpgjikaaWCopies
namespace Go.Proofs.Ytmondfckpgjikaa
open Go.RowKit Go.WideMaps
def Nil1 (w : World) (v : Value) (e : Ending) (w' : World) : Prop := e = .returned v ∧ w = w'
theorem get_nil (s : ByteArray) (w : World) : Calls Try.prog 16 #[.pointer none, .string s] w (Nil1 w (.tuple #[.int .i64 0, .bool false, errV 5])) := by
  go_enter Try.func16, Try.ntmps16
  go_wp2_with fail
  go_ret3
  exact ⟨rfl, rfl⟩
theorem move_nil (A : Option Addr) (m c : Nat) (w : World) : Calls Try.prog 24 #[.pointer none, .slice A m c] w (Nil1 w (.tuple #[.pointer none, errV 5])) := by
  go_enter Try.func24, Try.ntmps24
  go_wp2_with fail
  go_ret2
  exact ⟨rfl, rfl⟩
theorem branch_nil (s : ByteArray) (old n : Int) (w : World) : Calls Try.prog 15 #[.pointer none, .string s, .int .i64 old, .int .i64 n] w (Nil1 w (errV 5)) := by
  go_enter Try.func15, Try.ntmps15
  go_wp2_with fail
  go_ret
  exact ⟨rfl, rfl⟩
theorem tag_nil (s : ByteArray) (n : Int) (w : World) : Calls Try.prog 20 #[.pointer none, .string s, .int .i64 n] w (Nil1 w (errV 5)) := by
  go_enter Try.func20, Try.ntmps20
  go_wp2_with fail
  go_ret
  exact ⟨rfl, rfl⟩
theorem drop_nil (s : ByteArray) (w : World) : Calls Try.prog 43 #[.pointer none, .string s] w (Nil1 w (errV 5)) := by
  go_enter Try.func43, Try.ntmps43
  go_wp2_with fail
  refine (get_nil s w).mono ?_
  rintro e w' ⟨rfl, rfl⟩
  rw [show errV 5 = .iface 31 (.int .i64 5) from rfl]
  go_wp2_with fail
  go_ret
  exact ⟨rfl, rfl⟩
theorem names_nil (w : World) : Calls Try.prog 38 #[.pointer none] w (Nil1 w (.slice none 0 0)) := by
  go_enter Try.func38, Try.ntmps38
  go_wp2_with fail
  go_ret
  exact ⟨rfl, rfl⟩
theorem targets_nil (w : World) : Calls Try.prog 32 #[.pointer none] w (Nil1 w (.slice none 0 0)) := by
  go_enter Try.func32, Try.ntmps32
  go_wp2_with fail
  go_ret
  exact ⟨rfl, rfl⟩
theorem put_nil (w : World) : Calls Try.prog 30 #[.pointer none] w (Nil1 w (.slice none 0 0)) := by
  go_enter Try.func30, Try.ntmps30
  go_wp2_with fail
  go_ret
  exact ⟨rfl, rfl⟩
theorem copy_nil (w : World) : Calls Try.prog 28 #[.pointer none] w (Nil1 w (.pointer none)) := by
  go_enter Try.func28, Try.ntmps28
  go_wp2_with fail
  go_ret
  exact ⟨rfl, rfl⟩
theorem under_nil (s : ByteArray) (w : World) : Calls Try.prog 34 #[.pointer none, .string s] w (Nil1 w (.slice none 0 0)) := by
  go_enter Try.func34, Try.ntmps34
  go_wp2_with fail
  refine (names_nil w).mono ?_
  rintro e w' ⟨rfl, rfl⟩
  go_wp2_with fail
  refine wp_loop_rounds 1 ?_
  rw [rounds_succ]
  go_wp2_with fail
  go_ret
  exact ⟨rfl, rfl⟩
def DoNil (w : World) (e : Ending) (w' : World) : Prop := e = .returned (errV 5) ∧ Below w.heap.size w w'
set_option maxRecDepth 100000 in
set_option maxHeartbeats 1000000 in
theorem do_nil (st : St) (w : World) (hok : st.ok) : Calls Try.prog 27 #[.pointer none, stV st] w (DoNil w) := by
  obtain ⟨op, nm, old, n⟩ := st
  obtain ⟨h1, h2⟩ := hok
  unfold stV
  simp only at h1 h2 ⊢
  have hb0 : Below w.heap.size w (w.alloc (.cells #[.int .u8 (op : Int), .string nm, .int .i64 old, .int .i64 n] 48)) := (Below.refl _ _).alloc (Nat.le_refl _) _
  by_cases h3 : op % 3 = 0
  · have b1 : ((op : Int) % 3 == 0) = true := by simp; omega
    clear h3
    go_enter Try.func27, Try.ntmps27
    go_wp2_with fail
    refine (branch_nil nm old n _).mono ?_
    rintro e w1 ⟨rfl, rfl⟩
    go_wp2_with fail
    go_ret
    exact ⟨rfl, hb0⟩
  · have b1 : ((op : Int) % 3 == 0) = false := by simp; omega
    by_cases h4 : op % 3 = 1
    · have b2 : ((op : Int) % 3 == 1) = true := by simp; omega
      clear h3 h4
      go_enter Try.func27, Try.ntmps27
      go_wp2_with fail
      refine (tag_nil nm n _).mono ?_
      rintro e w1 ⟨rfl, rfl⟩
      go_wp2_with fail
      go_ret
      exact ⟨rfl, hb0⟩
    · have b2 : ((op : Int) % 3 == 1) = false := by simp; omega
      clear h3 h4
      go_enter Try.func27, Try.ntmps27
      go_wp2_with fail
      refine (drop_nil nm _).mono ?_
      rintro e w1 ⟨rfl, rfl⟩
      go_wp2_with fail
      go_ret
      exact ⟨rfl, hb0⟩
set_option maxRecDepth 100000 in
set_option maxHeartbeats 2000000 in
theorem nil_any (st : St) (A : Option Addr) (m c : Nat) (s : ByteArray) (w : World) (hs : st.ok) : Calls Try.prog 12 #[stV st, .slice A m c, .string s] w (AwEnd w) := by
  obtain ⟨w0, hw0⟩ : ∃ w0, w0 = w.alloc (.cells #[.int .u8 (st.op : Int), .string st.name, .int .i64 st.old, .int .i64 st.n] 48) := ⟨_, rfl⟩
  have hblk : Blk w0 w.heap.size 48 #[.int .u8 (st.op : Int), .string st.name, .int .i64 st.old, .int .i64 st.n] := by rw [hw0]; exact Blk.new _ _ _
  have hb0 : Below w.heap.size w w0 := by rw [hw0]; exact (Below.refl _ _).alloc (Nat.le_refl _) _
  have HW := Lib.hid hw0
  clear hw0
  unfold stV
  go_enter Try.func12, Try.ntmps12
  go_wp2_with fail
  rw [← HW.out]
  refine (get_nil st.name w0).mono ?_
  rintro e w1 ⟨rfl, rfl⟩
  go_wp2_with fail
  refine (move_nil A m c w0).mono ?_
  rintro e w1 ⟨rfl, rfl⟩
  go_wp2_with fail
  refine (awake_any w0).mono ?_
  rintro e w1 ⟨rfl, hb1⟩
  have hk1 := hblk.below hb1 hblk.lt
  have hB1 := hb0.trans (hb1.mono hb0.size)
  obtain ⟨b0, b1, b2, b3⟩ := box_of hk1
  clear hb1 hb0 hblk
  go_wp2_with fail
  refine (do_nil st w1 hs).mono ?_
  rintro e w2 ⟨rfl, hb2⟩
  have hB2 := hB1.trans (hb2.mono hB1.size)
  clear b0 b1 b2 b3 hk1 hB1 hb2
  go_wp2_with fail
  refine (is_errV 5 5 w2 (by decide)).mono ?_
  rintro e w3 ⟨rfl, rfl⟩
  go_wp2_with fail
  refine (is_errV 5 5 w2 (by decide)).mono ?_
  rintro e w3 ⟨rfl, rfl⟩
  go_wp2_with fail
  refine (num_errV 5 w2).mono ?_
  rintro e w3 ⟨rfl, rfl⟩
  go_wp2_with fail
  refine (names_nil w2).mono ?_
  rintro e w3 ⟨rfl, rfl⟩
  go_wp2_with fail
  refine (targets_nil w2).mono ?_
  rintro e w3 ⟨rfl, rfl⟩
  go_wp2_with fail
  refine (under_nil s w2).mono ?_
  rintro e w3 ⟨rfl, rfl⟩
  go_wp2_with fail
  refine (put_nil w2).mono ?_
  rintro e w3 ⟨rfl, rfl⟩
  go_wp2_with fail
  refine (copy_nil w2).mono ?_
  rintro e w3 ⟨rfl, rfl⟩
  go_wp2_with fail
  go_ret
  exact ⟨rfl, hB2⟩
end Go.Proofs.Ytmondfckpgjikaa
