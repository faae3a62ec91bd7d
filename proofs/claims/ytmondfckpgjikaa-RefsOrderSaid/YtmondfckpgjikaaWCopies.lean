/- The walk of RefsCopies. -/
import Derived.Test.YtmondfckpgjikaaCopy
namespace Go.Proofs.Ytmondfckpgjikaa
open Go.RowKit Go.WideMaps
/-- What is needed of a boxed step. -/
def BoxS (w : World) (g : Nat) (st : St) : Prop :=
  w.cell? ⟨g, 0, none⟩ = some (.int .u8 (st.op : Int)) ∧ w.cell? ⟨g, 1, none⟩ = some (.string st.name) ∧ w.cell? ⟨g, 2, none⟩ = some (.int .i64 st.old) ∧ w.cell? ⟨g, 3, none⟩ = some (.int .i64 st.n)
theorem box_of {w : World} {g : Nat} {st : St} (h : Blk w g 48 #[.int .u8 (st.op : Int), .string st.name, .int .i64 st.old, .int .i64 st.n]) : BoxS w g st :=
  ⟨h.cell 0, h.cell 1, h.cell 2, h.cell 3⟩
theorem tab_of_do {w w' : World} {tb mb mb' n : Nat} {l : List Row} (h : Tab w tb mb n l) (hg : w.grownBy w' (some mb')) (hm : ∃ es clock, w.heap[mb']? = some (.map es clock)) (hne : mb ≠ mb') : Tab w' tb mb n l := by
  refine h.kept hg ?_ (by intro e; injection e with e; exact hne e)
  intro e
  injection e with e
  subst e
  obtain ⟨es, clock, hm⟩ := hm
  have := h.1
  unfold Blk at this
  rw [this] at hm
  cases hm
theorem blk_of_do {w w' : World} {g mb' : Nat} {t : TypeId} {cs : Array Value} (h : Blk w g t cs) (hg : w.grownBy w' (some mb')) (hm : ∃ es clock, w.heap[mb']? = some (.map es clock)) : Blk w' g t cs := by
  refine h.grown hg ?_
  intro e
  injection e with e
  subst e
  obtain ⟨es, clock, hm⟩ := hm
  unfold Blk at h
  rw [h] at hm
  cases hm
set_option maxRecDepth 100000 in
set_option maxHeartbeats 2000000 in
theorem copies_any (A : Option Addr) (n c : Nat) (sts : List St) (st : St) (w : World) (hr : Reads w w.heap.size 4 A n (cellsS sts)) (hl : sts.length = n) (hok : ∀ st ∈ sts, st.ok) (hs : st.ok) :
    Calls Try.prog 8 #[.slice A n c, stV st] w (AwEnd w) := by
  have hfacts := rowsOf_facts _ (sts.take 40) rfl
  have hlen : (rowsOf (sts.take 40)).length ≤ 40 := by have := hfacts.2; simp at this; omega
  have hris := hfacts.1
  have hV := allV_rows (sts.take 40)
  clear hfacts
  obtain ⟨w0, hw0⟩ : ∃ w0, w0 = w.alloc (.cells #[.int .u8 (st.op : Int), .string st.name, .int .i64 st.old, .int .i64 st.n] 48) := ⟨_, rfl⟩
  have hblk : Blk w0 w.heap.size 48 #[.int .u8 (st.op : Int), .string st.name, .int .i64 st.old, .int .i64 st.n] := by rw [hw0]; exact Blk.new _ _ _
  have hb0 : Below w.heap.size w w0 := by rw [hw0]; exact (Below.refl _ _).alloc (Nat.le_refl _) _
  have hsz : w0.heap.size = w.heap.size + 1 := by rw [hw0]; simp
  have hplay := play_any A n c sts w0 ((hr.below hb0).more hb0.size) hl hok
  have HW := Lib.hid hw0
  generalize rowsOf (sts.take 40) = l at *
  have hris2 := Lib.hid (rising_step l st hris)
  have hV2 := Lib.hid (allV_step l st hV)
  have hlen2 : (stepR l st).1.length ≤ 41 := by have := len_step l st; omega
  have hlt : w.heap.size < w0.heap.size := by omega
  clear hr hl hok hw0 hsz
  unfold stV
  go_enter Try.func8, Try.ntmps8
  go_wp2_with fail
  rw [← HW.out]
  refine hplay.mono ?_
  rintro e w1 ⟨v, rfl, hR, hT, hb1⟩
  have hk1 := hblk.below hb1 hlt
  have hB1 := hb0.trans (hb1.mono hb0.size)
  clear hplay hblk
  go_wp2_with fail
  refine (copy_any _ _ _ l w1 hT (by omega)).mono ?_
  rintro e w2 ⟨rfl, hC, hb2⟩
  have hk2 := hk1.below hb2 (hk1.lt)
  have hT2 := hT.below hb2
  have hR2 := hR.below hb2
  have hB2 := hB1.trans (hb2.mono hB1.size)
  have hmn : w0.heap.size < w1.heap.size := hT.lt.2
  clear hk1 hT hR hb1 hb2 hB1
  go_wp2_with fail
  refine (is_any _ _ _ l v w2 hC hR2 (by omega) hV).mono ?_
  rintro e w3 ⟨rfl, hb3⟩
  have hk3 := hk2.below hb3 hk2.lt
  have hT3 := hT2.below hb3
  have hC3 := hC.below hb3
  have hR3 := hR2.below hb3
  have hB3 := hB2.trans (hb3.mono hB2.size)
  clear hk2 hT2 hR2 hb3 hB2 hC
  obtain ⟨b0, b1, b2, b3⟩ := box_of hk3
  go_wp2_with fail
  refine (model_any v l st w3 hR3 (by omega) hris hs).mono ?_
  rintro e w4 ⟨v4, rfl, hR4, hb4⟩
  have hk4 := hk3.below hb4 hk3.lt
  have hT4 := hT3.below hb4
  have hC4 := hC3.below hb4
  have hS4 := hR3.below hb4
  have hB4 := hB3.trans (hb4.mono hB3.size)
  clear hk3 hT3 hC3 hR3 hb4 hB3 b0 b1 b2 b3
  obtain ⟨b0, b1, b2, b3⟩ := box_of hk4
  go_wp2_with fail
  refine (do_any (w1.heap.size + 1) w1.heap.size _ l st w4 hC4 (by unfold maxLen; omega) hs).mono ?_
  rintro e w5 ⟨rfl, hC5, hg⟩
  have hk5 := blk_of_do hk4 hg hC4.isMap
  have hT5 := tab_of_do hT4 hg hC4.isMap (by omega)
  have hR5 := hR4.tab hg hC4.isMap
  have hS5 := hS4.tab hg hC4.isMap
  have hB5 := below_tab hB4 hB4.size (by omega) hg
  clear hk4 hT4 hC4 hR4 hS4 hB4 hg b0 b1 b2 b3
  go_wp2_with fail
  refine (num_errV _ w5).mono ?_
  rintro e w5' ⟨rfl, rfl⟩
  go_wp2_with fail
  refine (is_any _ _ _ _ v4 w5 hC5 hR5 (by omega) hV2.out).mono ?_
  rintro e w6 ⟨rfl, hb6⟩
  have hk6 := hk5.below hb6 hk5.lt
  have hT6 := hT5.below hb6
  have hR6 := hR5.below hb6
  have hS6 := hS5.below hb6
  have hB6 := hB5.trans (hb6.mono hB5.size)
  clear hk5 hT5 hC5 hR5 hS5 hB5 hb6
  go_wp2_with fail
  refine (is_any _ _ _ _ v w6 hT6 hS6 (by omega) hV).mono ?_
  rintro e w7 ⟨rfl, hb7⟩
  have hk7 := hk6.below hb7 hk6.lt
  have hT7 := hT6.below hb7
  have hR7 := hR6.below hb7
  have hB7 := hB6.trans (hb7.mono hB6.size)
  clear hk6 hT6 hR6 hS6 hB6 hb7
  obtain ⟨b0, b1, b2, b3⟩ := box_of hk7
  go_wp2_with fail
  refine (do_any (w0.heap.size + 1) w0.heap.size _ l st w7 hT7 (by unfold maxLen; omega) hs).mono ?_
  rintro e w8 ⟨rfl, hT8, hg⟩
  have hR8 := hR7.tab hg hT7.isMap
  have hB8 := below_tab hB7 hB7.size (by omega) hg
  clear hk7 hT7 hR7 hB7 hg b0 b1 b2 b3
  go_wp2_with fail
  refine (num_errV _ w8).mono ?_
  rintro e w8' ⟨rfl, rfl⟩
  go_wp2_with fail
  refine (is_any _ _ _ _ v4 w8 hT8 hR8 (by omega) hV2.out).mono ?_
  rintro e w9 ⟨rfl, hb9⟩
  go_wp2_with fail
  go_ret
  exact ⟨rfl, hB8.trans (hb9.mono hB8.size)⟩
end Go.Proofs.Ytmondfckpgjikaa
