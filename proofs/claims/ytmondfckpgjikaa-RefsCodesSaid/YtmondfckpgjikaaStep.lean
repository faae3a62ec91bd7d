/- The walks of model and do: one step. -/
import Derived.Test.YtmondfckpgjikaaRDrop
namespace Go.Proofs.Ytmondfckpgjikaa
open Go.RowKit Go.WideMaps
structure St where
  op : Nat
  name : ByteArray
  old : Int
  n : Int
def St.ok (st : St) : Prop := st.op < 256 ∧ st.name.size ≤ maxLen
def stV (st : St) : Value := .agg #[.int .u8 (st.op : Int), .string st.name, .int .i64 st.old, .int .i64 st.n]
def stepR (l : List Row) (st : St) : List Row × Int :=
  if st.op % 3 = 0 then branchR l st.name.data.toList st.old st.n
  else if st.op % 3 = 1 then tagR l st.name.data.toList st.n
  else delR l st.name.data.toList
theorem rising_step (l : List Row) (st : St) (h : Rising l) : Rising (stepR l st).1 := by
  unfold stepR
  split
  · exact rising_branch _ _ _ _ h
  · split
    · exact rising_tag _ _ _ h
    · exact rising_del _ _ h
theorem len_putR (x : Row) : ∀ l : List Row, (putR x l).length ≤ l.length + 1
  | [] => by simp [putR]
  | y :: t => by
    simp only [putR]
    split
    · simp
    · split
      · simp
      · simp; exact len_putR x t
theorem len_dropR (nm : List UInt8) (l : List Row) : (dropR nm l).length ≤ l.length := List.length_filter_le _ _
theorem len_step (l : List Row) (st : St) : (stepR l st).1.length ≤ l.length + 1 := by
  unfold stepR branchR tagR delR
  repeat' split
  all_goals first | exact len_putR _ _ | exact Nat.le_succ _ | exact Nat.le_succ_of_le (len_dropR _ _)
theorem RmEnd.from {w w1 : World} {res : List Row × Int} {e : Ending} {w' : World} (hb : Below w.heap.size w w1) (h : RmEnd w1 res e w') : RmEnd w res e w' := by
  obtain ⟨v, he, hR, hq⟩ := h
  exact ⟨v, he, hR, hb.trans (hq.mono hb.size)⟩
set_option maxRecDepth 100000 in
set_option maxHeartbeats 1000000 in
theorem model_any (v : Value) (l : List Row) (st : St) (w : World) (hL : RS w v l) (hn : l.length ≤ 1000000) (hs : Rising l) (hok : st.ok) :
    Calls Try.prog 25 #[v, stV st] w (RmEnd w (stepR l st)) := by
  obtain ⟨op, nm, old, n⟩ := st
  obtain ⟨h1, h2⟩ := hok
  unfold stV stepR
  simp only at h1 h2 ⊢
  have hb0 : Below w.heap.size w (w.alloc (.cells #[.int .u8 (op : Int), .string nm, .int .i64 old, .int .i64 n] 48)) := (Below.refl _ _).alloc (Nat.le_refl _) _
  have hL1 := hL.below hb0
  by_cases h3 : op % 3 = 0
  · rw [if_pos h3]
    have b1 : ((op : Int) % 3 == 0) = true := by simp; omega
    clear h3
    go_enter Try.func25, Try.ntmps25
    go_wp2_with fail
    refine (rbranch_any v l nm old n _ hL1 hn hs h2).mono ?_
    rintro e w1 h
    have h' := h.from hb0
    obtain ⟨v1, rfl, hR, hb⟩ := h'
    clear h hb0 hL1
    go_wp2_with fail
    go_ret2
    exact ⟨_, rfl, hR, hb⟩
  · rw [if_neg h3]
    have b1 : ((op : Int) % 3 == 0) = false := by simp; omega
    by_cases h4 : op % 3 = 1
    · rw [if_pos h4]
      have b2 : ((op : Int) % 3 == 1) = true := by simp; omega
      clear h3 h4
      go_enter Try.func25, Try.ntmps25
      go_wp2_with fail
      refine (rtag_any v l nm n _ hL1 hn hs h2).mono ?_
      rintro e w1 h
      have h' := h.from hb0
      obtain ⟨v1, rfl, hR, hb⟩ := h'
      clear h hb0 hL1
      go_wp2_with fail
      go_ret2
      exact ⟨_, rfl, hR, hb⟩
    · rw [if_neg h4]
      have b2 : ((op : Int) % 3 == 1) = false := by simp; omega
      clear h3 h4
      go_enter Try.func25, Try.ntmps25
      go_wp2_with fail
      refine (rdrop_any v l nm _ hL1 hn hs h2).mono ?_
      rintro e w1 h
      have h' := h.from hb0
      obtain ⟨v1, rfl, hR, hb⟩ := h'
      clear h hb0 hL1
      go_wp2_with fail
      go_ret2
      exact ⟨_, rfl, hR, hb⟩
theorem TEnd.from {w w1 : World} {tb mb n : Nat} {rows : List Row} {v : Value} {e : Ending} {w' : World} (hb : Below w.heap.size w w1) (h : TEnd w1 tb mb n rows v e w') : TEnd w tb mb n rows v e w' :=
  ⟨h.1, h.2.1, (only_of_below hb _).trans h.2.2⟩
set_option maxRecDepth 100000 in
set_option maxHeartbeats 1000000 in
theorem do_any (tb mb k : Nat) (l : List Row) (st : St) (w : World) (hT : Tab w tb mb k l) (hk : k < maxLen) (hok : st.ok) :
    Calls Try.prog 27 #[.pointer (some ⟨tb, 0, none⟩), stV st] w (TEnd w tb mb (k + 1) (stepR l st).1 (errV (stepR l st).2)) := by
  obtain ⟨op, nm, old, n⟩ := st
  obtain ⟨h1, h2⟩ := hok
  unfold stV stepR
  simp only at h1 h2 ⊢
  have hb0 : Below w.heap.size w (w.alloc (.cells #[.int .u8 (op : Int), .string nm, .int .i64 old, .int .i64 n] 48)) := (Below.refl _ _).alloc (Nat.le_refl _) _
  have hT1 := hT.below hb0
  by_cases h3 : op % 3 = 0
  · rw [if_pos h3]
    have b1 : ((op : Int) % 3 == 0) = true := by simp; omega
    clear h3
    go_enter Try.func27, Try.ntmps27
    go_wp2_with fail
    refine (branch_any tb mb k l nm old n _ hT1 hk h2).mono ?_
    rintro e w1 h
    have h' := h.from hb0
    obtain ⟨rfl, hR, hb⟩ := h'
    clear h hb0 hT1
    go_wp2_with fail
    go_ret
    exact ⟨rfl, hR, hb⟩
  · rw [if_neg h3]
    have b1 : ((op : Int) % 3 == 0) = false := by simp; omega
    by_cases h4 : op % 3 = 1
    · rw [if_pos h4]
      have b2 : ((op : Int) % 3 == 1) = true := by simp; omega
      clear h3 h4
      go_enter Try.func27, Try.ntmps27
      go_wp2_with fail
      refine (tag_any tb mb k l nm n _ hT1 hk h2).mono ?_
      rintro e w1 h
      have h' := h.from hb0
      obtain ⟨rfl, hR, hb⟩ := h'
      clear h hb0 hT1
      go_wp2_with fail
      go_ret
      exact ⟨rfl, hR, hb⟩
    · rw [if_neg h4]
      have b2 : ((op : Int) % 3 == 1) = false := by simp; omega
      clear h3 h4
      go_enter Try.func27, Try.ntmps27
      go_wp2_with fail
      refine (drop_any tb mb k l nm _ hT1 h2).mono ?_
      rintro e w1 h
      have h' := h.from hb0
      obtain ⟨rfl, hR, hb⟩ := h'
      clear h hb0 hT1
      go_wp2_with fail
      go_ret
      exact ⟨rfl, hR, hb⟩
end Go.Proofs.Ytmondfckpgjikaa
