/- The walk of RefsGets: Get against the reference's find, after a script. -/
import Derived.Test.YtmondfckpgjikaaPlay
namespace Go.Proofs.Ytmondfckpgjikaa
open Go.RowKit Go.WideMaps
set_option maxRecDepth 100000 in
set_option maxHeartbeats 1000000 in
theorem gets_any (A : Option Addr) (n c : Nat) (sts : List St) (s : ByteArray) (w : World) (hr : Reads w w.heap.size 4 A n (cellsS sts)) (hl : sts.length = n) (hok : ∀ st ∈ sts, st.ok) (hs : s.size ≤ maxLen) :
    Calls Try.prog 5 #[.slice A n c, .string s] w (AwEnd w) := by
  have hfacts := rowsOf_facts _ (sts.take 40) rfl
  have hlen : (rowsOf (sts.take 40)).length ≤ 40 := by have := hfacts.2; simp at this; omega
  have hris := hfacts.1
  clear hfacts
  have hplay := play_any A n c sts w hr hl hok
  generalize rowsOf (sts.take 40) = l at *
  clear hr hl hok
  go_enter Try.func5, Try.ntmps5
  go_wp2_with fail
  refine hplay.mono ?_
  rintro e w1 ⟨v, rfl, hR, hT, hb1⟩
  go_wp2_with fail
  refine (get_any _ _ _ l s w1 hT hs).mono ?_
  rintro e w2 ⟨rfl, hb2⟩
  have hR2 := hR.below hb2
  have hB2 := hb1.trans (hb2.mono hb1.size)
  obtain ⟨A', c', rfl, hc', hr2⟩ := hR2
  go_wp2_with fail
  refine (find_any A' _ c' _ l s w2 hr2 rfl (by omega) hris).mono ?_
  intro e w3 h
  obtain ⟨rfl, q, rfl⟩ := h
  have hq := below_drewN (Below.refl w2.heap.size w2) q
  have hr3 := hr2.below hq
  have hB3 := hB2.trans (hq.mono hB2.size)
  generalize w2.drewN q = w3 at *
  go_wp2_with fail
  refine (rvalid_any s w3 hs).mono ?_
  rintro e w4 ⟨rfl, rfl⟩
  unfold getR
  by_cases hv : validB s.data.toList = false
  · rw [if_pos hv]
    have HV := Lib.hid hv
    clear hv
    rw [HV.out]
    go_wp2_with fail
    refine (is_errV 13 13 w3 (by decide)).mono ?_
    rintro e w4 ⟨rfl, rfl⟩
    go_wp2_with fail
    go_ret
    exact ⟨rfl, hB3⟩
  · rw [if_neg hv]
    have HV := Lib.hid (show validB s.data.toList = true by simpa using hv)
    clear hv
    rw [HV.out]
    cases hf : findR s.data.toList l with
    | none =>
      have HF := Lib.hid hf
      clear hf
      go_wp2_with fail
      refine (is_errV 5 5 w3 (by decide)).mono ?_
      rintro e w4 ⟨rfl, rfl⟩
      go_wp2_with fail
      go_ret
      exact ⟨rfl, hB3⟩
    | some r =>
      obtain ⟨hk, hrow⟩ := findR_idx hris hf
      have HF := Lib.hid hf
      clear hf
      obtain ⟨i, hi⟩ : ∃ i, i = idxR s.data.toList l := ⟨_, rfl⟩
      have HI := Lib.hid hi
      have hcells := cellsR_at l (idxR s.data.toList l) hk
      rw [hrow, ← hi] at hcells
      rw [← hi] at hk
      rw [← hi]
      obtain ⟨_, hcn, hct⟩ := hcells
      clear hi hrow
      obtain ⟨b, o, rfl, hbl, hc0⟩ := hr3.formN (by omega) (by decide)
      have e1 := hc0 _ _ hcn
      have e2 := hc0 _ _ hct
      rw [← Nat.add_assoc] at e1 e2
      clear hcn hct hc0
      obtain ⟨nm, rn, rt⟩ := r
      simp only at e1 e2 ⊢
      rw [show errV 0 = .nilIface from rfl]
      go_wp2_with fail
      go_ret
      exact ⟨rfl, hB3⟩
end Go.Proofs.Ytmondfckpgjikaa
