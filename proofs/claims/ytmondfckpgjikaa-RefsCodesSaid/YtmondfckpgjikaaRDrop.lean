/- The walk of the reference's Drop. -/
import Derived.Test.YtmondfckpgjikaaRTag
import Derived.Deep.RegionLaw
namespace Go.Proofs.Ytmondfckpgjikaa
open Go.RowKit Go.WideMaps
set_option maxRecDepth 100000 in
set_option maxHeartbeats 1000000 in
theorem rdrop_any (v : Value) (l : List Row) (s : ByteArray) (w : World) (hL : RS w v l) (hn : l.length ≤ 1000000) (hs : Rising l) (hsz : s.size ≤ maxLen) :
    Calls Try.prog 42 #[v, .string s] w (RmEnd w (delR l s.data.toList)) := by
  have hL0 := hL
  obtain ⟨A, c, rfl, hc, hr⟩ := hL
  obtain ⟨i0, hi, hz0, hz1, hz2⟩ := info_parts Try.info42
  unfold delR
  by_cases hv : validB s.data.toList = false
  · rw [if_pos hv]
    have HV := Lib.hid hv
    clear hv
    go_enter Try.func42, Try.ntmps42
    go_wp2_with fail
    refine (rvalid_any s w hsz).mono ?_
    rintro e w' ⟨rfl, rfl⟩
    rw [HV.out]
    go_wp2_with fail
    go_ret2
    exact ⟨_, rfl, hL0, Below.refl _ _⟩
  rw [if_neg hv]
  have HV := Lib.hid (show validB s.data.toList = true by simpa using hv)
  clear hv
  cases hf : findR s.data.toList l with
  | none =>
    have HF := Lib.hid hf
    clear hf
    go_enter Try.func42, Try.ntmps42
    go_wp2_with fail
    refine (rvalid_any s w hsz).mono ?_
    rintro e w' ⟨rfl, rfl⟩
    rw [HV.out]
    go_wp2_with fail
    refine (find_any A _ c _ l s w hr rfl (by omega) hs).mono ?_
    intro e w1 h
    obtain ⟨rfl, q, rfl⟩ := h
    rw [HF.out]
    have hq := below_drewN (Below.refl w.heap.size w) q
    have hL1 := hL0.below hq
    generalize w.drewN q = w1 at *
    go_wp2_with fail
    go_ret2
    exact ⟨_, rfl, hL1, hq⟩
  | some r =>
    obtain ⟨hk, _⟩ := findR_idx hs hf
    have hdr := dropR_at s.data.toList l hs (by rw [hf]; rfl)
    obtain ⟨i, hie⟩ : ∃ i, i = idxR s.data.toList l := ⟨_, rfl⟩
    have HI := Lib.hid hie
    rw [← hie] at hk hdr
    have HD := Lib.hid hdr
    have HF := Lib.hid hf
    clear hf hdr hie
    obtain ⟨b, o, rfl, hbl, _⟩ := hr.formN (by omega) (by decide)
    simp only
    go_enter Try.func42, Try.ntmps42
    go_wp2_with fail
    refine (rvalid_any s w hsz).mono ?_
    rintro e w' ⟨rfl, rfl⟩
    rw [HV.out]
    go_wp2_with fail
    refine (find_any _ _ c _ l s w hr rfl (by omega) hs).mono ?_
    intro e w1 h
    obtain ⟨rfl, q, rfl⟩ := h
    rw [HF.out, ← HI.out]
    have hq := below_drewN (Below.refl w.heap.size w) q
    have hr1 := hr.below hq
    generalize w.drewN q = w1 at *
    have hzz := hq.size
    have hown0 : Hid ((w1.alloc (.cells #[] 42)).drew.ownsRow w1.heap.size 42 3 (.slice (some ⟨w1.heap.size, 0, none⟩) 0 0) 0 []) := World.ownsRow_lit (e := 42) (size := 3) w1 #[] 0 (Nat.le_refl _) (by decide) rfl
    have hrt : Hid (Reads (w1.alloc (.cells #[] 42)).drew w.heap.size 3 (some ⟨b, o, none⟩) i (cellsR (l.take i))) := by
      have h := (hr1.takeN (k := i) (by omega)).alloc (by omega) (.cells #[] 42)
      rw [cellsR_take] at h
      exact h
    obtain ⟨n, hnl⟩ : ∃ n, n = l.length := ⟨_, rfl⟩
    rw [← hnl] at hr1 hc hn hk ⊢
    have HN := Lib.hid hnl
    clear hnl
    have q1 : (i : Int) ≤ c := by omega
    have q2 : i ≤ c := by omega
    have q3 : IntKind.i64.wrap ((i : Int) + 1) = (i : Int) + 1 := IntWalk.i64_in _ (by omega)
    have q4 : ((i : Int) + 1).toNat = i + 1 := by omega
    have q5 : 0 ≤ (i : Int) + 1 := by omega
    have q6 : (i : Int) + 1 ≤ n := by omega
    have q7 : i + 1 ≤ n := by omega
    have s1 : Hid (0 + i ≤ maxLen) := by unfold maxLen; show 0 + i ≤ 2 ^ 63 - 1; omega
    have s2 : Hid ((0 + i) * 32 ≤ 140737488355328) := by show (0 + i) * 32 ≤ 140737488355328; omega
    have s3 : Hid (w1.heap.size ≤ (w1.alloc (.cells #[] 42)).drew.heap.size) := by show w1.heap.size ≤ (w1.alloc (.cells #[] 42)).drew.heap.size; simp
    have s4 : Hid (0 + i + (n - (i + 1)) ≤ maxLen) := by show 0 + i + (n - (i + 1)) ≤ 2 ^ 63 - 1; omega
    have s5 : Hid ((0 + i + (n - (i + 1))) * 32 ≤ 140737488355328) := by show (0 + i + (n - (i + 1))) * 32 ≤ 140737488355328; omega
    have hrd : ∀ w2, Below w1.heap.size w1 w2 → Reads w2 w.heap.size 3 (if c = i + 1 then some ⟨b, o, none⟩ else some ⟨b, o + (i + 1) * 3, none⟩) (n - (i + 1)) (cellsR (l.drop (i + 1))) := by
      intro w2 hb
      have h := (hr1.below (hb.mono hzz)).cut (k := i + 1) (cap := c) q7 hc
      rw [cellsR_drop] at h
      simpa [addr_add] using h
    have HRD := Lib.hid hrd
    have fin : ∀ (w5 : World) (A5 : Option Addr) (c5 m : Nat), m = 0 + i + (n - (i + 1)) → w5.ownsRow w1.heap.size 42 3 (.slice A5 m c5) m ([] ++ cellsR (l.take i) ++ cellsR (l.drop (i + 1))) → Below w1.heap.size w1 w5 →
        RmEnd w (dropR s.data.toList l, 0) (.returned (.tuple #[.slice A5 m c5, .int .i64 0])) w5 := by
      intro w5 A5 c5 m hm ho hb
      have hlen : (dropR s.data.toList l).length = m := by rw [HD.out]; simp [← HN.out]; omega
      rw [List.nil_append, ← cellsR_append, ← HD.out, ← hlen] at ho
      rw [← hlen]
      exact ⟨_, rfl, RS.of_own ho, hq.trans (hb.mono hzz)⟩
    have FIN := Lib.hid fin
    clear fin hrd hr1
    go_wp2_with fail
    go_region_law (first | (refine step_append_any _ rfl (.tmp 21) (.tmp 24) 36 rfl w1.heap.size 42 i0 (.agg #[.string ByteArray.empty, .int .i64 0, .bool false]) 3 32 Try.underlying36 hi hz0 hz1 hz2 rfl (by decide) _ 0 [] rfl hown0.out w.heap.size (some ⟨b, o, none⟩) i c (cellsR (l.take i)) rfl hrt.out (cellsR_one _) s1.out s2.out s3.out ?_; intro v2 w2 hown2 hg2 _; have hb2 := below_own ((Below.refl w1.heap.size w1).alloc (Nat.le_refl _) (.cells #[] 42)).drew s3.out (Nat.le_refl _) hown0.out hg2; have hrd2 := HRD.out w2 hb2) | ((refine step_append_any _ rfl (.tmp 25) (.tmp 29) 36 rfl w1.heap.size 42 i0 (.agg #[.string ByteArray.empty, .int .i64 0, .bool false]) 3 32 Try.underlying36 hi hz0 hz1 hz2 rfl (by decide) _ (0 + i) _ rfl (by assumption) w.heap.size _ _ _ (cellsR (l.drop (i + 1))) rfl (by assumption) (cellsR_one _) s4.out s5.out (Below.size (by assumption)) ?_; intro v3 w3 hown3 hg3 _)))
    all_goals
      obtain ⟨A3, c3, rfl⟩ := own_form hown3
      have hb3 := below_own hb2 hb2.size (Nat.le_refl _) hown2 hg3
      simp only [Nat.zero_add] at hown3
      have hfin := FIN.out w3 A3 c3 _ (by omega) hown3 hb3
      have HFN := Lib.hid hfin
      clear hfin hg3 hown3 hown2 hb3 hb2 hrd2 hg2
      go_wp2_with fail
      all_goals (go_ret2; exact HFN.out)
end Go.Proofs.Ytmondfckpgjikaa
