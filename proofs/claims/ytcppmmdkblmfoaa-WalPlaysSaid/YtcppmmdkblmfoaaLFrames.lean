/- The walk of the law WalFrames. -/
import Derived.Test.YtcppmmdkblmfoaaAwake
namespace Go.Proofs.Ytcppmmdkblmfoaa
open Go.RowKit
theorem LL.mk' {w : World} {base n : Nat} {v : Value} {ps : List (List UInt8)} {vs : List Value} (h : w.ownsRow base 22 1 v n vs) (hp : Pays w none vs ps) (hn : n = ps.length) : LL w v ps := by
  subst hn
  obtain ⟨A, c, rfl⟩ := own_form h
  exact ⟨A, c, vs, rfl, own_le h, Reads.of_own h, hp⟩
theorem Pays.cons {w : World} {v : Value} {p : List UInt8} {vs : List Value} {ps : List (List UInt8)} (hv : PayOk w none v p) (h : Pays w none vs ps) : Pays w none (v :: vs) (p :: ps) := by
  refine ⟨by simp [h.1], fun i v' p' h1 h2 => ?_⟩
  rcases i with _ | i
  · simp at h1 h2; subst h1 h2; exact hv
  · simp at h1 h2; exact h.2 i v' p' h1 h2
set_option maxRecDepth 100000 in
set_option maxHeartbeats 400000 in
theorem frames_long (A1 A2 : Option Addr) (n1 c1 n2 c2 : Nat) (w : World) (hn : 2000 < n1) :
    Calls Try.prog 4 #[.slice A1 n1 c1, .slice A2 n2 c2] w (AwEnd w) := by
  have hn' : (2000 : Int) < (n1 : Int) := by omega
  go_enter Try.func4, Try.ntmps4
  go_wp2_with fail
  refine (awake_any w).mono ?_
  rintro e w1 ⟨rfl, hb1⟩
  go_wp2_with fail
  refine (awake_any w1).mono ?_
  rintro e w2 ⟨rfl, hb2⟩
  have hb := hb1.trans (hb2.mono hb1.size)
  go_wp2_with fail
  go_ret
  exact ⟨rfl, hb⟩
set_option maxRecDepth 100000 in
set_option maxHeartbeats 400000 in
theorem frames_long2 (A1 A2 : Option Addr) (n1 c1 n2 c2 : Nat) (w : World) (hn : n1 ≤ 2000) (hn2 : 4000 < n2) :
    Calls Try.prog 4 #[.slice A1 n1 c1, .slice A2 n2 c2] w (AwEnd w) := by
  have hn' : ¬ (2000 : Int) < (n1 : Int) := by omega
  have hn2' : (4000 : Int) < (n2 : Int) := by omega
  go_enter Try.func4, Try.ntmps4
  go_wp2_with fail
  refine (awake_any w).mono ?_
  rintro e w1 ⟨rfl, hb1⟩
  go_wp2_with fail
  refine (awake_any w1).mono ?_
  rintro e w2 ⟨rfl, hb2⟩
  have hb := hb1.trans (hb2.mono hb1.size)
  go_wp2_with fail
  go_ret
  exact ⟨rfl, hb⟩
theorem SameEnd.to {w : World} {ps : List (List UInt8)} {e : Ending} {w' : World} (h : SameEnd w (ps == ps) e w') : e = .returned (.bool true) ∧ Below w.heap.size w w' := by
  obtain ⟨rfl, k, rfl⟩ := h
  exact ⟨by simp, below_drewN (Below.refl _ _) k⟩
/-- What Frames leaves, for the caller. -/
theorem FrEnd.to {w : World} {l : List UInt8} {PS : List (List UInt8)} {K : Nat} (hF : Hid (frames l = (PS, K))) {e : Ending} {w' : World} (h : FrEnd w l e w') :
    ∃ v, e = .returned (.tuple #[v, .int .i64 K]) ∧ LL w' v PS ∧ Below w.heap.size w w' := by
  unfold FrEnd at h
  rw [hF.out] at h
  obtain ⟨A, c, vs, rfl, ho, hp, hb⟩ := h
  exact ⟨_, rfl, LL.of_own ho hp, hb⟩
theorem frames_get (n : Nat) (d : List UInt8) (h : d.length ≤ n) : ∃ PS K, Hid (frames d = (PS, K)) ∧ K ≤ n ∧ PS.length ≤ n := by
  have := frames_len d.length d (Nat.le_refl _)
  exact ⟨_, _, rfl, by omega, by omega⟩
set_option maxRecDepth 100000 in
set_option maxHeartbeats 1000000 in
theorem frames_empty (A1 A2 : Option Addr) (c1 n2 c2 B : Nat) (d : List UInt8) (w : World) (hd : Reads w B 1 A2 n2 (d.map byteV)) (hB : B ≤ w.heap.size) (hn2 : n2 ≤ 4000) (hc2 : n2 ≤ c2) :
    Calls Try.prog 4 #[.slice A1 0 c1, .slice A2 n2 c2] w (AwEnd w) := by
  obtain ⟨i0, hi, hz0, hz1, hz2⟩ := info_parts Try.info5
  have hn2' : ¬ (4000 : Int) < (n2 : Int) := by omega
  obtain ⟨PS, K, hF, hK, hPS⟩ := frames_get 4000 d (by have := hd.1; simp at this; omega)
  go_enter Try.func4, Try.ntmps4
  go_wp2_with fail
  refine (awake_any w).mono ?_
  rintro e w1 ⟨rfl, hb1⟩
  have hd1 := hd.below (hb1.mono hB)
  go_wp2_with fail
  refine (frame_none A1 c1 w1).mono ?_
  rintro e w2 ⟨rfl, rfl⟩
  go_wp2_with fail
  refine (is_same 4 w1 (by decide)).mono ?_
  rintro e w2 ⟨rfl, rfl⟩
  go_wp2_with fail
  refine (frames_any A2 n2 c2 B d w1 hd1 (by have := hb1.size; omega) (by omega) hc2).mono ?_
  intro e w2 h
  obtain ⟨v2, rfl, hL2, hq⟩ := h.to hF
  clear h
  have hb2 := hb1.trans (hq.mono hb1.size)
  have hd2 := hd1.below (hq.mono (by have := hb1.size; omega))
  clear hq hb1 hd1
  go_wp2_with fail
  refine (rframes_any A2 n2 c2 B d w2 hd2 (by have := hb2.size; omega) (by omega) hc2).mono ?_
  intro e w3 h
  obtain ⟨v3, rfl, hL3, hq⟩ := h.to hF
  clear h
  have hb3 := hb2.trans (hq.mono hb2.size)
  have hd3 := hd2.below (hq.mono (by have := hb2.size; omega))
  have hL2' := hL2.below hq
  clear hq hb2 hd2 hL2
  have hown0 := World.ownsRow_lit (e := 5) (size := 1) w3 #[] 0 (Nat.le_refl _) (by decide) rfl
  have hrn : Reads (w3.alloc (.cells #[] 5)) 0 1 none 0 [] := Reads.none_
  go_wp2_with (at_builtin; refine wpList_append_any _ rfl (.tmp 71) (.tmp 72) 22 rfl w3.heap.size 5 i0 (.int .u8 0) 1 1 Try.underlying22 hi hz0 hz1 hz2 rfl (by decide) _ _ _ rfl hown0 _ _ _ _ _ rfl hrn (by simp) (by decide) (by decide) (by simp) ?_)
  intro v4 w4 hown4 hg4 _
  have hb4 := (below_own ((Below.refl w3.heap.size w3).alloc (Nat.le_refl _) (.cells #[] 5)) (by simp) (Nat.le_refl _) hown0 hg4)
  clear hg4 hown0 hrn
  have hd4 := hd3.below (hb4.mono (by have := hb3.size; omega))
  go_wp2_with (at_builtin; refine wpList_append_any _ rfl (.tmp 73) (.tmp 74) 22 rfl w3.heap.size 5 i0 (.int .u8 0) 1 1 Try.underlying22 hi hz0 hz1 hz2 rfl (by decide) _ _ _ rfl hown4 _ _ _ _ (d.map byteV) rfl hd4 (oneB d) (by unfold maxLen; omega) (by omega) hb4.size ?_)
  intro v5 w5 hown5 hg5 _
  obtain ⟨A5, c5, rfl⟩ := own_form hown5
  have hb5 := below_own hb4 hb4.size (Nat.le_refl _) hown4 hg5
  have hL2'' := hL2'.below hb5
  have hL3' := hL3.below hb5
  have hbb := hb3.trans (hb5.mono hb3.size)
  have hd5 := Reads.of_own hown5
  have hc5 := own_le hown5
  clear hg5 hb4 hb5 hown4 hown5 hd4 hd3 hb3 hL2' hL3
  go_wp2_with fail
  refine (frames_any A5 n2 c5 _ d w5 hd5 (Nat.le_refl _) (by omega) hc5).mono ?_
  intro e w6 h
  obtain ⟨v6, rfl, hL6, hq⟩ := h.to hF
  have hL2 := hL2''.below hq
  have hL3 := hL3'.below hq
  have hb6 := hbb.trans (hq.mono hbb.size)
  clear h hL2'' hL3' hbb hd5 hq
  go_wp2_with fail
  refine (same_any v2 v3 _ _ w6 hL2 hL3 (by omega)).mono ?_
  intro e w7 h
  obtain ⟨rfl, hq⟩ := h.to
  have hL6' := hL6.below hq
  have hL3' := hL3.below hq
  have hb7 := hb6.trans (hq.mono hb6.size)
  clear h hL2 hL3 hL6 hb6 hq
  go_wp2_with fail
  refine (same_any v6 v3 _ _ w7 hL6' hL3' (by omega)).mono ?_
  intro e w8 h
  obtain ⟨rfl, hq⟩ := h.to
  have hb8 := hb7.trans (hq.mono hb7.size)
  clear h hq
  go_wp2_with fail
  go_ret
  exact ⟨rfl, hb8⟩
set_option maxRecDepth 100000 in
set_option maxHeartbeats 1000000 in
theorem frames_some_b (A1 A2 : Option Addr) (n1 c1 n2 c2 B : Nat) (l d : List UInt8) (w : World) (hl : Reads w B 1 A1 n1 (l.map byteV)) (hd : Reads w B 1 A2 n2 (d.map byteV)) (hB : B ≤ w.heap.size) (h0 : 0 < n1) (hn1 : n1 ≤ 2000) (hc1 : n1 ≤ c1) (hn2 : n2 ≤ 4000) (hc2 : n2 ≤ c2) :
    Calls Try.prog 4 #[.slice A1 n1 c1, .slice A2 n2 c2] w (AwEnd w) := by
  obtain ⟨i0, hi, hz0, hz1, hz2⟩ := info_parts Try.info5
  obtain ⟨j0, ji, jz0, jz1, jz2⟩ := info_parts Try.info22
  have hn1' : ¬ (2000 : Int) < (n1 : Int) := by omega
  have hn2' : ¬ (4000 : Int) < (n2 : Int) := by omega
  have hnz : ((n1 : Int) == 0) = false := by simp; omega
  have hnp : (0 : Int) < (n1 : Int) := by omega
  obtain ⟨PS, K, hF, hK, hPS⟩ := frames_get 4000 d (by have := hd.1; simp at this; omega)
  have hll : l.length = n1 := by have := hl.1; simpa using this
  have hF2 : Hid (frames (frameL l ++ d) = (l :: PS, n1 + 8 + K)) := by
    have h := frames_frame l d (by omega) (by omega)
    rw [hF.out] at h
    rw [Nat.add_comm n1 8, ← hll]; exact h
  clear hll
  go_enter Try.func4, Try.ntmps4
  go_wp2_with fail
  refine (awake_any w).mono ?_
  rintro e w1 ⟨rfl, hb1⟩
  have hl1 := hl.below (hb1.mono hB)
  have hd1 := hd.below (hb1.mono hB)
  go_wp2_with fail
  refine (frame_ok A1 n1 c1 B l w1 hl1 (by have := hb1.size; omega) h0 (by omega)).mono ?_
  rintro e w2 ⟨Af, cf, rfl, hownf, hq⟩
  have hl2 := hl1.below (hq.mono (by have := hb1.size; omega))
  have hd2 := hd1.below (hq.mono (by have := hb1.size; omega))
  have hb2 := hb1.trans (hq.mono hb1.size)
  have hf2 := Reads.of_own hownf
  clear hb1 hq hl1 hd1 hownf
  go_wp2_with fail
  refine (rframe_ok A1 n1 c1 B l w2 hl2 (by have := hb2.size; omega) (by omega)).mono ?_
  rintro e w3 ⟨Ag, cg, rfl, howng, hq⟩
  have hl3 := hl2.below (hq.mono (by have := hb2.size; omega))
  have hd3 := hd2.below (hq.mono (by have := hb2.size; omega))
  have hb3 := hb2.trans (hq.mono hb2.size)
  have hf3 := (hf2.below hq).more hq.size
  have hg3 := Reads.of_own howng
  clear hb2 hq hl2 hd2 hf2 howng
  go_wp2_with fail
  refine (bytes_eq Af Ag _ _ cf cg _ _ _ _ w3 hf3 hg3).mono ?_
  rintro e w4 ⟨rfl, rfl⟩
  have hee : (frameL l == frameL l) = true := by simp
  rw [hee]
  clear hee hg3
  go_wp2_with fail
  refine (frames_any A2 n2 c2 B d w3 hd3 (by have := hb3.size; omega) (by omega) hc2).mono ?_
  intro e w4 h
  obtain ⟨v2, rfl, hL2, hq⟩ := h.to hF
  clear h
  have hb4 := hb3.trans (hq.mono hb3.size)
  have hd4 := hd3.below (hq.mono (by have := hb3.size; omega))
  have hl4 := hl3.below (hq.mono (by have := hb3.size; omega))
  have hf4 := (hf3.below hq).more hq.size
  clear hq hb3 hd3 hl3 hf3
  go_wp2_with fail
  refine (rframes_any A2 n2 c2 B d w4 hd4 (by have := hb4.size; omega) (by omega) hc2).mono ?_
  intro e w5 h
  obtain ⟨v3, rfl, hL3, hq⟩ := h.to hF
  clear h
  have hb5 := hb4.trans (hq.mono hb4.size)
  have hd5 := hd4.below (hq.mono (by have := hb4.size; omega))
  have hl5 := hl4.below (hq.mono (by have := hb4.size; omega))
  have hf5 := (hf4.below hq).more hq.size
  have hL2' := hL2.below hq
  clear hq hb4 hd4 hl4 hf4 hL2
  have hown0 := World.ownsRow_lit (e := 5) (size := 1) w5 #[] 0 (Nat.le_refl _) (by decide) rfl
  have hf5' := hf5.alloc (Nat.le_refl _) (.cells #[] 5)
  go_wp2_with (at_builtin; refine wpList_append_any _ rfl (.tmp 71) (.tmp 72) 22 rfl w5.heap.size 5 i0 (.int .u8 0) 1 1 Try.underlying22 hi hz0 hz1 hz2 rfl (by decide) _ _ _ rfl hown0 _ _ _ _ ((frameL l).map byteV) rfl hf5' (oneB _) (by unfold maxLen; omega) (by omega) (by simp) ?_)
  intro v6 w6 hown6 hg6 _
  have hb6 := (below_own ((Below.refl w5.heap.size w5).alloc (Nat.le_refl _) (.cells #[] 5)) (by simp) (Nat.le_refl _) hown0 hg6)
  clear hg6 hown0 hf5' hf5
  have hd6 := hd5.below (hb6.mono (by have := hb5.size; omega))
  go_wp2_with (at_builtin; refine wpList_append_any _ rfl (.tmp 73) (.tmp 74) 22 rfl w5.heap.size 5 i0 (.int .u8 0) 1 1 Try.underlying22 hi hz0 hz1 hz2 rfl (by decide) _ _ _ rfl hown6 _ _ _ _ (d.map byteV) rfl hd6 (oneB d) (by unfold maxLen; omega) (by omega) hb6.size ?_)
  intro v7 w7 hown7 hg7 _
  obtain ⟨A7, c7, rfl⟩ := own_form hown7
  have hb7 := below_own hb6 hb6.size (Nat.le_refl _) hown6 hg7
  have hown7' : w7.ownsRow w5.heap.size 5 1 (.slice A7 (n1 + 8 + n2) c7) (n1 + 8 + n2) ((frameL l ++ d).map byteV) := by rw [List.map_append]; simpa using hown7
  have hd7 := Reads.of_own hown7'
  have hc7 := own_le hown7'
  have hL2'' := hL2'.below hb7
  have hL3' := hL3.below hb7
  have hbb := hb5.trans (hb7.mono hb5.size)
  have hl7 := hl5.below (hb7.mono (by have := hb5.size; omega))
  clear hg7 hb5 hb6 hb7 hown6 hown7 hown7' hd6 hd5 hl5 hL2' hL3
  go_wp2_with fail
  refine (frames_any A7 _ c7 _ (frameL l ++ d) w7 hd7 (Nat.le_refl _) (by omega) hc7).mono ?_
  intro e w8 h
  obtain ⟨v8, rfl, hL8, hq⟩ := h.to hF2
  have hL2 := hL2''.below hq
  have hL3 := hL3'.below hq
  have hl8 := hl7.below (hq.mono (by have := hbb.size; omega))
  have hb8 := hbb.trans (hq.mono hbb.size)
  clear h hL2'' hL3' hbb hd7 hq hl7
  go_wp2_with fail
  refine (same_any v2 v3 _ _ w8 hL2 hL3 (by omega)).mono ?_
  intro e w9 h
  obtain ⟨rfl, hq⟩ := h.to
  have hL8' := hL8.below hq
  have hL3' := hL3.below hq
  have hb9 := hb8.trans (hq.mono hb8.size)
  have hl9 := hl8.below (hq.mono (by have := hb8.size; omega))
  clear h hL2 hL3 hL8 hb8 hq hl8
  obtain ⟨A3, c3, vs3, rfl, hc3, hr3, hp3⟩ := hL3'
  have hownl := World.ownsRow_lit (e := 22) (size := 1) w9 #[.slice A1 n1 c1] 1 (Nat.le_refl _) (by decide) rfl
  have hr3' := hr3.alloc (Nat.le_refl _) (.cells #[.slice A1 n1 c1] 22)
  go_wp2_with (at_builtin; refine wpList_append_any _ rfl (.tmp 100) (.tmp 101) 36 rfl w9.heap.size 22 j0 (.slice none 0 0) 1 24 Try.underlying36 ji jz0 jz1 jz2 rfl (by decide) _ _ _ rfl hownl _ _ _ _ vs3 rfl hr3' hp3.one (by unfold maxLen; omega) (by omega) (by simp) ?_)
  intro v10 w10 hown10 hg10 _
  have hq := (below_own ((Below.refl w9.heap.size w9).alloc (Nat.le_refl _) (.cells #[.slice A1 n1 c1] 22)) (by simp) (Nat.le_refl _) hownl hg10)
  have hb10 := hb9.trans (hq.mono hb9.size)
  have hL10 : LL w10 v10 (l :: PS) := by
    refine LL.mk' (vs := .slice A1 n1 c1 :: vs3) hown10 (Pays.cons ?_ (hp3.below hq)) (by simp [Nat.add_comm])
    exact PayOk.of_reads (hl9.below (hq.mono (by have := hb9.size; omega))) (by have := hb10.size; omega) hc1 (by simp)
  have hL8 := hL8'.below hq
  clear hg10 hownl hr3 hr3' hp3 hown10 hq hb9 hL8' hl9
  go_wp2_with fail
  refine (same_any v8 v10 (l :: PS) (l :: PS) w10 hL8 hL10 (by simp; omega)).mono ?_
  intro e w11 h
  obtain ⟨rfl, hq⟩ := h.to
  have hb11 := hb10.trans (hq.mono hb10.size)
  clear h hq hb10
  go_wp2_with fail
  go_ret
  exact ⟨rfl, hb11⟩
end Go.Proofs.Ytcppmmdkblmfoaa
