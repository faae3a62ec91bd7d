/- The walk of the law WalForms. -/
import Derived.Test.YtcppmmdkblmfoaaLOpens
namespace Go.Proofs.Ytcppmmdkblmfoaa
open Go.RowKit Go.WideMaps
theorem open_some (st : AS) (nm : ByteArray) (h : ∀ f, findA nm.data.toList st.files = some f → (frames f.data).2 = f.data.length) : ∃ ps k, openA st nm = ⟨st, some (ps, k), 0⟩ := by
  unfold openA
  cases hf : findA nm.data.toList st.files with
  | none => exact ⟨_, _, rfl⟩
  | some f =>
    have := h f hf
    simp only
    rw [if_neg (by omega)]
    exact ⟨_, _, rfl⟩
theorem find_one_any (nm : List UInt8) (d : List UInt8) (s : Nat) (f : AF) (h : findA nm (one d s).files = some f) : f.data = d := by
  unfold findA one at h
  simp only [findG] at h
  split at h
  · injection h with h; rw [← h]
  · cases h
theorem made_zero (m : Nat) : (madeCells (Value.int .u8 0).cells (m * 1)).toList = (List.replicate m (0 : UInt8)).map byteV := by
  apply List.ext_getElem?
  intro j
  rw [Nat.mul_one, List.getElem?_map, List.getElem?_replicate]
  by_cases hj : j < m
  · rw [if_pos hj]
    simp [madeCells, hj, Value.cells, byteV, Nat.mod_one]
  · rw [if_neg hj]
    simp [madeCells, hj]
set_option maxRecDepth 100000 in
set_option maxHeartbeats 1000000 in
theorem forms_any (z : Int) (nm : ByteArray) (w : World) (hz : 0 ≤ z) (hz2 : z < 256) (hs : nm.size ≤ maxLen) :
    Calls Try.prog 7 #[.int .u8 z, .string nm] w (AwEnd w) := by
  obtain ⟨i0, hi, hz0, hz1, hz2'⟩ := info_parts Try.info5
  obtain ⟨m, hm, hm1, hm2⟩ : ∃ m : Nat, 1048576 + z % 3 = (m : Int) ∧ 1048576 ≤ m ∧ m ≤ 1048578 := ⟨(1048576 + z % 3).toNat, by omega, by omega, by omega⟩
  have HM := Lib.hid hm
  clear hm
  go_enter Try.func7, Try.ntmps7
  go_wp2_with fail
  refine (awake_any w).mono ?_
  rintro e w1 ⟨rfl, hb1⟩
  go_wp2_with (at_make; refine wpList_make_full _ rfl _ _ 22 rfl w1.heap.size 5 i0 (.int .u8 0) 1 Try.underlying22 hi hz0 hz1 _ _ _ _ m rfl rfl HM.out HM.out (by rw [hz2']; omega) (by unfold maxLen; omega) (Nat.le_refl _) ?_; intro w2 hown2 hg2)
  rw [made_zero] at hown2
  have hbl : (List.replicate m (0 : UInt8)).length = m := List.length_replicate
  have HBL := Lib.hid hbl
  clear hbl
  generalize List.replicate m (0 : UInt8) = big at *
  generalize hA2 : (some (⟨w1.heap.size, 0, none⟩ : Addr)) = A2 at *
  have hq : Below w1.heap.size w1 w2 := (Below.refl w1.heap.size w1).grown hg2 (Nat.le_refl _) (by simp)
  have hb2 := hb1.trans (hq.mono hb1.size)
  clear hq hg2 hA2 hb1
  refine (newS_any w2).mono ?_
  rintro e w3 ⟨rfl, hS3, hq⟩
  have hown3 := own_below hown2 hq
  have hb3 := hb2.trans (hq.mono hb2.size)
  have HSZ := Lib.hid (show w.heap.size ≤ w2.heap.size ∧ w2.heap.size ≤ w3.heap.size from ⟨hb2.size, hq.size⟩)
  have HO2 := Lib.hid (fun g hg => hown2.lt g hg)
  clear hq hb2 hown2
  obtain ⟨F3, hF3, hS3⟩ : ∃ F3, Hid (∀ i, F3 i → w2.heap.size ≤ i ∧ i < w3.heap.size) ∧ SysM w3 w2.heap.size F3 (w2.heap.size + 1) w2.heap.size 0 emptyA := ⟨_, fun i hi => hi, hS3.cap⟩
  have hop := open_any w2.heap.size (w2.heap.size + 1) w2.heap.size 0 F3 emptyA logN w3 hS3 (fun i hi => (hF3.out i hi).2) logN_valid
  rw [show openA emptyA logN = ⟨emptyA, some ([], 0), 0⟩ from rfl] at hop
  unfold OpenEnd at hop
  simp only at hop
  clear hS3
  go_wp2_with fail
  refine hop.mono ?_
  clear hop
  rintro e w4 ⟨wm, A4, c4, vs4, lb, rfl, hbm, hx1, hx2, hlb, hlbm, hL4, hk4⟩
  clear hx1 hx2
  have hb4 : Below w.heap.size w w4 := hk4.below (hb3.trans (hbm.mono hb3.size)) (Nat.le_trans hb3.size hbm.size) fun i hi => by
    rcases hi with h | h
    · have := (hF3.out _ h).1; have := HSZ.out; omega
    · have := HSZ.out; omega
  have hown4 : w4.ownsRow w1.heap.size 5 1 (.slice A2 m m) m (big.map byteV) := own_keptF (own_below hown3 hbm) hk4 fun g hg hf => by
    have := HO2.out g hg
    rcases hf with h | h
    · have := (hF3.out _ h).1; omega
    · have := HSZ.out; omega
  obtain ⟨F4, hF4, hL4⟩ : ∃ F4, Hid (∀ i, F4 i → w2.heap.size ≤ i ∧ i < w4.heap.size) ∧ LogM w4 w2.heap.size F4 (w2.heap.size + 1) w2.heap.size 0 emptyA lb logN 0 0 false := ⟨_, fun i hi => ⟨by
    rcases hi.1 with h | h
    · exact (hF3.out _ h).1
    · have := HSZ.out; have := hbm.size; omega, hi.2⟩, hL4⟩
  have HS4 := Lib.hid (show w2.heap.size ≤ lb ∧ w3.heap.size ≤ w4.heap.size from ⟨by have := HSZ.out; omega, Nat.le_trans hbm.size hk4.size⟩)
  clear hk4 hbm hb3 hown3 hlb hlbm
  have hla := lapp_any w2.heap.size (w2.heap.size + 1) w2.heap.size 0 F4 emptyA lb logN 0 0 false A2 m m _ big w4 hL4 (Reads.of_own hown4) (Nat.le_refl _) HBL.out logN_size (by unfold maxLen; omega) (by omega) (by omega) (by omega) (by omega)
  have HG := Lib.hid (show ∀ i, F4 i ∨ i = lb → w2.heap.size ≤ i from fun i hi => by
    rcases hi with h | h
    · exact (hF4.out _ h).1
    · have := HS4.out; omega)
  have hsz : nm.size ≤ 9223372036854775807 := by simpa [maxLen] using hs
  by_cases hbig : 1048576 < m
  · have hR : lappA emptyA logN 0 0 false big = ⟨emptyA, 0, 0, false, 9⟩ := by
      unfold lappA
      rw [if_neg (by decide), if_neg (by rw [HBL.out]; omega), if_pos (by rw [HBL.out]; exact hbig)]
    rw [hR] at hla
    simp only [errV] at hla
    rw [if_neg (by decide)] at hla
    clear hR hL4
    have g1 : (1048576 : Int) < (m : Int) := by omega
    have g2 : ¬ (m : Int) ≤ 1048576 := by omega
    have g3 : decide ((1048576 : Int) < (m : Int)) = true := by simpa using g1
    have g4 : decide ((m : Int) ≤ 1048576) = false := by simp; omega
    have hfl := fun w => frame_large A2 m m w hbig
    go_wp2_with fail
    refine hla.mono ?_
    clear hla
    rintro e w5 ⟨rfl, hL5, hk5⟩
    have hb5 : Below w.heap.size w w5 := hk5.below hb4 hb4.size fun i hi => by have := HG.out i hi; have := HSZ.out; omega
    have HB4 := Lib.hid hb4.size
    clear hk5 hb4 hown4
    go_wp2_with fail
    refine (is_same 9 w5 (by decide)).mono ?_
    rintro e w' ⟨rfl, rfl⟩
    go_wp2_with fail
    refine (llen_any lb _ logN _ _ _ w5 hL5.2.1).mono ?_
    rintro e w' ⟨rfl, rfl⟩
    go_wp2_with fail
    refine (lbroken_any lb _ logN _ _ _ w5 hL5.2.1).mono ?_
    rintro e w' ⟨rfl, rfl⟩
    go_wp2_with fail
    refine (hfl w5).mono ?_
    rintro e w' ⟨rfl, rfl⟩
    go_wp2_with fail
    refine (num_err 9 w5).mono ?_
    rintro e w' ⟨rfl, rfl⟩
    go_wp2_with fail
    refine (num_err 9 w5).mono ?_
    rintro e w' ⟨rfl, rfl⟩
    obtain ⟨F5, hF5, HB5, hS6⟩ : ∃ F5 : Nat → Prop, (∀ i, F5 i → i < w5.heap.size) ∧ Hid (∀ i, F5 i → w.heap.size ≤ i) ∧ SysM w5 w2.heap.size F5 (w2.heap.size + 1) w2.heap.size 1 emptyA := ⟨_, fun i hi => hi.2, fun i hi => by
      rcases hi.1 with h | h
      · have := (hF4.out _ h).1; have := HSZ.out; omega
      · have := HB4.out; omega, hL5.1⟩
    have hb6 := hb5
    clear hL5 hb5 hfl
    generalize w5 = w6 at *
    by_cases hv : validN nm = true
    · have hv' : 1 ≤ nm.size ∧ nm.size ≤ 32 := by simpa [validN] using hv
      obtain ⟨ps, k, hok⟩ := open_some emptyA nm (fun f hf => (by cases hf))
      have hop := open_any w2.heap.size (w2.heap.size + 1) w2.heap.size 1 F5 emptyA nm w6 hS6 hF5 hv
      rw [hok] at hop
      unfold OpenEnd at hop
      simp only at hop
      clear hok hv hS6
      have b1 : ¬ (nm.size : Int) < 1 := by omega
      have b2 : ¬ (32 : Int) < (nm.size : Int) := by omega
      have b3 : decide ((nm.size : Int) < 1) = false := by simp; omega
      have b4 : decide ((32 : Int) < (nm.size : Int)) = false := by simp; omega
      clear hv'
      go_wp2_with fail
      refine hop.mono ?_
      clear hop
      rintro e w7 ⟨wn, A7, c7, vs7, lb7, rfl, hbn, hx1, hx2, hlb7, hx3, hx4, hk7⟩
      have hb7 : Below w.heap.size w w7 := hk7.below (hb6.trans (hbn.mono hb6.size)) (Nat.le_trans hb6.size hbn.size) fun i hi => by
        rcases hi with h | h
        · exact HB5.out i h
        · have := hb6.size; omega
      clear hx1 hx2 hx3 hx4 hk7 hbn hb6 hlb7
      go_wp2_with fail
      refine (is_nil 13 w7 (by decide)).mono ?_
      rintro e w' ⟨rfl, rfl⟩
      go_wp2_with fail
      refine (open_nil _ w7).mono ?_
      rintro e w' ⟨rfl, rfl⟩
      go_wp2_with fail
      refine (is_same 5 w7 (by decide)).mono ?_
      rintro e w' ⟨rfl, rfl⟩
      go_wp2_with fail
      refine (lapp_nil _ w7).mono ?_
      rintro e w' ⟨rfl, rfl⟩
      go_wp2_with fail
      refine (is_same 5 w7 (by decide)).mono ?_
      rintro e w' ⟨rfl, rfl⟩
      go_wp2_with fail
      refine (lsync_nil w7).mono ?_
      rintro e w' ⟨rfl, rfl⟩
      go_wp2_with fail
      refine (is_same 5 w7 (by decide)).mono ?_
      rintro e w' ⟨rfl, rfl⟩
      go_wp2_with fail
      refine (llen_nil w7).mono ?_
      rintro e w' ⟨rfl, rfl⟩
      go_wp2_with fail
      refine (lsize_nil w7).mono ?_
      rintro e w' ⟨rfl, rfl⟩
      go_wp2_with fail
      refine (lbroken_nil w7).mono ?_
      rintro e w' ⟨rfl, rfl⟩
      go_wp2_with fail
      go_ret
      exact ⟨rfl, hb7⟩
    · have hvf : validN nm = false := by simpa using hv
      have hop := open_name (w2.heap.size + 1) nm w6 hvf hs
      have hbad : nm.size < 1 ∨ 32 < nm.size := by
        by_cases h1 : 1 ≤ nm.size
        · exact .inr (by
            have : ¬ nm.size ≤ 32 := fun h2 => hv (by simp [validN, h1, h2])
            omega)
        · exact .inl (by omega)
      clear hv hvf hS6
      rcases hbad with hbad | hbad
      · have b1 : (nm.size : Int) < 1 := by omega
        have b3 : decide ((nm.size : Int) < 1) = true := by simpa using b1
        clear hbad
        go_wp2_with fail
        refine hop.mono ?_
        clear hop
        rintro e w7 ⟨rfl, rfl⟩
        go_wp2_with fail
        refine (is_same 13 w6 (by decide)).mono ?_
        rintro e w' ⟨rfl, rfl⟩
        have hb7 := hb6
        go_wp2_with fail
        refine (open_nil _ w6).mono ?_
        rintro e w' ⟨rfl, rfl⟩
        go_wp2_with fail
        refine (is_same 5 w6 (by decide)).mono ?_
        rintro e w' ⟨rfl, rfl⟩
        go_wp2_with fail
        refine (lapp_nil _ w6).mono ?_
        rintro e w' ⟨rfl, rfl⟩
        go_wp2_with fail
        refine (is_same 5 w6 (by decide)).mono ?_
        rintro e w' ⟨rfl, rfl⟩
        go_wp2_with fail
        refine (lsync_nil w6).mono ?_
        rintro e w' ⟨rfl, rfl⟩
        go_wp2_with fail
        refine (is_same 5 w6 (by decide)).mono ?_
        rintro e w' ⟨rfl, rfl⟩
        go_wp2_with fail
        refine (llen_nil w6).mono ?_
        rintro e w' ⟨rfl, rfl⟩
        go_wp2_with fail
        refine (lsize_nil w6).mono ?_
        rintro e w' ⟨rfl, rfl⟩
        go_wp2_with fail
        refine (lbroken_nil w6).mono ?_
        rintro e w' ⟨rfl, rfl⟩
        go_wp2_with fail
        go_ret
        exact ⟨rfl, hb7⟩
      · have b1 : ¬ (nm.size : Int) < 1 := by omega
        have b2 : (32 : Int) < (nm.size : Int) := by omega
        have b3 : decide ((nm.size : Int) < 1) = false := by simp; omega
        have b4 : decide ((32 : Int) < (nm.size : Int)) = true := by simpa using b2
        clear hbad
        go_wp2_with fail
        refine hop.mono ?_
        clear hop
        rintro e w7 ⟨rfl, rfl⟩
        go_wp2_with fail
        refine (is_same 13 w6 (by decide)).mono ?_
        rintro e w' ⟨rfl, rfl⟩
        have hb7 := hb6
        go_wp2_with fail
        refine (open_nil _ w6).mono ?_
        rintro e w' ⟨rfl, rfl⟩
        go_wp2_with fail
        refine (is_same 5 w6 (by decide)).mono ?_
        rintro e w' ⟨rfl, rfl⟩
        go_wp2_with fail
        refine (lapp_nil _ w6).mono ?_
        rintro e w' ⟨rfl, rfl⟩
        go_wp2_with fail
        refine (is_same 5 w6 (by decide)).mono ?_
        rintro e w' ⟨rfl, rfl⟩
        go_wp2_with fail
        refine (lsync_nil w6).mono ?_
        rintro e w' ⟨rfl, rfl⟩
        go_wp2_with fail
        refine (is_same 5 w6 (by decide)).mono ?_
        rintro e w' ⟨rfl, rfl⟩
        go_wp2_with fail
        refine (llen_nil w6).mono ?_
        rintro e w' ⟨rfl, rfl⟩
        go_wp2_with fail
        refine (lsize_nil w6).mono ?_
        rintro e w' ⟨rfl, rfl⟩
        go_wp2_with fail
        refine (lbroken_nil w6).mono ?_
        rintro e w' ⟨rfl, rfl⟩
        go_wp2_with fail
        go_ret
        exact ⟨rfl, hb7⟩
  · have hR : lappA emptyA logN 0 0 false big = ⟨one (frameL big) 0, 0 + 1, 0 + (big.length + 8 : Nat), false, 0⟩ := by
      unfold lappA
      rw [if_neg (by decide), if_neg (by rw [HBL.out]; omega), if_neg (by rw [HBL.out]; exact hbig), append_empty _ (by rw [frameL_len, HBL.out]; omega)]
      simp only [if_true]
    rw [hR, HBL.out] at hla
    simp only [errV_zero] at hla
    clear hR hL4
    have g1 : ¬ (1048576 : Int) < (m : Int) := by omega
    have g2 : (m : Int) ≤ 1048576 := by omega
    have g3 : decide ((1048576 : Int) < (m : Int)) = false := by simp; omega
    have g4 : decide ((m : Int) ≤ 1048576) = true := by simpa using g2
    have hfl := fun (w : World) (hr : Reads w w.heap.size 1 A2 m (big.map byteV)) => frame_ok A2 m m w.heap.size big w hr (Nat.le_refl _) (by omega) (by omega)
    go_wp2_with fail
    refine hla.mono ?_
    clear hla
    rintro e w5 ⟨rfl, hL5, hk5⟩
    have hb5 : Below w.heap.size w w5 := hk5.below hb4 hb4.size fun i hi => by have := HG.out i hi; have := HSZ.out; omega
    have hr5 := Reads.of_own (own_keptF hown4 hk5 fun g hg hf => by have := HG.out g hf; have := HO2.out g hg; omega)
    have HB4 := Lib.hid hb4.size
    clear hk5 hb4 hown4
    go_wp2_with fail
    refine (lsize_any lb _ logN _ _ _ w5 hL5.2.1).mono ?_
    rintro e w' ⟨rfl, rfl⟩
    go_wp2_with fail
    refine (lbroken_any lb _ logN _ _ _ w5 hL5.2.1).mono ?_
    rintro e w' ⟨rfl, rfl⟩
    go_wp2_with fail
    refine (hfl w5 hr5).mono ?_
    rintro e w6 ⟨Ax, cx, rfl, hox, hq⟩
    clear hox
    have hb6 := hb5.trans (hq.mono hb5.size)
    have hL6 := hL5.below hq
    have HB6 := Lib.hid hq.size
    clear hL5 hb5 hq hr5 hfl
    go_wp2_with fail
    refine (num_nil w6).mono ?_
    rintro e w' ⟨rfl, rfl⟩
    go_wp2_with fail
    refine (num_nil w6).mono ?_
    rintro e w' ⟨rfl, rfl⟩
    obtain ⟨F5, hF5, HB5, hS6⟩ : ∃ F5 : Nat → Prop, (∀ i, F5 i → i < w6.heap.size) ∧ Hid (∀ i, F5 i → w.heap.size ≤ i) ∧ SysM w6 w2.heap.size F5 (w2.heap.size + 1) w2.heap.size 1 (one (frameL big) 0) := ⟨_, fun i hi => Nat.lt_of_lt_of_le hi.2 HB6.out, fun i hi => by
      rcases hi.1 with h | h
      · have := (hF4.out _ h).1; have := HSZ.out; omega
      · have := HB4.out; omega, hL6.1⟩
    clear hL6
    by_cases hv : validN nm = true
    · have hv' : 1 ≤ nm.size ∧ nm.size ≤ 32 := by simpa [validN] using hv
      obtain ⟨ps, k, hok⟩ := open_some (one (frameL big) 0) nm (fun f hf => (by rw [find_one_any _ _ _ _ hf, frames_one big (by rw [HBL.out]; omega) (by rw [HBL.out]; omega), frameL_len]; exact Nat.add_comm _ _))
      have hop := open_any w2.heap.size (w2.heap.size + 1) w2.heap.size 1 F5 (one (frameL big) 0) nm w6 hS6 hF5 hv
      rw [hok] at hop
      unfold OpenEnd at hop
      simp only at hop
      clear hok hv hS6
      have b1 : ¬ (nm.size : Int) < 1 := by omega
      have b2 : ¬ (32 : Int) < (nm.size : Int) := by omega
      have b3 : decide ((nm.size : Int) < 1) = false := by simp; omega
      have b4 : decide ((32 : Int) < (nm.size : Int)) = false := by simp; omega
      clear hv'
      go_wp2_with fail
      refine hop.mono ?_
      clear hop
      rintro e w7 ⟨wn, A7, c7, vs7, lb7, rfl, hbn, hx1, hx2, hlb7, hx3, hx4, hk7⟩
      have hb7 : Below w.heap.size w w7 := hk7.below (hb6.trans (hbn.mono hb6.size)) (Nat.le_trans hb6.size hbn.size) fun i hi => by
        rcases hi with h | h
        · exact HB5.out i h
        · have := hb6.size; omega
      clear hx1 hx2 hx3 hx4 hk7 hbn hb6 hlb7
      go_wp2_with fail
      refine (is_nil 13 w7 (by decide)).mono ?_
      rintro e w' ⟨rfl, rfl⟩
      go_wp2_with fail
      refine (open_nil _ w7).mono ?_
      rintro e w' ⟨rfl, rfl⟩
      go_wp2_with fail
      refine (is_same 5 w7 (by decide)).mono ?_
      rintro e w' ⟨rfl, rfl⟩
      go_wp2_with fail
      refine (lapp_nil _ w7).mono ?_
      rintro e w' ⟨rfl, rfl⟩
      go_wp2_with fail
      refine (is_same 5 w7 (by decide)).mono ?_
      rintro e w' ⟨rfl, rfl⟩
      go_wp2_with fail
      refine (lsync_nil w7).mono ?_
      rintro e w' ⟨rfl, rfl⟩
      go_wp2_with fail
      refine (is_same 5 w7 (by decide)).mono ?_
      rintro e w' ⟨rfl, rfl⟩
      go_wp2_with fail
      refine (llen_nil w7).mono ?_
      rintro e w' ⟨rfl, rfl⟩
      go_wp2_with fail
      refine (lsize_nil w7).mono ?_
      rintro e w' ⟨rfl, rfl⟩
      go_wp2_with fail
      refine (lbroken_nil w7).mono ?_
      rintro e w' ⟨rfl, rfl⟩
      go_wp2_with fail
      go_ret
      exact ⟨rfl, hb7⟩
    · have hvf : validN nm = false := by simpa using hv
      have hop := open_name (w2.heap.size + 1) nm w6 hvf hs
      have hbad : nm.size < 1 ∨ 32 < nm.size := by
        by_cases h1 : 1 ≤ nm.size
        · exact .inr (by
            have : ¬ nm.size ≤ 32 := fun h2 => hv (by simp [validN, h1, h2])
            omega)
        · exact .inl (by omega)
      clear hv hvf hS6
      rcases hbad with hbad | hbad
      · have b1 : (nm.size : Int) < 1 := by omega
        have b3 : decide ((nm.size : Int) < 1) = true := by simpa using b1
        clear hbad
        go_wp2_with fail
        refine hop.mono ?_
        clear hop
        rintro e w7 ⟨rfl, rfl⟩
        go_wp2_with fail
        refine (is_same 13 w6 (by decide)).mono ?_
        rintro e w' ⟨rfl, rfl⟩
        have hb7 := hb6
        go_wp2_with fail
        refine (open_nil _ w6).mono ?_
        rintro e w' ⟨rfl, rfl⟩
        go_wp2_with fail
        refine (is_same 5 w6 (by decide)).mono ?_
        rintro e w' ⟨rfl, rfl⟩
        go_wp2_with fail
        refine (lapp_nil _ w6).mono ?_
        rintro e w' ⟨rfl, rfl⟩
        go_wp2_with fail
        refine (is_same 5 w6 (by decide)).mono ?_
        rintro e w' ⟨rfl, rfl⟩
        go_wp2_with fail
        refine (lsync_nil w6).mono ?_
        rintro e w' ⟨rfl, rfl⟩
        go_wp2_with fail
        refine (is_same 5 w6 (by decide)).mono ?_
        rintro e w' ⟨rfl, rfl⟩
        go_wp2_with fail
        refine (llen_nil w6).mono ?_
        rintro e w' ⟨rfl, rfl⟩
        go_wp2_with fail
        refine (lsize_nil w6).mono ?_
        rintro e w' ⟨rfl, rfl⟩
        go_wp2_with fail
        refine (lbroken_nil w6).mono ?_
        rintro e w' ⟨rfl, rfl⟩
        go_wp2_with fail
        go_ret
        exact ⟨rfl, hb7⟩
      · have b1 : ¬ (nm.size : Int) < 1 := by omega
        have b2 : (32 : Int) < (nm.size : Int) := by omega
        have b3 : decide ((nm.size : Int) < 1) = false := by simp; omega
        have b4 : decide ((32 : Int) < (nm.size : Int)) = true := by simpa using b2
        clear hbad
        go_wp2_with fail
        refine hop.mono ?_
        clear hop
        rintro e w7 ⟨rfl, rfl⟩
        go_wp2_with fail
        refine (is_same 13 w6 (by decide)).mono ?_
        rintro e w' ⟨rfl, rfl⟩
        have hb7 := hb6
        go_wp2_with fail
        refine (open_nil _ w6).mono ?_
        rintro e w' ⟨rfl, rfl⟩
        go_wp2_with fail
        refine (is_same 5 w6 (by decide)).mono ?_
        rintro e w' ⟨rfl, rfl⟩
        go_wp2_with fail
        refine (lapp_nil _ w6).mono ?_
        rintro e w' ⟨rfl, rfl⟩
        go_wp2_with fail
        refine (is_same 5 w6 (by decide)).mono ?_
        rintro e w' ⟨rfl, rfl⟩
        go_wp2_with fail
        refine (lsync_nil w6).mono ?_
        rintro e w' ⟨rfl, rfl⟩
        go_wp2_with fail
        refine (is_same 5 w6 (by decide)).mono ?_
        rintro e w' ⟨rfl, rfl⟩
        go_wp2_with fail
        refine (llen_nil w6).mono ?_
        rintro e w' ⟨rfl, rfl⟩
        go_wp2_with fail
        refine (lsize_nil w6).mono ?_
        rintro e w' ⟨rfl, rfl⟩
        go_wp2_with fail
        refine (lbroken_nil w6).mono ?_
        rintro e w' ⟨rfl, rfl⟩
        go_wp2_with fail
        go_ret
        exact ⟨rfl, hb7⟩
theorem wForms (z : Int) (nm : ByteArray) (w : World) (hz : (Lit.int .u8 z).wf = true) (hs : nm.size ≤ maxLen) : Calls Try.prog 7 #[.int .u8 z, .string nm] w (AwEnd w) := by
  simp [Lit.wf, IntKind.min, IntKind.max, IntKind.signed, IntKind.bits] at hz
  exact forms_any z nm w (by omega) (by omega) hs
end Go.Proofs.Ytcppmmdkblmfoaa
