/- The walk of the reference's Valid, and of the law RefsValid. -/
import Derived.Test.YtmondfckpgjikaaAwake
namespace Go.Proofs.Ytmondfckpgjikaa
open Go.RowKit Go.WideMaps
set_option maxHeartbeats 400000 in
theorem rvalid_any (s : ByteArray) (w : World) (hs : s.size ≤ maxLen) : Calls Try.prog 18 #[.string s] w (VEnd w (validB s.data.toList)) := by
  unfold maxLen at hs
  by_cases h1 : s.size < 1
  · have hv := Lib.hid (validB_long (l := s.data.toList) (.inl h1))
    go_enter Try.func18, Try.ntmps18
    go_wp2
    go_ret
    rw [hv.out]
    exact ⟨rfl, rfl⟩
  by_cases h2 : 32 < s.size
  · have hv := Lib.hid (validB_long (l := s.data.toList) (.inr h2))
    go_enter Try.func18, Try.ntmps18
    go_wp2
    go_ret
    rw [hv.out]
    exact ⟨rfl, rfl⟩
  go_enter Try.func18, Try.ntmps18
  go_wp2
  go_loop [3] (fun i => ∃ k : Nat, k ≤ s.size ∧ i = .int .i64 k ∧ ∀ j (hj : j < s.data.toList.length), j < k → okAt j (s.data.toList[j].toNat) = true) (fun i => s.size - (intOf i).toNat)
  case atStart => exact ⟨0, by omega, rfl, fun j _ h => absurd h (by omega)⟩
  case round =>
    obtain ⟨k, hk, rfl, hall⟩ := hrel
    have HALL := Lib.hid hall
    clear hall
    by_cases hlt : k < s.size
    · have hkl : k < s.data.toList.length := hlt
      have hc : s.data.toList[k].toNat = s[k].toNat := rfl
      have hcb := s[k].toNat_lt
      by_cases hok : okAt k s[k].toNat = true
      · have hnext : Hid (∀ j (hj : j < s.data.toList.length), j < k + 1 → okAt j (s.data.toList[j].toNat) = true) := by
          intro j hj hjk
          by_cases e : j = k
          · subst e; exact hok
          · exact HALL.out j hj (by omega)
        unfold okAt at hok
        by_cases h1 : 97 ≤ s[k].toNat ∧ s[k].toNat ≤ 122
        · obtain ⟨h1, h2⟩ := h1
          clear hok hc
          go_wp2
          go_round
          case rel => exact ⟨k + 1, by omega, by go_num, hnext.out⟩
          case measure => simp [intOf]; omega
        · have h3 : 0 < k ∧ ((48 ≤ s[k].toNat ∧ s[k].toNat ≤ 57) ∨ s[k].toNat = 45) := by
            simp at hok
            rcases hok with h | h
            · exact absurd h h1
            · exact h
          obtain ⟨h0, h3⟩ := h3
          clear hok hc
          rcases h3 with ⟨h3, h4⟩ | h3
          · have h5 : s[k].toNat < 97 := by omega
            have b0 : ((k : Int) == 0) = false := by simp; omega
            have b7 : ((s[k].toNat : Int) != 45) = true := by simp; omega
            clear h1
            go_wp2
            go_round
            case rel => exact ⟨k + 1, by omega, by go_num, hnext.out⟩
            case measure => simp [intOf]; omega
          · have h5 : s[k].toNat < 48 := by omega
            have b0 : ((k : Int) == 0) = false := by simp; omega
            have b7 : ((s[k].toNat : Int) != 45) = false := by simp [h3]
            clear h1 h3
            go_wp2
            go_round
            case rel => exact ⟨k + 1, by omega, by go_num, hnext.out⟩
            case measure => simp [intOf]; omega
      · have hv := Lib.hid (validB_bad hkl (by rw [hc]; simpa using hok))
        unfold okAt at hok
        simp at hok
        obtain ⟨h1, h2⟩ := hok
        clear hc
        have hlo : s[k].toNat < 97 ∨ 122 < s[k].toNat := by omega
        by_cases h0 : k = 0
        · subst h0
          rcases hlo with h | h
          · go_wp2
            go_ret
            rw [hv.out]
            exact ⟨rfl, rfl⟩
          · have d1 : decide ((s[0].toNat : Int) ≤ 122) = false := by simp; omega
            go_wp2
            go_ret
            rw [hv.out]
            exact ⟨rfl, rfl⟩
        · obtain ⟨h3, h4⟩ := h2 (by omega)
          have b7 : ((s[k].toNat : Int) != 45) = true := by simpa using fun h => h4 (by omega)
          have b0 : ((k : Int) == 0) = false := by simp; omega
          have h0' : 0 < k := by omega
          clear h1 h2 h4 h0
          rcases hlo with h | h
          · by_cases h6 : 48 ≤ s[k].toNat
            · have h7 : 57 < s[k].toNat := h3 h6
              clear h3
              go_wp2
              go_ret
              rw [hv.out]
              exact ⟨rfl, rfl⟩
            · clear h3
              go_wp2
              go_ret
              rw [hv.out]
              exact ⟨rfl, rfl⟩
          · have d1 : decide ((s[k].toNat : Int) ≤ 122) = false := by simp; omega
            clear h3
            go_wp2
            go_ret
            rw [hv.out]
            exact ⟨rfl, rfl⟩
    · have hv := Lib.hid (validB_all (l := s.data.toList) (by show 1 ≤ s.size; omega) (by show s.size ≤ 32; omega) (fun j hj => HALL.out j hj (by have : j < s.size := hj; omega)))
      go_wp2
      go_ret
      rw [hv.out]
      exact ⟨rfl, rfl⟩

set_option maxRecDepth 100000 in
set_option maxHeartbeats 1000000 in
theorem lvalid_any (s : ByteArray) (w : World) (hs : s.size ≤ maxLen) : Calls Try.prog 4 #[.string s] w (AwEnd w) := by
  cases hv : validB s.data.toList with
  | true =>
    have e1 : branchR [] s.data.toList (-1) 3 = ([⟨s.data.toList, 3, false⟩], 0) := by
      unfold branchR; rw [if_neg (by rw [hv]; decide), if_neg (by decide)]; rfl
    have e2 : tagR [⟨s.data.toList, 3, false⟩] s.data.toList 3 = ([⟨s.data.toList, 3, false⟩], 6) := by
      unfold tagR; rw [if_neg (by rw [hv]; decide), if_neg (by decide)]; simp [findR]
    have HV := Lib.hid hv
    have HE1 := Lib.hid e1
    have HE2 := Lib.hid e2
    clear hv e1 e2
    go_enter Try.func4, Try.ntmps4
    go_wp2_with fail
    refine (rvalid_any s w hs).mono ?_
    rintro e w1 ⟨rfl, rfl⟩
    rw [HV.out]
    go_wp2_with fail
    refine (new_any w).mono ?_
    rintro e w1 ⟨rfl, hT, hb1⟩
    have hz1 := hb1.size
    go_wp2_with fail
    refine (awake_any w1).mono ?_
    rintro e w2 ⟨rfl, hq⟩
    have hT2 := hT.below hq
    have hb2 := hb1.trans (hq.mono hz1)
    clear hT hq hb1
    go_wp2_with fail
    refine (valid_any s w2 hs).mono ?_
    rintro e w3 ⟨rfl, rfl⟩
    rw [HV.out]
    go_wp2_with fail
    refine (branch_any _ _ _ _ s (-1) 3 w2 hT2 (by decide) hs).mono ?_
    rintro e w3 ⟨rfl, hT3, hg⟩
    rw [HE1.out] at hT3 ⊢
    have hb3 := below_tab hb2 hb2.size (Nat.le_refl _) hg
    clear hg hT2 hb2
    rw [errV_zero]
    go_wp2_with fail
    refine (tag_any _ _ _ _ s 3 w3 hT3 (by decide) hs).mono ?_
    rintro e w4 ⟨rfl, hT4, hg⟩
    rw [HE2.out] at hT4 ⊢
    have hb4 := below_tab hb3 hb3.size (Nat.le_refl _) hg
    simp only
    go_wp2_with fail
    refine (is_errV 6 6 w4 (by decide)).mono ?_
    rintro e w5 ⟨rfl, rfl⟩
    go_wp2_with fail
    go_ret
    exact ⟨rfl, hb4⟩
  | false =>
    have e1 : branchR [] s.data.toList (-1) 3 = ([], 13) := by
      unfold branchR; rw [if_pos hv]
    have e2 : tagR [] s.data.toList 3 = ([], 13) := by
      unfold tagR; rw [if_pos hv]
    have HV := Lib.hid hv
    have HE1 := Lib.hid e1
    have HE2 := Lib.hid e2
    clear hv e1 e2
    go_enter Try.func4, Try.ntmps4
    go_wp2_with fail
    refine (rvalid_any s w hs).mono ?_
    rintro e w1 ⟨rfl, rfl⟩
    rw [HV.out]
    go_wp2_with fail
    refine (new_any w).mono ?_
    rintro e w1 ⟨rfl, hT, hb1⟩
    have hz1 := hb1.size
    go_wp2_with fail
    refine (awake_any w1).mono ?_
    rintro e w2 ⟨rfl, hq⟩
    have hT2 := hT.below hq
    have hb2 := hb1.trans (hq.mono hz1)
    clear hT hq hb1
    go_wp2_with fail
    refine (valid_any s w2 hs).mono ?_
    rintro e w3 ⟨rfl, rfl⟩
    rw [HV.out]
    go_wp2_with fail
    refine (branch_any _ _ _ _ s (-1) 3 w2 hT2 (by decide) hs).mono ?_
    rintro e w3 ⟨rfl, hT3, hg⟩
    rw [HE1.out] at hT3 ⊢
    have hb3 := below_tab hb2 hb2.size (Nat.le_refl _) hg
    clear hg hT2 hb2
    simp only [errV, show ¬ (13 : Int) = 0 by decide, if_false]
    go_wp2_with fail
    refine (tag_any _ _ _ _ s 3 w3 hT3 (by decide) hs).mono ?_
    rintro e w4 ⟨rfl, hT4, hg⟩
    rw [HE2.out] at hT4 ⊢
    have hb4 := below_tab hb3 hb3.size (Nat.le_refl _) hg
    simp only
    go_wp2_with fail
    refine (is_errV 13 6 w4 (by decide)).mono ?_
    rintro e w5 ⟨rfl, rfl⟩
    go_wp2_with fail
    go_ret
    exact ⟨rfl, hb4⟩
end Go.Proofs.Ytmondfckpgjikaa
