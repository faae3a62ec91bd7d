/- The walk of the law RefsSwaps. -/
import Derived.Test.YtmondfckpgjikaaAwake
import Derived.Laws.BitsAllLaws
import Derived.Laws.BitsLemmas
namespace Go.Proofs.Ytmondfckpgjikaa
open Go.RowKit Go.WideMaps
theorem mask_nonneg (x : Int) : 0 ≤ bits .and .i64 x 4611686018427387903 := by
  show 0 ≤ IntKind.i64.wrap ((BitVec.ofInt 64 x &&& BitVec.ofInt 64 4611686018427387903).toNat : Int)
  have h : (BitVec.ofInt 64 x &&& BitVec.ofInt 64 4611686018427387903).toNat ≤ 4611686018427387903 := by
    rw [BitVec.toNat_and]
    exact Nat.le_trans Nat.and_le_right (by decide)
  rw [IntKind.wrap_i64]
  omega
def row1 (x : Int) : List Row := [⟨mainS.data.toList, x, false⟩]
theorem row1_first (x : Int) (h : 0 ≤ x) : branchR [] mainS.data.toList (-1) x = (row1 x, 0) := by
  unfold branchR; rw [if_neg (by rw [mainS_valid]; decide), if_neg (by omega)]; rfl
theorem row1_put (x y : Int) : putR ⟨mainS.data.toList, y, false⟩ (row1 x) = row1 y := by simp [putR, row1]
theorem row1_find (x : Int) : findR mainS.data.toList (row1 x) = some ⟨mainS.data.toList, x, false⟩ := by simp [findR, row1]
theorem row1_move (o x : Int) (ho : 0 ≤ o) (h : 0 ≤ x) : branchR (row1 o) mainS.data.toList o x = (row1 x, 0) := by
  unfold branchR; rw [if_neg (by rw [mainS_valid]; decide), if_neg (by omega), row1_find]
  simp [show ¬ o = -1 by omega, row1_put]
theorem row1_lost (a o x : Int) (ho : 0 ≤ o) (h : 0 ≤ x) (hne : a ≠ o) : branchR (row1 a) mainS.data.toList o x = (row1 a, 11) := by
  unfold branchR; rw [if_neg (by rw [mainS_valid]; decide), if_neg (by omega), row1_find]
  simp [show ¬ o = -1 by omega, hne]
theorem row1_get (x : Int) : getR (row1 x) mainS.data.toList = (x, false, 0) := by
  unfold getR; rw [if_neg (by rw [mainS_valid]; decide), row1_find]
set_option maxRecDepth 100000 in
set_option maxHeartbeats 1000000 in
theorem swaps_any (old a b : Int) (w : World) : Calls Try.prog 3 #[.int .i64 old, .int .i64 a, .int .i64 b] w (AwEnd w) := by
  have m1 := mask_nonneg old
  have m2 := mask_nonneg a
  have m3 := mask_nonneg b
  go_enter Try.func3, Try.ntmps3
  go_wp2_with fail
  obtain ⟨O, hO⟩ : ∃ O, O = bits .and .i64 old 4611686018427387903 := ⟨_, rfl⟩
  obtain ⟨X, hX⟩ : ∃ X, X = bits .and .i64 a 4611686018427387903 := ⟨_, rfl⟩
  obtain ⟨Y, hY⟩ : ∃ Y, Y = bits .and .i64 b 4611686018427387903 := ⟨_, rfl⟩
  rw [← hO] at m1 ⊢
  rw [← hX] at m2 ⊢
  rw [← hY] at m3 ⊢
  clear hO hX hY
  refine (new_any w).mono ?_
  rintro e w1 ⟨rfl, hT, hb1⟩
  have hz1 := hb1.size
  go_wp2_with fail
  refine (awake_any w1).mono ?_
  rintro e w2 ⟨rfl, hq⟩
  have hT2 := hT.below hq
  have hb2 := hb1.trans (hq.mono hz1)
  clear hT hq hb1
  go_wp2_with fail
  refine (branch_any _ _ _ _ mainS (-1) O w2 hT2 (by decide) mainS_size).mono ?_
  rintro e w3 ⟨rfl, hT3, hg⟩
  rw [row1_first O m1] at hT3 ⊢
  have hb3 := below_tab hb2 hb2.size (Nat.le_refl _) hg
  clear hg hT2 hb2
  rw [errV_zero]
  go_wp2_with fail
  refine (branch_any _ _ _ _ mainS O X w3 hT3 (by decide) mainS_size).mono ?_
  rintro e w4 ⟨rfl, hT4, hg⟩
  rw [row1_move O X m1 m2] at hT4 ⊢
  have hb4 := below_tab hb3 hb3.size (Nat.le_refl _) hg
  clear hg hT3 hb3
  rw [errV_zero]
  by_cases hne : X = O
  · subst hne
    go_wp2_with fail
    refine (branch_any _ _ _ _ mainS X Y w4 hT4 (by decide) mainS_size).mono ?_
    rintro e w5 ⟨rfl, hT5, hg⟩
    rw [row1_move X Y m2 m3] at hT5 ⊢
    have hb5 := below_tab hb4 hb4.size (Nat.le_refl _) hg
    clear hg hT4 hb4
    rw [errV_zero]
    go_wp2_with fail
    refine (get_any _ _ _ _ mainS w5 hT5 mainS_size).mono ?_
    rintro e w6 ⟨rfl, hq⟩
    rw [row1_get]
    have hb6 := hb5.trans (hq.mono hb5.size)
    simp only [errV_zero]
    go_wp2_with fail
    go_ret
    exact ⟨rfl, hb6⟩
  · have b1 : (X == O) = false := by simpa using hne
    go_wp2_with fail
    refine (branch_any _ _ _ _ mainS O Y w4 hT4 (by decide) mainS_size).mono ?_
    rintro e w5 ⟨rfl, hT5, hg⟩
    rw [row1_lost X O Y m1 m3 hne] at hT5 ⊢
    have hb5 := below_tab hb4 hb4.size (Nat.le_refl _) hg
    clear hg hT4 hb4 hne
    simp only
    go_wp2_with fail
    refine (get_any _ _ _ _ mainS w5 hT5 mainS_size).mono ?_
    rintro e w6 ⟨rfl, hq⟩
    rw [row1_get]
    have hb6 := hb5.trans (hq.mono hb5.size)
    simp only [errV_zero]
    go_wp2_with fail
    refine (is_errV 11 11 w6 (by decide)).mono ?_
    rintro e w7 ⟨rfl, rfl⟩
    go_wp2_with fail
    go_ret
    exact ⟨rfl, hb6⟩
end Go.Proofs.Ytmondfckpgjikaa
