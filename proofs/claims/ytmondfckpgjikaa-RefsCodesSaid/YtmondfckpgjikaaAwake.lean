/- The walks of the reference's Valid, of awake, and of the laws RefsSwaps and RefsValid. -/
import Derived.Test.YtmondfckpgjikaaBase
namespace Go.Proofs.Ytmondfckpgjikaa
open Go.RowKit Go.WideMaps
def mainS : ByteArray := { data := #[109, 97, 105, 110] }
theorem mainS_valid : validB mainS.data.toList = true := by decide
theorem mainS_size : mainS.size ≤ maxLen := by decide
def AwEnd (w : World) (e : Ending) (w' : World) : Prop := e = .returned (.bool true) ∧ Below w.heap.size w w'
theorem below_tab {w w1 w2 : World} {mb B : Nat} (hb : Below B w w1) (hB : B ≤ w1.heap.size) (h : B ≤ mb) (hg : w1.grownBy w2 (some mb)) : Below B w w2 := hb.grown hg hB (by rintro g hgg; injection hgg with hgg; omega)
set_option maxRecDepth 100000 in
set_option maxHeartbeats 400000 in
theorem awake_any (w : World) : Calls Try.prog 14 #[] w (AwEnd w) := by
  have e1 : branchR [] mainS.data.toList (-1) 0 = ([⟨mainS.data.toList, 0, false⟩], 0) := by decide
  have e2 : getR [⟨mainS.data.toList, 0, false⟩] mainS.data.toList = (0, false, 0) := by decide
  have HE1 := Lib.hid e1
  have HE2 := Lib.hid e2
  clear e1 e2
  go_enter Try.func14, Try.ntmps14
  go_wp2_with fail
  refine (new_any w).mono ?_
  rintro e w1 ⟨rfl, hT, hb1⟩
  go_wp2_with fail
  refine (branch_any _ _ _ _ mainS (-1) 0 w1 hT (by decide) mainS_size).mono ?_
  rintro e w2 ⟨rfl, hT2, hg⟩
  rw [HE1.out] at hT2 ⊢
  have hb2 := below_tab hb1 hb1.size (Nat.le_refl _) hg
  clear hg hT hb1
  rw [errV_zero]
  go_wp2_with fail
  refine (get_any _ _ _ _ mainS w2 hT2 mainS_size).mono ?_
  rintro e w3 ⟨rfl, hb3⟩
  rw [HE2.out]
  have hb3' := hb2.trans (hb3.mono hb2.size)
  simp only [errV_zero]
  clear hT2 hb2 hb3
  go_wp2_with fail
  go_ret
  exact ⟨rfl, hb3'⟩
end Go.Proofs.Ytmondfckpgjikaa
