/- The walks of the document's hex, punctuation and Element. -/
import Derived.Test.YtpiagfmjekcncaaDoorjElem
import Derived.Test.YtpiagfmjekcncaaDoorjGa
set_option linter.unusedVariables false
set_option linter.unusedSimpArgs false
set_option linter.unusedSectionVars false
namespace Go.Proofs.YtpiagfmjekcncaaDoor
open Go.RowKit
set_option maxHeartbeats 1000000 in
theorem ghex_any (b : UInt8) (w : World) : Calls Tryd.prog 85 #[.int .u8 b.toNat] w fun e w' => e = .returned (.int .i64 (hexI b)) ∧ w = w' := by
  obtain ⟨hx0, hx1⟩ := u8b b
  have hc : (48 ≤ (b.toNat : Int) ∧ (b.toNat : Int) ≤ 57 ∧ hexI b = b.toNat - 48) ∨ (97 ≤ (b.toNat : Int) ∧ (b.toNat : Int) ≤ 102 ∧ hexI b = b.toNat - 97 + 10) ∨ (65 ≤ (b.toNat : Int) ∧ (b.toNat : Int) ≤ 70 ∧ hexI b = b.toNat - 65 + 10) ∨
      ((b.toNat : Int) < 48 ∧ hexI b = -1) ∨ (57 < (b.toNat : Int) ∧ (b.toNat : Int) < 65 ∧ hexI b = -1) ∨ (70 < (b.toNat : Int) ∧ (b.toNat : Int) < 97 ∧ hexI b = -1) ∨ (102 < (b.toNat : Int) ∧ hexI b = -1) := by
    have hd : ∀ r, hexd b = r → _ := fun r h => h
    unfold hexd at hd
    simp only [UInt8.le_iff_toNat_le] at hd
    rw [show (48 : UInt8).toNat = 48 from rfl, show (57 : UInt8).toNat = 57 from rfl, show (97 : UInt8).toNat = 97 from rfl, show (102 : UInt8).toNat = 102 from rfl, show (65 : UInt8).toNat = 65 from rfl, show (70 : UInt8).toNat = 70 from rfl] at hd
    rcases hr : hexd b with _ | d
    · have e : hexI b = -1 := by unfold hexI; rw [hr]
      rw [e]
      have hd := hd none (by simpa [hexd, UInt8.le_iff_toNat_le] using hr)
      split at hd
      · cases hd
      split at hd
      · cases hd
      split at hd
      · cases hd
      omega
    · have e : hexI b = d := by unfold hexI; rw [hr]
      rw [e]
      have hd := hd (some d) (by simpa [hexd, UInt8.le_iff_toNat_le] using hr)
      split at hd
      · injection hd with hd; omega
      split at hd
      · injection hd with hd; omega
      split at hd
      · injection hd with hd; omega
      · cases hd
  generalize (b.toNat : Int) = x at *
  generalize hexI b = y at *
  rcases hc with ⟨h1, h2, rfl⟩ | ⟨h1, h2, rfl⟩ | ⟨h1, h2, rfl⟩ | ⟨h1, rfl⟩ | ⟨h1, h2, rfl⟩ | ⟨h1, h2, rfl⟩ | ⟨h1, rfl⟩
  all_goals
    go_enter Tryd.func85, Tryd.ntmps85
    go_wp2_with fail
    go_ret
    exact ⟨rfl, rfl⟩
theorem gpunct_any (b : UInt8) (w : World) : Calls Tryd.prog 86 #[.int .u8 b.toNat] w fun e w' => e = .returned (.bool (punct b)) ∧ w = w' := by
  obtain ⟨hx0, hx1⟩ := u8_int b
  have hp : punct b = ((decide (33 ≤ (b.toNat : Int)) && decide ((b.toNat : Int) ≤ 47)) || (decide (58 ≤ (b.toNat : Int)) && decide ((b.toNat : Int) ≤ 64)) || (decide (91 ≤ (b.toNat : Int)) && decide ((b.toNat : Int) ≤ 96)) || (decide (123 ≤ (b.toNat : Int)) && decide ((b.toNat : Int) ≤ 126))) := by
    unfold punct
    rw [Bool.eq_iff_iff]
    simp [UInt8.le_iff_toNat_le]
    omega
  rw [hp]
  clear hp
  generalize (b.toNat : Int) = x at *
  have hc : x < 33 ∨ (33 ≤ x ∧ x ≤ 47) ∨ (47 < x ∧ x < 58) ∨ (58 ≤ x ∧ x ≤ 64) ∨ (64 < x ∧ x < 91) ∨ (91 ≤ x ∧ x ≤ 96) ∨ (96 < x ∧ x < 123) ∨ (123 ≤ x ∧ x ≤ 126) ∨ 126 < x := by omega
  have hr : ∀ q : Bool, ((decide (33 ≤ x) && decide (x ≤ 47)) || (decide (58 ≤ x) && decide (x ≤ 64)) || (decide (91 ≤ x) && decide (x ≤ 96)) || (decide (123 ≤ x) && decide (x ≤ 126))) = q → (Calls Tryd.prog 86 #[.int .u8 x] w fun e w' => e = .returned (.bool q) ∧ w = w') := by
    intro q hq
    have HQ := Lib.hid hq
    clear hq
    rcases hc with h1 | ⟨h1, h2⟩ | ⟨h1, h2⟩ | ⟨h1, h2⟩ | ⟨h1, h2⟩ | ⟨h1, h2⟩ | ⟨h1, h2⟩ | ⟨h1, h2⟩ | h1
    all_goals
      go_enter Tryd.func86, Tryd.ntmps86
      go_wp2_with fail
      go_ret
      refine ⟨?_, rfl⟩
      rw [← HQ.out]
      refine congrArg (fun z => Ending.returned (.bool z)) ?_
      show _ = (_ : Bool)
      rw [Bool.eq_iff_iff]
      simp
      try omega
  exact hr _ rfl
end Go.Proofs.YtpiagfmjekcncaaDoor
