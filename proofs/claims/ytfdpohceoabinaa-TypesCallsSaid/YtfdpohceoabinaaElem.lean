/- The walks of letterset's digit, punctuation, element. -/
import Derived.Test.YtfdpohceoabinaaEsc2
namespace Go.Proofs.Ytfdpohceoabinaa
open Go.RowKit
def hexI (b : UInt8) : Int := match hexd b with
  | some d => d
  | none => -1
set_option maxHeartbeats 1000000 in
theorem ldigit_any (b : UInt8) (w : World) : Calls Try.prog 80 #[.int .u8 b.toNat] w fun e w' => e = .returned (.int .i64 (hexI b)) ∧ w = w' := by
  obtain ⟨hx0, hx1⟩ := u8b b
  have hc : (48 ≤ (b.toNat : Int) ∧ (b.toNat : Int) ≤ 57 ∧ hexI b = b.toNat - 48) ∨ (97 ≤ (b.toNat : Int) ∧ (b.toNat : Int) ≤ 102 ∧ hexI b = b.toNat - 97 + 10) ∨ (65 ≤ (b.toNat : Int) ∧ (b.toNat : Int) ≤ 70 ∧ hexI b = b.toNat - 65 + 10) ∨
      ((b.toNat : Int) < 48 ∧ hexI b = -1) ∨ (57 < (b.toNat : Int) ∧ (b.toNat : Int) < 65 ∧ hexI b = -1) ∨ (70 < (b.toNat : Int) ∧ (b.toNat : Int) < 97 ∧ hexI b = -1) ∨ (102 < (b.toNat : Int) ∧ hexI b = -1) := by
    have hd : ∀ r, hexd b = r → _ := fun r h => h
    unfold hexd at hd
    simp only [UInt8.le_iff_toNat_le] at hd
    rw [show (48 : UInt8).toNat = 48 from rfl, show (57 : UInt8).toNat = 57 from rfl, show (97 : UInt8).toNat = 97 from rfl, show (102 : UInt8).toNat = 102 from rfl, show (65 : UInt8).toNat = 65 from rfl, show (70 : UInt8).toNat = 70 from rfl] at hd
    rcases hr : hexd b with _ | d
    · have e : hexI b = -1 := by unfold hexI; rw [hr]
      rw [e]
      have hd := hd none (by simpa [hexd, UInt8.le_iff_toNat_le] using hr)
      split at hd
      · cases hd
      split at hd
      · cases hd
      split at hd
      · cases hd
      omega
    · have e : hexI b = d := by unfold hexI; rw [hr]
      rw [e]
      have hd := hd (some d) (by simpa [hexd, UInt8.le_iff_toNat_le] using hr)
      split at hd
      · injection hd with hd; omega
      split at hd
      · injection hd with hd; omega
      split at hd
      · injection hd with hd; omega
      · cases hd
  generalize (b.toNat : Int) = x at *
  generalize hexI b = y at *
  rcases hc with ⟨h1, h2, rfl⟩ | ⟨h1, h2, rfl⟩ | ⟨h1, h2, rfl⟩ | ⟨h1, rfl⟩ | ⟨h1, h2, rfl⟩ | ⟨h1, h2, rfl⟩ | ⟨h1, rfl⟩
  all_goals
    go_enter Try.func80, Try.ntmps80
    go_wp2_with fail
    go_ret
    exact ⟨rfl, rfl⟩
theorem lpunct_any (b : UInt8) (w : World) : Calls Try.prog 81 #[.int .u8 b.toNat] w fun e w' => e = .returned (.bool (punct b)) ∧ w = w' := by
  obtain ⟨hx0, hx1⟩ := u8_int b
  have hp : punct b = ((decide (33 ≤ (b.toNat : Int)) && decide ((b.toNat : Int) ≤ 47)) || (decide (58 ≤ (b.toNat : Int)) && decide ((b.toNat : Int) ≤ 64)) || (decide (91 ≤ (b.toNat : Int)) && decide ((b.toNat : Int) ≤ 96)) || (decide (123 ≤ (b.toNat : Int)) && decide ((b.toNat : Int) ≤ 126))) := by
    unfold punct
    rw [Bool.eq_iff_iff]
    simp [UInt8.le_iff_toNat_le]
    omega
  rw [hp]
  clear hp
  generalize (b.toNat : Int) = x at *
  have hc : x < 33 ∨ (33 ≤ x ∧ x ≤ 47) ∨ (47 < x ∧ x < 58) ∨ (58 ≤ x ∧ x ≤ 64) ∨ (64 < x ∧ x < 91) ∨ (91 ≤ x ∧ x ≤ 96) ∨ (96 < x ∧ x < 123) ∨ (123 ≤ x ∧ x ≤ 126) ∨ 126 < x := by omega
  have hr : ∀ q : Bool, ((decide (33 ≤ x) && decide (x ≤ 47)) || (decide (58 ≤ x) && decide (x ≤ 64)) || (decide (91 ≤ x) && decide (x ≤ 96)) || (decide (123 ≤ x) && decide (x ≤ 126))) = q → (Calls Try.prog 81 #[.int .u8 x] w fun e w' => e = .returned (.bool q) ∧ w = w') := by
    intro q hq
    have HQ := Lib.hid hq
    clear hq
    rcases hc with h1 | ⟨h1, h2⟩ | ⟨h1, h2⟩ | ⟨h1, h2⟩ | ⟨h1, h2⟩ | ⟨h1, h2⟩ | ⟨h1, h2⟩ | ⟨h1, h2⟩ | h1
    all_goals
      go_enter Try.func81, Try.ntmps81
      go_wp2_with fail
      go_ret
      refine ⟨?_, rfl⟩
      rw [← HQ.out]
      refine congrArg (fun z => Ending.returned (.bool z)) ?_
      show _ = (_ : Bool)
      rw [Bool.eq_iff_iff]
      simp
      try omega
  exact hr _ rfl
def elV (r : Option (UInt8 × Nat)) : Value := match r with
  | some (b, n) => .tuple #[.int .u8 b.toNat, .int .i64 n]
  | none => .tuple #[.int .u8 0, .int .i64 0]
def ElEnd (w : World) (r : Option (UInt8 × Nat)) (e : Ending) (w' : World) : Prop := e = .returned (elV r) ∧ w = w'
theorem el_nil (w : World) : Calls Try.prog 77 #[.string ⟨([] : List UInt8).toArray⟩] w (ElEnd w none) := by
  go_enter Try.func77, Try.ntmps77
  go_wp2_with fail
  go_ret2
  exact ⟨rfl, rfl⟩
section
variable {l : List UInt8} {b : UInt8} (w : World)
theorem ix0 (h : l[0]? = some b) : ∀ w, (Instr.index 9 (.string ⟨l.toArray⟩) (.int .i64 0)).run Try.prog w = .ok (.int .u8 b.toNat) w := idxT Try.underlying9 h
theorem ix1 (h : l[1]? = some b) : ∀ w, (Instr.index 9 (.string ⟨l.toArray⟩) (.int .i64 1)).run Try.prog w = .ok (.int .u8 b.toNat) w := idxT Try.underlying9 h
theorem ix2 (h : l[2]? = some b) : ∀ w, (Instr.index 9 (.string ⟨l.toArray⟩) (.int .i64 2)).run Try.prog w = .ok (.int .u8 b.toNat) w := idxT Try.underlying9 h
theorem ix3 (h : l[3]? = some b) : ∀ w, (Instr.index 9 (.string ⟨l.toArray⟩) (.int .i64 3)).run Try.prog w = .ok (.int .u8 b.toNat) w := idxT Try.underlying9 h
theorem ne_nil (h : l[0]? = some b) : (l == []) = false := by cases l <;> simp_all
theorem el_stop (h : l[0]? = some b) (hb : b = 93 ∨ b = 45) : Calls Try.prog 77 #[.string ⟨l.toArray⟩] w (ElEnd w none) := by
  have hx := ix0 h
  have hn := ne_nil h
  clear h
  rcases hb with rfl | rfl
  · rw [show ((93 : UInt8).toNat : Int) = 93 from rfl] at hx
    go_enter Try.func77, Try.ntmps77
    go_wp2_with fail
    go_ret2
    exact ⟨rfl, rfl⟩
  · rw [show ((45 : UInt8).toNat : Int) = 45 from rfl] at hx
    go_enter Try.func77, Try.ntmps77
    go_wp2_with fail
    go_ret2
    exact ⟨rfl, rfl⟩
theorem el_plain (h : l[0]? = some b) (h1 : b ≠ 93) (h2 : b ≠ 45) (h3 : b ≠ 92) : Calls Try.prog 77 #[.string ⟨l.toArray⟩] w (ElEnd w (some (b, 1))) := by
  have hx := ix0 h
  have hn := ne_nil h
  have e1 : ((b.toNat : Int) == 93) = false := ne_lit h1
  have e2 : ((b.toNat : Int) == 45) = false := ne_lit h2
  have e3 : ((b.toNat : Int) == 92) = false := ne_lit h3
  have e4 : ((b.toNat : Int) != 92) = true := by simpa using e3
  clear h h1 h2 h3
  go_enter Try.func77, Try.ntmps77
  go_wp2_with fail
  go_ret2
  exact ⟨rfl, rfl⟩
theorem el_one (h : l[0]? = some 92) (h1 : l[1]? = none) : Calls Try.prog 77 #[.string ⟨l.toArray⟩] w (ElEnd w none) := by
  have hx := ix0 h
  have hn := ne_nil h
  rw [show ((92 : UInt8).toNat : Int) = 92 from rfl] at hx
  have hl : l.length = 1 := by have := at_lt h; have := List.getElem?_eq_none_iff.1 h1; omega
  have hd : decide ((l.length : Int) < 2) = true := by simp; omega
  clear h h1 hl
  go_enter Try.func77, Try.ntmps77
  go_wp2_with fail
  go_ret2
  exact ⟨rfl, rfl⟩
theorem el_esc (c : UInt8) (h : l[0]? = some 92) (h1 : l[1]? = some c) (hc : c ≠ 120) : Calls Try.prog 77 #[.string ⟨l.toArray⟩] w (ElEnd w ((escP l 1).map fun p => (p.1, 2))) := by
  have hx := ix0 h
  have hy := ix1 h1
  have hn := ne_nil h
  rw [show ((92 : UInt8).toNat : Int) = 92 from rfl] at hx
  have hl := at_lt h1
  have hd : decide ((l.length : Int) < 2) = false := by simp; omega
  unfold escP
  rw [h1]
  simp only
  clear h h1 hl
  by_cases h1 : c = 110
  · rw [if_pos h1]; subst h1
    rw [show ((110 : UInt8).toNat : Int) = 110 from rfl] at hy
    go_enter Try.func77, Try.ntmps77
    go_wp2_with fail
    go_ret2
    exact ⟨rfl, rfl⟩
  rw [if_neg h1]
  by_cases h2 : c = 116
  · rw [if_pos h2]; subst h2
    rw [show ((116 : UInt8).toNat : Int) = 116 from rfl] at hy
    clear h1
    go_enter Try.func77, Try.ntmps77
    go_wp2_with fail
    go_ret2
    exact ⟨rfl, rfl⟩
  rw [if_neg h2]
  by_cases h3 : c = 114
  · rw [if_pos h3]; subst h3
    rw [show ((114 : UInt8).toNat : Int) = 114 from rfl] at hy
    clear h1 h2
    go_enter Try.func77, Try.ntmps77
    go_wp2_with fail
    go_ret2
    exact ⟨rfl, rfl⟩
  rw [if_neg h3, if_neg hc]
  have e1 : ((c.toNat : Int) == 110) = false := ne_lit h1
  have e2 : ((c.toNat : Int) == 116) = false := ne_lit h2
  have e3 : ((c.toNat : Int) == 114) = false := ne_lit h3
  have e4 : ((c.toNat : Int) == 120) = false := ne_lit hc
  have HP := Lib.hid (lpunct_any c w)
  clear h1 h2 h3 hc
  rcases hp : punct c with _ | _
  all_goals
    rw [hp] at HP
    clear hp
    go_enter Try.func77, Try.ntmps77
    go_wp2_with fail
    refine HP.out.mono ?_
    rintro e w' ⟨rfl, rfl⟩
    go_wp2_with fail
    go_ret2
    exact ⟨rfl, rfl⟩
theorem el_x0 (h : l[0]? = some 92) (h1 : l[1]? = some 120) (hl : l.length < 4) : Calls Try.prog 77 #[.string ⟨l.toArray⟩] w (ElEnd w none) := by
  have hx := ix0 h
  have hy := ix1 h1
  have hn := ne_nil h
  rw [show ((92 : UInt8).toNat : Int) = 92 from rfl] at hx
  rw [show ((120 : UInt8).toNat : Int) = 120 from rfl] at hy
  have hl2 := at_lt h1
  have hd : decide ((l.length : Int) < 2) = false := by simp; omega
  have hd4 : decide ((l.length : Int) < 4) = true := by simp; omega
  clear h h1 hl hl2
  go_enter Try.func77, Try.ntmps77
  go_wp2_with fail
  go_ret2
  exact ⟨rfl, rfl⟩
end
end Go.Proofs.Ytfdpohceoabinaa
