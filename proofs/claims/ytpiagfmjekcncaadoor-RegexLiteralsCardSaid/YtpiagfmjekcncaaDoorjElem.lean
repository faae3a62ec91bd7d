/- The walks of letterset's digit, punctuation, element. -/
import Derived.Test.YtpiagfmjekcncaaDoorjEsc
set_option linter.unusedVariables false
set_option linter.unusedSimpArgs false
set_option linter.unusedSectionVars false
namespace Go.Proofs.YtpiagfmjekcncaaDoor
open Go.RowKit
def hexI (b : UInt8) : Int := match hexd b with
  | some d => d
  | none => -1
set_option maxHeartbeats 1000000 in
theorem ldigit_any (b : UInt8) (w : World) : Calls Tryd.prog 87 #[.int .u8 b.toNat] w fun e w' => e = .returned (.int .i64 (hexI b)) ∧ w = w' := by
  obtain ⟨hx0, hx1⟩ := u8b b
  have hc : (48 ≤ (b.toNat : Int) ∧ (b.toNat : Int) ≤ 57 ∧ hexI b = b.toNat - 48) ∨ (97 ≤ (b.toNat : Int) ∧ (b.toNat : Int) ≤ 102 ∧ hexI b = b.toNat - 97 + 10) ∨ (65 ≤ (b.toNat : Int) ∧ (b.toNat : Int) ≤ 70 ∧ hexI b = b.toNat - 65 + 10) ∨
      ((b.toNat : Int) < 48 ∧ hexI b = -1) ∨ (57 < (b.toNat : Int) ∧ (b.toNat : Int) < 65 ∧ hexI b = -1) ∨ (70 < (b.toNat : Int) ∧ (b.toNat : Int) < 97 ∧ hexI b = -1) ∨ (102 < (b.toNat : Int) ∧ hexI b = -1) := by
    have hd : ∀ r, hexd b = r → _ := fun r h => h
    unfold hexd at hd
    simp only [UInt8.le_iff_toNat_le] at hd
    rw [show (48 : UInt8).toNat = 48 from rfl, show (57 : UInt8).toNat = 57 from rfl, show (97 : UInt8).toNat = 97 from rfl, show (102 : UInt8).toNat = 102 from rfl, show (65 : UInt8).toNat = 65 from rfl, show (70 : UInt8).toNat = 70 from rfl] at hd
    rcases hr : hexd b with _ | d
    · have e : hexI b = -1 := by unfold hexI; rw [hr]
      rw [e]
      have hd := hd none (by simpa [hexd, UInt8.le_iff_toNat_le] using hr)
      split at hd
      · cases hd
      split at hd
      · cases hd
      split at hd
      · cases hd
      omega
    · have e : hexI b = d := by unfold hexI; rw [hr]
      rw [e]
      have hd := hd (some d) (by simpa [hexd, UInt8.le_iff_toNat_le] using hr)
      split at hd
      · injection hd with hd; omega
      split at hd
      · injection hd with hd; omega
      split at hd
      · injection hd with hd; omega
      · cases hd
  generalize (b.toNat : Int) = x at *
  generalize hexI b = y at *
  rcases hc with ⟨h1, h2, rfl⟩ | ⟨h1, h2, rfl⟩ | ⟨h1, h2, rfl⟩ | ⟨h1, rfl⟩ | ⟨h1, h2, rfl⟩ | ⟨h1, h2, rfl⟩ | ⟨h1, rfl⟩
  all_goals
    go_enter Tryd.func87, Tryd.ntmps87
    go_wp2_with fail
    go_ret
    exact ⟨rfl, rfl⟩
theorem lpunct_any (b : UInt8) (w : World) : Calls Tryd.prog 88 #[.int .u8 b.toNat] w fun e w' => e = .returned (.bool (punct b)) ∧ w = w' := by
  obtain ⟨hx0, hx1⟩ := u8_int b
  have hp : punct b = ((decide (33 ≤ (b.toNat : Int)) && decide ((b.toNat : Int) ≤ 47)) || (decide (58 ≤ (b.toNat : Int)) && decide ((b.toNat : Int) ≤ 64)) || (decide (91 ≤ (b.toNat : Int)) && decide ((b.toNat : Int) ≤ 96)) || (decide (123 ≤ (b.toNat : Int)) && decide ((b.toNat : Int) ≤ 126))) := by
    unfold punct
    rw [Bool.eq_iff_iff]
    simp [UInt8.le_iff_toNat_le]
    omega
  rw [hp]
  clear hp
  generalize (b.toNat : Int) = x at *
  have hc : x < 33 ∨ (33 ≤ x ∧ x ≤ 47) ∨ (47 < x ∧ x < 58) ∨ (58 ≤ x ∧ x ≤ 64) ∨ (64 < x ∧ x < 91) ∨ (91 ≤ x ∧ x ≤ 96) ∨ (96 < x ∧ x < 123) ∨ (123 ≤ x ∧ x ≤ 126) ∨ 126 < x := by omega
  have hr : ∀ q : Bool, ((decide (33 ≤ x) && decide (x ≤ 47)) || (decide (58 ≤ x) && decide (x ≤ 64)) || (decide (91 ≤ x) && decide (x ≤ 96)) || (decide (123 ≤ x) && decide (x ≤ 126))) = q → (Calls Tryd.prog 88 #[.int .u8 x] w fun e w' => e = .returned (.bool q) ∧ w = w') := by
    intro q hq
    have HQ := Lib.hid hq
    clear hq
    rcases hc with h1 | ⟨h1, h2⟩ | ⟨h1, h2⟩ | ⟨h1, h2⟩ | ⟨h1, h2⟩ | ⟨h1, h2⟩ | ⟨h1, h2⟩ | ⟨h1, h2⟩ | h1
    all_goals
      go_enter Tryd.func88, Tryd.ntmps88
      go_wp2_with fail
      go_ret
      refine ⟨?_, rfl⟩
      rw [← HQ.out]
      refine congrArg (fun z => Ending.returned (.bool z)) ?_
      show _ = (_ : Bool)
      rw [Bool.eq_iff_iff]
      simp
      try omega
  exact hr _ rfl
def elV (r : Option (UInt8 × Nat)) : Value := match r with
  | some (b, n) => .tuple #[.int .u8 b.toNat, .int .i64 n]
  | none => .tuple #[.int .u8 0, .int .i64 0]
def ElEnd (w : World) (r : Option (UInt8 × Nat)) (e : Ending) (w' : World) : Prop := e = .returned (elV r) ∧ w = w'
theorem el_nil (w : World) : Calls Tryd.prog 81 #[.string ⟨([] : List UInt8).toArray⟩] w (ElEnd w none) := by
  go_enter Tryd.func81, Tryd.ntmps81
  go_wp2_with fail
  go_ret2
  exact ⟨rfl, rfl⟩
section
variable {l : List UInt8} {b : UInt8} (w : World)
theorem ix0 (h : l[0]? = some b) : ∀ w, (Instr.index 9 (.string ⟨l.toArray⟩) (.int .i64 0)).run Tryd.prog w = .ok (.int .u8 b.toNat) w := idxT Tryd.underlying9 h
theorem ix1 (h : l[1]? = some b) : ∀ w, (Instr.index 9 (.string ⟨l.toArray⟩) (.int .i64 1)).run Tryd.prog w = .ok (.int .u8 b.toNat) w := idxT Tryd.underlying9 h
theorem ix2 (h : l[2]? = some b) : ∀ w, (Instr.index 9 (.string ⟨l.toArray⟩) (.int .i64 2)).run Tryd.prog w = .ok (.int .u8 b.toNat) w := idxT Tryd.underlying9 h
theorem ix3 (h : l[3]? = some b) : ∀ w, (Instr.index 9 (.string ⟨l.toArray⟩) (.int .i64 3)).run Tryd.prog w = .ok (.int .u8 b.toNat) w := idxT Tryd.underlying9 h
theorem ne_nil (h : l[0]? = some b) : (l == []) = false := by cases l <;> simp_all
theorem el_stop (h : l[0]? = some b) (hb : b = 93 ∨ b = 45) : Calls Tryd.prog 81 #[.string ⟨l.toArray⟩] w (ElEnd w none) := by
  have hx := ix0 h
  have hn := ne_nil h
  clear h
  rcases hb with rfl | rfl
  · rw [show ((93 : UInt8).toNat : Int) = 93 from rfl] at hx
    go_enter Tryd.func81, Tryd.ntmps81
    go_wp2_with fail
    go_ret2
    exact ⟨rfl, rfl⟩
  · rw [show ((45 : UInt8).toNat : Int) = 45 from rfl] at hx
    go_enter Tryd.func81, Tryd.ntmps81
    go_wp2_with fail
    go_ret2
    exact ⟨rfl, rfl⟩
theorem el_plain (h : l[0]? = some b) (h1 : b ≠ 93) (h2 : b ≠ 45) (h3 : b ≠ 92) : Calls Tryd.prog 81 #[.string ⟨l.toArray⟩] w (ElEnd w (some (b, 1))) := by
  have hx := ix0 h
  have hn := ne_nil h
  have e1 : ((b.toNat : Int) == 93) = false := ne_lit h1
  have e2 : ((b.toNat : Int) == 45) = false := ne_lit h2
  have e3 : ((b.toNat : Int) == 92) = false := ne_lit h3
  have e4 : ((b.toNat : Int) != 92) = true := by simpa using e3
  clear h h1 h2 h3
  go_enter Tryd.func81, Tryd.ntmps81
  go_wp2_with fail
  go_ret2
  exact ⟨rfl, rfl⟩
theorem el_one (h : l[0]? = some 92) (h1 : l[1]? = none) : Calls Tryd.prog 81 #[.string ⟨l.toArray⟩] w (ElEnd w none) := by
  have hx := ix0 h
  have hn := ne_nil h
  rw [show ((92 : UInt8).toNat : Int) = 92 from rfl] at hx
  have hl : l.length = 1 := by have := at_lt h; have := List.getElem?_eq_none_iff.1 h1; omega
  have hd : decide ((l.length : Int) < 2) = true := by simp; omega
  clear h h1 hl
  go_enter Tryd.func81, Tryd.ntmps81
  go_wp2_with fail
  go_ret2
  exact ⟨rfl, rfl⟩
theorem el_esc (c : UInt8) (h : l[0]? = some 92) (h1 : l[1]? = some c) (hc : c ≠ 120) : Calls Tryd.prog 81 #[.string ⟨l.toArray⟩] w (ElEnd w ((escP l 1).map fun p => (p.1, 2))) := by
  have hx := ix0 h
  have hy := ix1 h1
  have hn := ne_nil h
  rw [show ((92 : UInt8).toNat : Int) = 92 from rfl] at hx
  have hl := at_lt h1
  have hd : decide ((l.length : Int) < 2) = false := by simp; omega
  unfold escP
  rw [h1]
  simp only
  clear h h1 hl
  by_cases h1 : c = 110
  · rw [if_pos h1]; subst h1
    rw [show ((110 : UInt8).toNat : Int) = 110 from rfl] at hy
    go_enter Tryd.func81, Tryd.ntmps81
    go_wp2_with fail
    go_ret2
    exact ⟨rfl, rfl⟩
  rw [if_neg h1]
  by_cases h2 : c = 116
  · rw [if_pos h2]; subst h2
    rw [show ((116 : UInt8).toNat : Int) = 116 from rfl] at hy
    clear h1
    go_enter Tryd.func81, Tryd.ntmps81
    go_wp2_with fail
    go_ret2
    exact ⟨rfl, rfl⟩
  rw [if_neg h2]
  by_cases h3 : c = 114
  · rw [if_pos h3]; subst h3
    rw [show ((114 : UInt8).toNat : Int) = 114 from rfl] at hy
    clear h1 h2
    go_enter Tryd.func81, Tryd.ntmps81
    go_wp2_with fail
    go_ret2
    exact ⟨rfl, rfl⟩
  rw [if_neg h3, if_neg hc]
  have e1 : ((c.toNat : Int) == 110) = false := ne_lit h1
  have e2 : ((c.toNat : Int) == 116) = false := ne_lit h2
  have e3 : ((c.toNat : Int) == 114) = false := ne_lit h3
  have e4 : ((c.toNat : Int) == 120) = false := ne_lit hc
  have HP := Lib.hid (lpunct_any c w)
  clear h1 h2 h3 hc
  rcases hp : punct c with _ | _
  all_goals
    rw [hp] at HP
    clear hp
    go_enter Tryd.func81, Tryd.ntmps81
    go_wp2_with fail
    refine HP.out.mono ?_
    rintro e w' ⟨rfl, rfl⟩
    go_wp2_with fail
    go_ret2
    exact ⟨rfl, rfl⟩
theorem el_x0 (h : l[0]? = some 92) (h1 : l[1]? = some 120) (hl : l.length < 4) : Calls Tryd.prog 81 #[.string ⟨l.toArray⟩] w (ElEnd w none) := by
  have hx := ix0 h
  have hy := ix1 h1
  have hn := ne_nil h
  rw [show ((92 : UInt8).toNat : Int) = 92 from rfl] at hx
  rw [show ((120 : UInt8).toNat : Int) = 120 from rfl] at hy
  have hl2 := at_lt h1
  have hd : decide ((l.length : Int) < 2) = false := by simp; omega
  have hd4 : decide ((l.length : Int) < 4) = true := by simp; omega
  clear h h1 hl hl2
  go_enter Tryd.func81, Tryd.ntmps81
  go_wp2_with fail
  go_ret2
  exact ⟨rfl, rfl⟩
end
end Go.Proofs.YtpiagfmjekcncaaDoor
namespace Go.Proofs.YtpiagfmjekcncaaDoor
open Go.RowKit
section
variable {l : List UInt8} (w : World)
theorem ldigit_q (b : UInt8) (x : Int) (hx : hexI b = x) (w : World) : Calls Tryd.prog 87 #[.int .u8 b.toNat] w fun e w' => e = .returned (.int .i64 x) ∧ w' = w := by
  subst hx
  exact (ldigit_any b w).mono fun _ _ h => ⟨h.1, h.2.symm⟩
theorem el_x (b2 b3 : UInt8) (x y : Int) (h : l[0]? = some 92) (h1 : l[1]? = some 120) (h2 : l[2]? = some b2) (h3 : l[3]? = some b3) (hx2 : hexI b2 = x) (hx3 : hexI b3 = y) (hr : (x < 0 ∨ y < 0) ∨ (0 ≤ x ∧ 0 ≤ y ∧ x < 16 ∧ y < 16)) :
    Calls Tryd.prog 81 #[.string ⟨l.toArray⟩] w fun e w' => e = .returned (if x < 0 ∨ y < 0 then elV none else .tuple #[.int .u8 (x * 16 + y), .int .i64 4]) ∧ ∃ n, w' = w.drewN n := by
  have hx := ix0 h
  have hy := ix1 h1
  have hz := ix2 h2
  have hu := ix3 h3
  have hn := ne_nil h
  rw [show ((92 : UInt8).toNat : Int) = 92 from rfl] at hx
  rw [show ((120 : UInt8).toNat : Int) = 120 from rfl] at hy
  have hl2 := at_lt h1
  have hl3 := at_lt h3
  have hd : decide ((l.length : Int) < 2) = false := by simp; omega
  have hd4 : decide ((l.length : Int) < 4) = false := by simp; omega
  have c2 := ldigit_q b2 x hx2
  have c3 := ldigit_q b3 y hx3
  clear h h1 h2 h3 hl2 hl3 hx2 hx3
  rcases hr with hr | hr
  · have HR := Lib.hid hr
    rw [if_pos hr]
    by_cases q1 : x < 0
    · have q1' : decide (x < 0) = true := by simpa using q1
      clear hr
      go_enter Tryd.func81, Tryd.ntmps81
      go_wp2_with fail
      go_quiet (first | (with_reducible exact Calls.quiet_of_same (c2 _)) | (with_reducible exact Calls.quiet_of_same (c3 _)))
      go_wp2_with fail
      go_ret2
      exact ⟨rfl, _, rfl⟩
    · have q1' : decide (x < 0) = false := by simpa using q1
      have q2 : decide (y < 0) = true := by simp; omega
      clear hr
      go_enter Tryd.func81, Tryd.ntmps81
      go_wp2_with fail
      go_quiet (first | (with_reducible exact Calls.quiet_of_same (c2 _)) | (with_reducible exact Calls.quiet_of_same (c3 _)))
      go_wp2_with fail
      go_ret2
      exact ⟨rfl, _, rfl⟩
  · obtain ⟨p1, p2, p3, p4⟩ := hr
    rw [if_neg (by omega)]
    have q1 : decide (x < 0) = false := by simp; omega
    have q2 : decide (y < 0) = false := by simp; omega
    go_enter Tryd.func81, Tryd.ntmps81
    go_wp2_with fail
    go_quiet (first | (with_reducible exact Calls.quiet_of_same (c2 _)) | (with_reducible exact Calls.quiet_of_same (c3 _)))
    go_wp2_with fail
    go_ret2
    exact ⟨rfl, _, rfl⟩
end
def ElRes (w : World) (r : Option (UInt8 × Nat)) (e : Ending) (w' : World) : Prop := e = .returned (elV r) ∧ ∃ n, w' = w.drewN n
theorem ElEnd.res {w w' : World} {r : Option (UInt8 × Nat)} {e : Ending} (h : ElEnd w r e w') : ElRes w r e w' := ⟨h.1, 0, h.2.symm⟩
theorem hexd_lt {b : UInt8} {d : Nat} (h : hexd b = some d) : d < 16 := digitP_lt (T := [b]) (k := 0) (k' := 1) (by unfold digitP; simp [h])
theorem elemP_cons (b : UInt8) (t : List UInt8) : elemP (b :: t) = if b = 93 ∨ b = 45 then none else if b ≠ 92 then some (b, 1) else match escP (b :: t) 1 with
    | none => none
    | some (x, k) => some (x, k) := by
  have h : ∀ k, (b :: t)[k + 1]? = t[k]? := fun k => by simp
  have hd : ∀ k, digitP (b :: t) (k + 1) = (digitP t k).map fun p => (p.1, p.2 + 1) := fun k => by
    unfold digitP
    rw [h]
    rcases t[k]? with _ | c
    · rfl
    · simp only
      rcases hexd c with _ | d <;> rfl
  have he : escP (b :: t) 1 = (escP t 0).map fun p => (p.1, p.2 + 1) := by
    unfold escP
    rw [h 0]
    rcases t[0]? with _ | c
    · rfl
    · simp only
      split
      · rfl
      split
      · rfl
      split
      · rfl
      split
      · rw [hd]
        rcases digitP t (0 + 1) with _ | ⟨d, k⟩
        · rfl
        · simp only [Option.map_some]
          rw [hd]
          rcases digitP t k with _ | ⟨d, k⟩ <;> rfl
      split <;> rfl
  rw [show elemP (b :: t) = (if b = 93 ∨ b = 45 then none else if b ≠ 92 then some (b, 1) else match escP t 0 with
    | none => none
    | some (x, k) => some (x, k + 1)) from rfl]
  rw [he]
  split
  · rfl
  split
  · rfl
  rcases escP t 0 with _ | ⟨x, k⟩ <;> rfl
theorem elem_any (l : List UInt8) (w : World) : Calls Tryd.prog 81 #[.string ⟨l.toArray⟩] w (ElRes w (elemP l)) := by
  rcases l with _ | ⟨b, t⟩
  · exact (el_nil w).mono fun _ _ h => h.res
  have h0 : (b :: t)[0]? = some b := rfl
  rw [elemP_cons]
  by_cases h1 : b = 93 ∨ b = 45
  · rw [if_pos h1]
    exact (el_stop w h0 h1).mono fun _ _ h => h.res
  rw [if_neg h1]
  by_cases h2 : b = 92
  · rw [if_neg (by simpa using h2)]
    subst h2
    generalize hl : (92 :: t : List UInt8) = l at *
    clear h1
    rcases hc : l[1]? with _ | c
    · have : escP l 1 = none := by unfold escP; rw [hc]
      rw [this]
      exact (el_one w h0 hc).mono fun _ _ h => h.res
    · by_cases hx : c = 120
      · subst hx
        have he : escP l 1 = match digitP l 2 with
            | none => none
            | some (h, k1) => match digitP l k1 with
              | none => none
              | some (l, k2) => some (UInt8.ofNat (16 * h + l), k2) := by
          unfold escP
          rw [hc]
          rfl
        rw [he]
        by_cases h4 : l.length < 4
        · have : (match digitP l 2 with
            | none => none
            | some (h, k1) => match digitP l k1 with
              | none => none
              | some (l, k2) => some (UInt8.ofNat (16 * h + l), k2)) = none := by
            rcases hd : digitP l 2 with _ | ⟨d, k⟩
            · rfl
            · have := digitP_pos hd
              obtain ⟨rfl, _⟩ := this
              simp only
              have : digitP l (2 + 1) = none := by
                unfold digitP
                rw [List.getElem?_eq_none (by omega)]
              rw [this]
          rw [this]
          exact (el_x0 w h0 hc h4).mono fun _ _ h => h.res
        · have g2 : l[2]? = some l[2] := List.getElem?_eq_getElem (by omega)
          have g3 : l[3]? = some l[3] := List.getElem?_eq_getElem (by omega)
          generalize l[2] = b2 at *
          generalize l[3] = b3 at *
          have e2 : digitP l 2 = (hexd b2).map fun d => (d, 3) := by
            unfold digitP
            rw [g2]
            simp only
            rcases hexd b2 with _ | d <;> rfl
          have e3 : digitP l 3 = (hexd b3).map fun d => (d, 4) := by
            unfold digitP
            rw [g3]
            simp only
            rcases hexd b3 with _ | d <;> rfl
          rw [e2]
          rcases k2 : hexd b2 with _ | d2
          · refine (el_x w b2 b3 (-1) (hexI b3) h0 hc g2 g3 (by unfold hexI; rw [k2]) rfl (.inl (.inl (by omega)))).mono ?_
            rintro e w' ⟨rfl, hw⟩
            exact ⟨by rw [if_pos (.inl (by omega))]; rfl, hw⟩
          · simp only [Option.map_some]
            rw [e3]
            rcases k3 : hexd b3 with _ | d3
            · refine (el_x w b2 b3 d2 (-1) h0 hc g2 g3 (by unfold hexI; rw [k2]) (by unfold hexI; rw [k3]) (.inl (.inr (by omega)))).mono ?_
              rintro e w' ⟨rfl, hw⟩
              exact ⟨by rw [if_pos (.inr (by omega))]; rfl, hw⟩
            · have l2 := hexd_lt k2
              have l3 := hexd_lt k3
              refine (el_x w b2 b3 d2 d3 h0 hc g2 g3 (by unfold hexI; rw [k2]) (by unfold hexI; rw [k3]) (.inr (by omega))).mono ?_
              rintro e w' ⟨rfl, hw⟩
              refine ⟨?_, hw⟩
              rw [if_neg (by omega)]
              simp only [Option.map_some, elV]
              have ev : (UInt8.ofNat (16 * d2 + d3)).toNat = 16 * d2 + d3 := by rw [UInt8.toNat_ofNat']; omega
              have : ((16 * d2 + d3 : Nat) : Int) = (d2 : Int) * 16 + d3 := by omega
              rw [ev, this]
              rfl
      · have : (match escP l 1 with
            | none => none
            | some (x, k) => some (x, k)) = (escP l 1).map fun p => (p.1, 2) := by
          unfold escP
          rw [hc]
          simp only
          by_cases c1 : c = 110
          · simp [c1]
          by_cases c2 : c = 116
          · simp [c2]
          by_cases c3 : c = 114
          · simp [c3]
          cases punct c <;> simp [c1, c2, c3, hx]
        rw [this]
        exact (el_esc w c h0 hc hx).mono fun _ _ h => h.res
  · rw [if_pos h2]
    exact (el_plain w h0 (fun e => h1 (.inl e)) (fun e => h1 (.inr e)) h2).mono fun _ _ h => h.res
end Go.Proofs.YtpiagfmjekcncaaDoor
