/- The walks of the parser's digit, punctuation, escape. -/
import Derived.Test.YtpiagfmjekcncaaDoorjPar
set_option linter.unusedVariables false
set_option linter.unusedSimpArgs false
set_option linter.unusedSectionVars false
namespace Go.Proofs.YtpiagfmjekcncaaDoor
open Go.RowKit
/-- What a part of the parser does: v and the place k', or it fails. -/
def PRes (T : List UInt8) (w : World) (g : Nat) (r : Option (Value × Nat)) (e : Ending) (w' : World) : Prop := match r with
  | some (v, k') => PStep T w g v k' e w'
  | none => PFail T w g e w'
theorem PStep.then_ {T : List UInt8} {w w1 w' : World} {g k' : Nat} {v : Value} {e : Ending} (hk : Kept (isG g) w w1) (h : PStep T w1 g v k' e w') : PStep T w g v k' e w' := ⟨h.1, h.2.1, hk.then_ h.2.2⟩
theorem PFail.then_ {T : List UInt8} {w w1 w' : World} {g : Nat} {e : Ending} (hk : Kept (isG g) w w1) (h : PFail T w1 g e w') : PFail T w g e w' := ⟨h.1, h.2.1, hk.then_ h.2.2⟩
theorem digit_none {T : List UInt8} {g k : Nat} (w : World) (h : PS T w g k) (hb : T[k]? = none) : Calls Tryd.prog 71 #[.pointer (some ⟨g, 0, none⟩)] w (PFail T w g) := by
  have H := Lib.hid h
  have HB := Lib.hid hb
  clear h hb
  go_enter Tryd.func71, Tryd.ntmps71
  go_wp2_with fail
  refine (next_none _ H.out HB.out).mono ?_
  rintro e w1 ⟨rfl, ⟨k1, h1⟩, hk⟩
  go_wp2_with fail
  exact ⟨rfl, rfl, ⟨k1, h1⟩, hk⟩
theorem u8_int (b : UInt8) : 0 ≤ (b.toNat : Int) ∧ (b.toNat : Int) ≤ 255 := by have := b.toNat_lt; omega
theorem digit_in {T : List UInt8} {g k d : Nat} {b : UInt8} (w : World) (h : PS T w g k) (hb : T[k]? = some b) (hd : hexd b = some d) : Calls Tryd.prog 71 #[.pointer (some ⟨g, 0, none⟩)] w (PStep T w g (.int .u8 d) (k + 1)) := by
  have hn := next_some w h hb
  obtain ⟨hx0, hx1⟩ := u8_int b
  have HN := Lib.hid hn
  clear hn h hb
  unfold hexd at hd
  simp only [UInt8.le_iff_toNat_le] at hd
  rw [show (48 : UInt8).toNat = 48 from rfl, show (57 : UInt8).toNat = 57 from rfl, show (97 : UInt8).toNat = 97 from rfl, show (102 : UInt8).toNat = 102 from rfl, show (65 : UInt8).toNat = 65 from rfl, show (70 : UInt8).toNat = 70 from rfl] at hd
  have hc : (48 ≤ (b.toNat : Int) ∧ (b.toNat : Int) ≤ 57 ∧ (d : Int) = b.toNat - 48) ∨ (97 ≤ (b.toNat : Int) ∧ (b.toNat : Int) ≤ 102 ∧ (d : Int) = b.toNat - 97 + 10) ∨ (65 ≤ (b.toNat : Int) ∧ (b.toNat : Int) ≤ 70 ∧ (d : Int) = b.toNat - 65 + 10) := by
    split at hd
    · injection hd with hd; omega
    split at hd
    · injection hd with hd; omega
    split at hd
    · injection hd with hd; omega
    · cases hd
  clear hd
  generalize (b.toNat : Int) = x at *
  generalize (d : Int) = y at *
  rcases hc with ⟨h1, h2, rfl⟩ | ⟨h1, h2, rfl⟩ | ⟨h1, h2, rfl⟩
  all_goals
    go_enter Tryd.func71, Tryd.ntmps71
    go_wp2_with fail
    refine HN.out.mono ?_
    rintro e w1 ⟨rfl, hp, hk⟩
    go_wp2_with fail
    go_ret
    exact ⟨rfl, hp, hk⟩
theorem digit_out {T : List UInt8} {g k : Nat} {b : UInt8} (w : World) (h : PS T w g k) (hb : T[k]? = some b) (hd : hexd b = none) : Calls Tryd.prog 71 #[.pointer (some ⟨g, 0, none⟩)] w (PFail T w g) := by
  have hn := next_some w h hb
  obtain ⟨hx0, hx1⟩ := u8_int b
  have HN := Lib.hid hn
  clear hn h hb
  unfold hexd at hd
  simp only [UInt8.le_iff_toNat_le] at hd
  rw [show (48 : UInt8).toNat = 48 from rfl, show (57 : UInt8).toNat = 57 from rfl, show (97 : UInt8).toNat = 97 from rfl, show (102 : UInt8).toNat = 102 from rfl, show (65 : UInt8).toNat = 65 from rfl, show (70 : UInt8).toNat = 70 from rfl] at hd
  have hc : (b.toNat : Int) < 48 ∨ (57 < (b.toNat : Int) ∧ (b.toNat : Int) < 65) ∨ (70 < (b.toNat : Int) ∧ (b.toNat : Int) < 97) ∨ 102 < (b.toNat : Int) := by
    split at hd
    · cases hd
    split at hd
    · cases hd
    split at hd
    · cases hd
    · omega
  clear hd
  generalize (b.toNat : Int) = x at *
  rcases hc with h1 | ⟨h1, h2⟩ | ⟨h1, h2⟩ | h1
  all_goals
    go_enter Tryd.func71, Tryd.ntmps71
    go_wp2_with fail
    refine HN.out.mono ?_
    rintro e w1 ⟨rfl, hp, hk⟩
    go_wp2_with fail
    exact ⟨rfl, rfl, ⟨_, hp⟩, hk⟩
def dV (r : Option (Nat × Nat)) : Option (Value × Nat) := r.map fun p => (.int .u8 p.1, p.2)
theorem digit_any {T : List UInt8} {g k : Nat} (w : World) (h : PS T w g k) : Calls Tryd.prog 71 #[.pointer (some ⟨g, 0, none⟩)] w (PRes T w g (dV (digitP T k))) := by
  unfold digitP
  rcases hb : T[k]? with _ | b
  · exact digit_none w h hb
  · simp only
    rcases hd : hexd b with _ | d
    · exact digit_out w h hb hd
    · exact digit_in w h hb hd
theorem punct_any (b : UInt8) (w : World) : Calls Tryd.prog 72 #[.int .u8 b.toNat] w fun e w' => e = .returned (.bool (punct b)) ∧ w = w' := by
  obtain ⟨hx0, hx1⟩ := u8_int b
  have hp : punct b = ((decide (33 ≤ (b.toNat : Int)) && decide ((b.toNat : Int) ≤ 47)) || (decide (58 ≤ (b.toNat : Int)) && decide ((b.toNat : Int) ≤ 64)) || (decide (91 ≤ (b.toNat : Int)) && decide ((b.toNat : Int) ≤ 96)) || (decide (123 ≤ (b.toNat : Int)) && decide ((b.toNat : Int) ≤ 126))) := by
    unfold punct
    rw [Bool.eq_iff_iff]
    simp [UInt8.le_iff_toNat_le]
    omega
  rw [hp]
  clear hp
  generalize (b.toNat : Int) = x at *
  have hc : x < 33 ∨ (33 ≤ x ∧ x ≤ 47) ∨ (47 < x ∧ x < 58) ∨ (58 ≤ x ∧ x ≤ 64) ∨ (64 < x ∧ x < 91) ∨ (91 ≤ x ∧ x ≤ 96) ∨ (96 < x ∧ x < 123) ∨ (123 ≤ x ∧ x ≤ 126) ∨ 126 < x := by omega
  have hr : ∀ q : Bool, ((decide (33 ≤ x) && decide (x ≤ 47)) || (decide (58 ≤ x) && decide (x ≤ 64)) || (decide (91 ≤ x) && decide (x ≤ 96)) || (decide (123 ≤ x) && decide (x ≤ 126))) = q → (Calls Tryd.prog 72 #[.int .u8 x] w fun e w' => e = .returned (.bool q) ∧ w = w') := by
    intro q hq
    have HQ := Lib.hid hq
    clear hq
    rcases hc with h1 | ⟨h1, h2⟩ | ⟨h1, h2⟩ | ⟨h1, h2⟩ | ⟨h1, h2⟩ | ⟨h1, h2⟩ | ⟨h1, h2⟩ | ⟨h1, h2⟩ | h1
    all_goals
      go_enter Tryd.func72, Tryd.ntmps72
      go_wp2_with fail
      go_ret
      refine ⟨?_, rfl⟩
      rw [← HQ.out]
      refine congrArg (fun z => Ending.returned (.bool z)) ?_
      show _ = (_ : Bool)
      rw [Bool.eq_iff_iff]
      simp
      try omega
  exact hr _ rfl
end Go.Proofs.YtpiagfmjekcncaaDoor
namespace Go.Proofs.YtpiagfmjekcncaaDoor
open Go.RowKit
def eV (r : Option (UInt8 × Nat)) : Option (Value × Nat) := r.map fun p => (.int .u8 p.1.toNat, p.2)
theorem ne_lit {b c : UInt8} (h : b ≠ c) : ((b.toNat : Int) == (c.toNat : Int)) = false := by
  simp
  intro e
  exact h (UInt8.toNat_inj.1 (by omega))
theorem digitP_lt {T : List UInt8} {k d k' : Nat} (h : digitP T k = some (d, k')) : d < 16 := by
  unfold digitP hexd at h
  simp only [UInt8.le_iff_toNat_le] at h
  rw [show (48 : UInt8).toNat = 48 from rfl, show (57 : UInt8).toNat = 57 from rfl, show (97 : UInt8).toNat = 97 from rfl, show (102 : UInt8).toNat = 102 from rfl, show (65 : UInt8).toNat = 65 from rfl, show (70 : UInt8).toNat = 70 from rfl] at h
  split at h
  · cases h
  split at h
  · cases h
  rename_i d' hd
  injection h with h
  injection h with h1 h2
  split at hd
  · injection hd with hd; omega
  split at hd
  · injection hd with hd; omega
  split at hd
  · injection hd with hd; omega
  · cases hd
theorem or16_all : ∀ a : Fin 16, ∀ b : Fin 16, bits BinOp.or IntKind.u8 ((a.val : Int) * 16) (b.val : Int) = ((UInt8.ofNat (16 * a.val + b.val)).toNat : Int) := by decide +kernel
theorem or16 (a b : Nat) (ha : a < 16) (hb : b < 16) : bits BinOp.or IntKind.u8 ((a : Int) * 16) (b : Int) = ((UInt8.ofNat (16 * a + b)).toNat : Int) := or16_all ⟨a, ha⟩ ⟨b, hb⟩
theorem ret_u8 {a b : Int} (h : a = b) : Ending.returned (.int .u8 a) = .returned (.int .u8 b) := by rw [h]
theorem esc_none {T : List UInt8} {g k : Nat} (w : World) (h : PS T w g k) (hb : T[k]? = none) : Calls Tryd.prog 60 #[.pointer (some ⟨g, 0, none⟩)] w (PFail T w g) := by
  have HN := Lib.hid (next_none w h hb)
  clear h hb
  go_enter Tryd.func60, Tryd.ntmps60
  go_wp2_with fail
  refine HN.out.mono ?_
  rintro e w1 ⟨rfl, hp, hk⟩
  go_wp2_with fail
  exact ⟨rfl, rfl, hp, hk⟩
theorem esc_n {T : List UInt8} {g k : Nat} (w : World) (h : PS T w g k) (hb : T[k]? = some 110) : Calls Tryd.prog 60 #[.pointer (some ⟨g, 0, none⟩)] w (PStep T w g (.int .u8 10) (k + 1)) := by
  have HN := Lib.hid (next_some w h hb)
  rw [show ((110 : UInt8).toNat : Int) = 110 from rfl] at HN
  clear h hb
  go_enter Tryd.func60, Tryd.ntmps60
  go_wp2_with fail
  refine HN.out.mono ?_
  rintro e w1 ⟨rfl, hp, hk⟩
  go_wp2_with fail
  go_ret
  exact ⟨rfl, hp, hk⟩
theorem esc_t {T : List UInt8} {g k : Nat} (w : World) (h : PS T w g k) (hb : T[k]? = some 116) : Calls Tryd.prog 60 #[.pointer (some ⟨g, 0, none⟩)] w (PStep T w g (.int .u8 9) (k + 1)) := by
  have HN := Lib.hid (next_some w h hb)
  rw [show ((116 : UInt8).toNat : Int) = 116 from rfl] at HN
  clear h hb
  go_enter Tryd.func60, Tryd.ntmps60
  go_wp2_with fail
  refine HN.out.mono ?_
  rintro e w1 ⟨rfl, hp, hk⟩
  go_wp2_with fail
  go_ret
  exact ⟨rfl, hp, hk⟩
theorem esc_r {T : List UInt8} {g k : Nat} (w : World) (h : PS T w g k) (hb : T[k]? = some 114) : Calls Tryd.prog 60 #[.pointer (some ⟨g, 0, none⟩)] w (PStep T w g (.int .u8 13) (k + 1)) := by
  have HN := Lib.hid (next_some w h hb)
  rw [show ((114 : UInt8).toNat : Int) = 114 from rfl] at HN
  clear h hb
  go_enter Tryd.func60, Tryd.ntmps60
  go_wp2_with fail
  refine HN.out.mono ?_
  rintro e w1 ⟨rfl, hp, hk⟩
  go_wp2_with fail
  go_ret
  exact ⟨rfl, hp, hk⟩
theorem esc_x1 {T : List UInt8} {g k : Nat} (w : World) (h : PS T w g k) (hb : T[k]? = some 120) (hd : digitP T (k + 1) = none) : Calls Tryd.prog 60 #[.pointer (some ⟨g, 0, none⟩)] w (PFail T w g) := by
  have HN := Lib.hid (next_some w h hb)
  rw [show ((120 : UInt8).toNat : Int) = 120 from rfl] at HN
  have HD := Lib.hid hd
  clear h hb hd
  go_enter Tryd.func60, Tryd.ntmps60
  go_wp2_with fail
  refine HN.out.mono ?_
  rintro e w1 ⟨rfl, hp, hk⟩
  go_wp2_with fail
  have hc := digit_any w1 hp
  rw [HD.out] at hc
  refine hc.mono ?_
  clear hc
  rintro e w2 ⟨rfl, hp2, hk2⟩
  go_wp2_with fail
  exact ⟨rfl, rfl, hp2, hk.then_ hk2⟩
theorem esc_x2 {T : List UInt8} {g k d1 k1 : Nat} (w : World) (h : PS T w g k) (hb : T[k]? = some 120) (hd : digitP T (k + 1) = some (d1, k1)) (hd2 : digitP T k1 = none) : Calls Tryd.prog 60 #[.pointer (some ⟨g, 0, none⟩)] w (PFail T w g) := by
  have HN := Lib.hid (next_some w h hb)
  rw [show ((120 : UInt8).toNat : Int) = 120 from rfl] at HN
  have HD := Lib.hid hd
  have HD2 := Lib.hid hd2
  clear h hb hd hd2
  go_enter Tryd.func60, Tryd.ntmps60
  go_wp2_with fail
  refine HN.out.mono ?_
  rintro e w1 ⟨rfl, hp, hk⟩
  go_wp2_with fail
  have hc := digit_any w1 hp
  rw [HD.out] at hc
  refine hc.mono ?_
  clear hc
  rintro e w2 ⟨rfl, hp2, hk2⟩
  go_wp2_with fail
  have hc := digit_any w2 hp2
  rw [HD2.out] at hc
  refine hc.mono ?_
  clear hc
  rintro e w3 ⟨rfl, hp3, hk3⟩
  go_wp2_with fail
  exact ⟨rfl, rfl, hp3, (hk.then_ hk2).then_ hk3⟩
theorem esc_x3 {T : List UInt8} {g k d1 k1 d2 k2 : Nat} (w : World) (h : PS T w g k) (hb : T[k]? = some 120) (hd : digitP T (k + 1) = some (d1, k1)) (hd2 : digitP T k1 = some (d2, k2)) : Calls Tryd.prog 60 #[.pointer (some ⟨g, 0, none⟩)] w (PStep T w g (.int .u8 (UInt8.ofNat (16 * d1 + d2)).toNat) k2) := by
  have HN := Lib.hid (next_some w h hb)
  rw [show ((120 : UInt8).toNat : Int) = 120 from rfl] at HN
  have h1 := digitP_lt hd
  have h2 := digitP_lt hd2
  have HD := Lib.hid hd
  have HD2 := Lib.hid hd2
  clear h hb hd hd2
  go_enter Tryd.func60, Tryd.ntmps60
  go_wp2_with fail
  refine HN.out.mono ?_
  rintro e w1 ⟨rfl, hp, hk⟩
  go_wp2_with fail
  have hc := digit_any w1 hp
  rw [HD.out] at hc
  refine hc.mono ?_
  clear hc
  rintro e w2 ⟨rfl, hp2, hk2⟩
  go_wp2_with fail
  have hc := digit_any w2 hp2
  rw [HD2.out] at hc
  refine hc.mono ?_
  clear hc
  rintro e w3 ⟨rfl, hp3, hk3⟩
  go_wp2_with fail
  go_ret
  exact ⟨ret_u8 (or16 d1 d2 h1 h2), hp3, (hk.then_ hk2).then_ hk3⟩
theorem esc_p {T : List UInt8} {g k : Nat} {b : UInt8} (w : World) (h : PS T w g k) (hb : T[k]? = some b) (h1 : b ≠ 110) (h2 : b ≠ 116) (h3 : b ≠ 114) (h4 : b ≠ 120) (hp : punct b = true) : Calls Tryd.prog 60 #[.pointer (some ⟨g, 0, none⟩)] w (PStep T w g (.int .u8 b.toNat) (k + 1)) := by
  have HN := Lib.hid (next_some w h hb)
  have e1 : ((b.toNat : Int) == 110) = false := ne_lit h1
  have e2 : ((b.toNat : Int) == 116) = false := ne_lit h2
  have e3 : ((b.toNat : Int) == 114) = false := ne_lit h3
  have e4 : ((b.toNat : Int) == 120) = false := ne_lit h4
  have HC := Lib.hid fun w => punct_any b w
  rw [hp] at HC
  clear h hb h1 h2 h3 h4 hp
  go_enter Tryd.func60, Tryd.ntmps60
  go_wp2_with fail
  refine HN.out.mono ?_
  rintro e w1 ⟨rfl, hp, hk⟩
  go_wp2_with fail
  refine (HC.out w1).mono ?_
  rintro e w' ⟨rfl, rfl⟩
  go_wp2_with fail
  go_ret
  exact ⟨rfl, hp, hk⟩
theorem esc_q {T : List UInt8} {g k : Nat} {b : UInt8} (w : World) (h : PS T w g k) (hb : T[k]? = some b) (h1 : b ≠ 110) (h2 : b ≠ 116) (h3 : b ≠ 114) (h4 : b ≠ 120) (hp : punct b = false) : Calls Tryd.prog 60 #[.pointer (some ⟨g, 0, none⟩)] w (PFail T w g) := by
  have HN := Lib.hid (next_some w h hb)
  have e1 : ((b.toNat : Int) == 110) = false := ne_lit h1
  have e2 : ((b.toNat : Int) == 116) = false := ne_lit h2
  have e3 : ((b.toNat : Int) == 114) = false := ne_lit h3
  have e4 : ((b.toNat : Int) == 120) = false := ne_lit h4
  have HC := Lib.hid fun w => punct_any b w
  rw [hp] at HC
  clear h hb h1 h2 h3 h4 hp
  go_enter Tryd.func60, Tryd.ntmps60
  go_wp2_with fail
  refine HN.out.mono ?_
  rintro e w1 ⟨rfl, hp, hk⟩
  go_wp2_with fail
  refine (HC.out w1).mono ?_
  rintro e w' ⟨rfl, rfl⟩
  go_wp2_with fail
  exact ⟨rfl, rfl, ⟨_, hp⟩, hk⟩
theorem esc_any {T : List UInt8} {g k : Nat} (w : World) (h : PS T w g k) : Calls Tryd.prog 60 #[.pointer (some ⟨g, 0, none⟩)] w (PRes T w g (eV (escP T k))) := by
  unfold escP
  rcases hb : T[k]? with _ | b
  · exact esc_none w h hb
  simp only
  by_cases h1 : b = 110
  · rw [if_pos h1]; subst h1; exact esc_n w h hb
  rw [if_neg h1]
  by_cases h2 : b = 116
  · rw [if_pos h2]; subst h2; exact esc_t w h hb
  rw [if_neg h2]
  by_cases h3 : b = 114
  · rw [if_pos h3]; subst h3; exact esc_r w h hb
  rw [if_neg h3]
  by_cases h4 : b = 120
  · rw [if_pos h4]
    subst h4
    rcases hd : digitP T (k + 1) with _ | ⟨d1, k1⟩
    · exact esc_x1 w h hb hd
    · simp only
      rcases hd2 : digitP T k1 with _ | ⟨d2, k2⟩
      · exact esc_x2 w h hb hd hd2
      · exact esc_x3 w h hb hd hd2
  rw [if_neg h4]
  rcases hp : punct b with _ | _
  · exact esc_q w h hb h1 h2 h3 h4 hp
  · exact esc_p w h hb h1 h2 h3 h4 hp
end Go.Proofs.YtpiagfmjekcncaaDoor
