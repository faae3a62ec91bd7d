/- The walk of the document's Element. -/
import Derived.Test.YtpiagfmjekcncaaDoorjGh
import Derived.Test.YtpiagfmjekcncaaDoorjGb
set_option linter.unusedVariables false
set_option linter.unusedSimpArgs false
set_option linter.unusedSectionVars false
namespace Go.Proofs.YtpiagfmjekcncaaDoor
open Go.RowKit
/-- What Element answers at a place: the letter and the place behind it. -/
def elR (t : List UInt8) (k : Nat) : Int × Nat := match elemP (t.drop k) with
  | none => (-1, k)
  | some (x, u) => ((x.toNat : Int), k + u)
def hexP (t : List UInt8) (k : Nat) : Option (UInt8 × Nat) := match t[k]? with
  | none => none
  | some d => match t[k + 1]? with
    | none => none
    | some e => if 0 ≤ hexI d ∧ 0 ≤ hexI e then some (UInt8.ofNat (16 * hexI d + hexI e).toNat, 4) else none
theorem hexI_some {b : UInt8} {d : Nat} (h : hexd b = some d) : hexI b = d := by unfold hexI; rw [h]
theorem hexI_none {b : UInt8} (h : hexd b = none) : hexI b = -1 := by unfold hexI; rw [h]
theorem hexI_lt (b : UInt8) : -1 ≤ hexI b ∧ hexI b < 16 := by
  rcases h : hexd b with _ | d
  · rw [hexI_none h]; omega
  · have := hexd_lt h
    rw [hexI_some h]; omega
theorem digitP_two (t : List UInt8) (k : Nat) : (match digitP t k with
    | none => none
    | some (h, k1) => match digitP t k1 with
      | none => none
      | some (l, k2) => some (UInt8.ofNat (16 * h + l), k2)) = (hexP t k).map fun p => (p.1, k + 2) := by
  unfold digitP hexP
  rcases t[k]? with _ | d
  · rfl
  · dsimp only
    rcases h1 : hexd d with _ | x
    · dsimp only
      rcases t[k + 1]? with _ | e
      · rfl
      · dsimp only
        rw [if_neg (by rw [hexI_none h1]; omega)]
        rfl
    · dsimp only
      rcases t[k + 1]? with _ | e
      · rfl
      · dsimp only
        rcases h2 : hexd e with _ | y
        · dsimp only
          rw [if_neg (by rw [hexI_none h2]; omega)]
          rfl
        · dsimp only
          rw [hexI_some h1, hexI_some h2, if_pos (by omega)]
          rfl
theorem elem_drop (t : List UInt8) (k : Nat) : elemP (t.drop k) = match t[k]? with
    | none => none
    | some b => if b = 93 ∨ b = 45 then none else if b ≠ 92 then some (b, 1) else match t[k + 1]? with
      | none => none
      | some c => if c = 110 then some (10, 2) else if c = 116 then some (9, 2) else if c = 114 then some (13, 2) else if c = 120 then hexP t (k + 2) else if punct c then some (c, 2) else none := by
  have hd : ∀ j, (t.drop k)[j]? = t[k + j]? := fun j => by rw [List.getElem?_drop]
  rcases h0 : t[k]? with _ | b
  · rw [List.drop_of_length_le (List.getElem?_eq_none_iff.1 h0)]
    rfl
  · have hl := at_lt h0
    rw [List.drop_eq_getElem_cons hl]
    have hb : t[k] = b := by rw [List.getElem?_eq_getElem hl] at h0; injection h0
    rw [hb]
    have hd1 : ∀ j, (b :: t.drop (k + 1))[j]? = t[k + j]? := fun j => by rw [← hd, List.drop_eq_getElem_cons hl, hb]
    dsimp only
    rw [elemP_cons]
    generalize (b :: t.drop (k + 1)) = l at *
    split
    · rfl
    split
    · rfl
    unfold escP
    rw [hd1 1]
    rcases t[k + 1]? with _ | c
    · rfl
    · dsimp only
      by_cases c1 : c = 110
      · rw [if_pos c1, if_pos c1]
      rw [if_neg c1, if_neg c1]
      by_cases c2 : c = 116
      · rw [if_pos c2, if_pos c2]
      rw [if_neg c2, if_neg c2]
      by_cases c3 : c = 114
      · rw [if_pos c3, if_pos c3]
      rw [if_neg c3, if_neg c3]
      by_cases c4 : c = 120
      · rw [if_pos c4, if_pos c4]
        have e : ∀ z : Option (UInt8 × Nat), (match z with
            | none => none
            | some (x, k) => some (x, k)) = z := fun z => by rcases z with _ | ⟨x, k⟩ <;> rfl
        refine Eq.trans (e _) (Eq.trans (digitP_two l 2) ?_)
        unfold hexP
        rw [hd1 2, hd1 3, show k + 2 + 1 = k + 3 by omega]
        rcases t[k + 2]? with _ | d
        · rfl
        · dsimp only
          rcases t[k + 3]? with _ | e
          · rfl
          · dsimp only
            split <;> rfl
      · rw [if_neg c4, if_neg c4]
        cases punct c <;> rfl
theorem ghex_q (b : UInt8) (x : Int) (hx : hexI b = x) (w : World) : Calls Tryd.prog 85 #[.int .u8 b.toNat] w fun e w' => e = .returned (.int .i64 x) ∧ w' = w := by
  subst hx
  exact (ghex_any b w).mono fun _ _ h => ⟨h.1, h.2.symm⟩
def GEl (t : List UInt8) (k : Nat) (w : World) (e : Ending) (w' : World) : Prop := e = .returned (.tuple #[.int .i64 (elR t k).1, .int .i64 (elR t k).2]) ∧ ∃ n, w' = w.drewN n
section
variable {t : List UInt8} {k : Nat} (w : World) (hT : t.length ≤ 262144)
set_option maxHeartbeats 4000000 in
theorem gel_any (hk : k ≤ 600000) (hT : t.length ≤ 262144) : Calls Tryd.prog 78 #[.string ⟨t.toArray⟩, .int .i64 k] w (GEl t k w) := by
  have hsz : (ByteArray.mk t.toArray).size = t.length := by simp [ByteArray.size]
  obtain ⟨R, hR⟩ : ∃ R, R = elR t k := ⟨_, rfl⟩
  unfold GEl
  rw [← hR]
  unfold elR at hR
  rw [elem_drop] at hR
  rcases h0 : t[k]? with _ | b
  · rw [h0] at hR
    have HR := Lib.hid hR
    have e0 : decide ((t.length : Int) ≤ (k : Int)) = true := by have := List.getElem?_eq_none_iff.1 h0; simp; omega
    have e1 : ¬ (k < t.length) := by have := List.getElem?_eq_none_iff.1 h0; omega
    clear hR h0
    go_enter Tryd.func78, Tryd.ntmps78
    go_wp2_with fail
    go_ret2
    rw [HR.out]
    exact ⟨rfl, 0, rfl⟩
  have hl := at_lt h0
  have e0 : decide ((t.length : Int) ≤ (k : Int)) = false := by simp; omega
  have hx0 := idxT (P := Tryd.prog) Tryd.underlying9 h0
  obtain ⟨ub0, ub1⟩ := u8b b
  rw [h0] at hR
  dsimp only at hR
  by_cases c93 : b = 93
  · have t1 : ((b.toNat : Int) == 93) = true := by rw [c93]; rfl
    rw [if_pos (.inl c93)] at hR
    have HR := Lib.hid hR
    clear hR h0 c93
    go_enter Tryd.func78, Tryd.ntmps78
    go_wp2_with fail
    go_ret2
    rw [HR.out]
    exact ⟨rfl, 0, rfl⟩
  have t1 : ((b.toNat : Int) == 93) = false := glit (c := 93) c93
  by_cases c45 : b = 45
  · have t2 : ((b.toNat : Int) == 45) = true := by rw [c45]; rfl
    rw [if_pos (.inr c45)] at hR
    have HR := Lib.hid hR
    clear hR h0 c93 c45
    go_enter Tryd.func78, Tryd.ntmps78
    go_wp2_with fail
    go_ret2
    rw [HR.out]
    exact ⟨rfl, 0, rfl⟩
  have t2 : ((b.toNat : Int) == 45) = false := glit (c := 45) c45
  rw [if_neg (by rintro (e | e); exact c93 e; exact c45 e)] at hR
  by_cases c92 : b = 92
  rotate_left
  · have t3 : ((b.toNat : Int) == 92) = false := glit (c := 92) c92
    have t4 : ((b.toNat : Int) != 92) = true := by simpa using t3
    rw [if_pos c92] at hR
    have HR := Lib.hid hR
    clear hR h0 c93 c45 c92
    go_enter Tryd.func78, Tryd.ntmps78
    go_wp2_with fail
    go_ret2
    rw [HR.out]
    exact ⟨rfl, 0, rfl⟩
  have t3 : ((b.toNat : Int) == 92) = true := by rw [c92]; rfl
  have t4 : ((b.toNat : Int) != 92) = false := by rw [c92]; rfl
  rw [if_neg (by simpa using c92)] at hR
  rcases h1 : t[k + 1]? with _ | c
  · rw [h1] at hR
    have HR := Lib.hid hR
    have e1 : decide ((t.length : Int) ≤ (k : Int) + 1) = true := by have := List.getElem?_eq_none_iff.1 h1; simp; omega
    clear hR h0 h1 c93 c45 c92
    go_enter Tryd.func78, Tryd.ntmps78
    go_wp2_with fail
    go_ret2
    rw [HR.out]
    exact ⟨rfl, 0, rfl⟩
  have hl1 := at_lt h1
  have e1 : decide ((t.length : Int) ≤ (k : Int) + 1) = false := by simp; omega
  have hx1 := idxT (P := Tryd.prog) Tryd.underlying9 h1
  rw [show ((k + 1 : Nat) : Int) = (k : Int) + 1 by omega] at hx1
  obtain ⟨uc0, uc1⟩ := u8b c
  rw [h1] at hR
  dsimp only at hR
  clear h0 h1 c93 c45 c92
  by_cases c110 : c = 110
  · have s1 : ((c.toNat : Int) == 110) = true := by rw [c110]; rfl
    rw [if_pos c110] at hR
    have HR := Lib.hid hR
    clear hR c110
    go_enter Tryd.func78, Tryd.ntmps78
    go_wp2_with fail
    go_ret2
    rw [HR.out]
    exact ⟨rfl, 0, rfl⟩
  have s1 : ((c.toNat : Int) == 110) = false := glit (c := 110) c110
  rw [if_neg c110] at hR
  by_cases c116 : c = 116
  · have s2 : ((c.toNat : Int) == 116) = true := by rw [c116]; rfl
    rw [if_pos c116] at hR
    have HR := Lib.hid hR
    clear hR c110 c116
    go_enter Tryd.func78, Tryd.ntmps78
    go_wp2_with fail
    go_ret2
    rw [HR.out]
    exact ⟨rfl, 0, rfl⟩
  have s2 : ((c.toNat : Int) == 116) = false := glit (c := 116) c116
  rw [if_neg c116] at hR
  by_cases c114 : c = 114
  · have s3 : ((c.toNat : Int) == 114) = true := by rw [c114]; rfl
    rw [if_pos c114] at hR
    have HR := Lib.hid hR
    clear hR c110 c116 c114
    go_enter Tryd.func78, Tryd.ntmps78
    go_wp2_with fail
    go_ret2
    rw [HR.out]
    exact ⟨rfl, 0, rfl⟩
  have s3 : ((c.toNat : Int) == 114) = false := glit (c := 114) c114
  rw [if_neg c114] at hR
  by_cases c120 : c = 120
  · have s4 : ((c.toNat : Int) == 120) = true := by rw [c120]; rfl
    rw [if_pos c120] at hR
    unfold hexP at hR
    clear c110 c116 c114 c120
    rcases h2 : t[k + 2]? with _ | d
    · rw [h2] at hR
      have HR := Lib.hid hR
      have e2 : decide ((k : Int) + 3 < (t.length : Int)) = false := by have := List.getElem?_eq_none_iff.1 h2; simp; omega
      clear hR h2
      go_enter Tryd.func78, Tryd.ntmps78
      go_wp2_with fail
      go_ret2
      rw [HR.out]
      exact ⟨rfl, 0, rfl⟩
    rw [h2] at hR
    dsimp only at hR
    rcases h3 : t[k + 2 + 1]? with _ | e
    · rw [h3] at hR
      have HR := Lib.hid hR
      have e2 : decide ((k : Int) + 3 < (t.length : Int)) = false := by have := List.getElem?_eq_none_iff.1 h3; simp; omega
      clear hR h2 h3
      go_enter Tryd.func78, Tryd.ntmps78
      go_wp2_with fail
      go_ret2
      rw [HR.out]
      exact ⟨rfl, 0, rfl⟩
    rw [h3] at hR
    dsimp only at hR
    have hl3 := at_lt h3
    have e2 : decide ((k : Int) + 3 < (t.length : Int)) = true := by simp; omega
    have hx2 := idxT (P := Tryd.prog) Tryd.underlying9 h2
    rw [show ((k + 2 : Nat) : Int) = (k : Int) + 2 by omega] at hx2
    have hx3 := idxT (P := Tryd.prog) Tryd.underlying9 h3
    rw [show ((k + 2 + 1 : Nat) : Int) = (k : Int) + 3 by omega] at hx3
    obtain ⟨x, hx⟩ : ∃ x, x = hexI d := ⟨_, rfl⟩
    obtain ⟨y, hy⟩ : ∃ y, y = hexI e := ⟨_, rfl⟩
    have q2 := hexI_lt d
    have q3 := hexI_lt e
    rw [← hx] at q2 hR
    rw [← hy] at q3 hR
    have HC2 := Lib.hid (ghex_q d x hx.symm)
    have HC3 := Lib.hid (ghex_q e y hy.symm)
    have c2 := HC2.out
    have c3 := HC3.out
    clear h2 h3 hx hy
    by_cases hx0' : x < 0
    · have q1 : decide (0 ≤ x) = false := by simp; omega
      rw [if_neg (by omega)] at hR
      have HR := Lib.hid hR
      clear hR c2 c3
      go_enter Tryd.func78, Tryd.ntmps78
      go_wp2_with fail
      refine (HC2.out _).mono ?_
      rintro e w1 ⟨rfl, rfl⟩
      go_wp2_with fail
      go_ret2
      rw [HR.out]
      exact ⟨rfl, 0, rfl⟩
    by_cases hy0' : y < 0
    · have q1 : decide (0 ≤ x) = true := by simp; omega
      have q4 : decide (0 ≤ y) = false := by simp; omega
      rw [if_neg (by omega)] at hR
      have HR := Lib.hid hR
      clear hR c2 c3
      go_enter Tryd.func78, Tryd.ntmps78
      go_wp2_with fail
      refine (HC2.out _).mono ?_
      rintro e w1 ⟨rfl, rfl⟩
      go_wp2_with fail
      refine (HC3.out _).mono ?_
      rintro e w1 ⟨rfl, rfl⟩
      go_wp2_with fail
      go_ret2
      rw [HR.out]
      exact ⟨rfl, 0, rfl⟩
    have q1 : decide (0 ≤ x) = true := by simp; omega
    have q4 : decide (0 ≤ y) = true := by simp; omega
    rw [if_pos (by omega)] at hR
    dsimp only at hR
    rw [show (((UInt8.ofNat (16 * x + y).toNat).toNat : Nat) : Int) = 16 * x + y by rw [UInt8.toNat_ofNat']; omega] at hR
    have HR := Lib.hid hR
    clear hR
    go_enter Tryd.func78, Tryd.ntmps78
    go_wp2_with fail
    refine (HC2.out _).mono ?_
    rintro e w1 ⟨rfl, rfl⟩
    go_wp2_with fail
    refine (HC3.out _).mono ?_
    rintro e w1 ⟨rfl, rfl⟩
    go_wp2_with fail
    go_quiet (first | (with_reducible exact Calls.quiet_of_same (c2 _)) | (with_reducible exact Calls.quiet_of_same (c3 _)))
    go_wp2_with fail
    go_ret2
    rw [HR.out]
    exact ⟨rfl, _, rfl⟩
  have s4 : ((c.toNat : Int) == 120) = false := glit (c := 120) c120
  rw [if_neg c120] at hR
  have HR := Lib.hid hR
  have HP := Lib.hid (gpunct_any c)
  clear hR c110 c116 c114 c120
  go_enter Tryd.func78, Tryd.ntmps78
  go_wp2_with fail
  refine (HP.out w).mono ?_
  rintro e w1 ⟨rfl, rfl⟩
  cases hp : punct c with
  | true =>
    have hR := HR.out
    rw [hp] at hR
    have HR2 := Lib.hid hR
    clear hR hp HP HR
    go_wp2_with fail
    go_ret2
    rw [HR2.out]
    exact ⟨rfl, 0, rfl⟩
  | false =>
    have hR := HR.out
    rw [hp] at hR
    have HR2 := Lib.hid hR
    clear hR hp HP HR
    go_wp2_with fail
    go_ret2
    rw [HR2.out]
    exact ⟨rfl, 0, rfl⟩
end
end Go.Proofs.YtpiagfmjekcncaaDoor
