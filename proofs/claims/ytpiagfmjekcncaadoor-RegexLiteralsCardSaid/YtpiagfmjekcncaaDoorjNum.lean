/- The walk of the parser's number. -/
import Derived.Test.YtpiagfmjekcncaaDoorjEsc
import Derived.Deep.LoopGhost
set_option linter.unusedVariables false
set_option linter.unusedSimpArgs false
set_option linter.unusedSectionVars false
namespace Go.Proofs.YtpiagfmjekcncaaDoor
open Go.RowKit
def nV (r : Option (Nat × Nat)) : Option (Value × Nat) := r.map fun p => (.int .i64 p.1, p.2)
theorem numP_eq (T : List UInt8) (k : Nat) : numP T k = match numL T (T.length + 1) k 0 with
  | none => none
  | some (n, e) => if e = k ∨ (T[k]? = some 48 ∧ k + 1 < e) then none else some (n, e) := rfl
def NumRel (T : List UInt8) (w : World) (g k0 : Nat) (R : Option (Nat × Nat)) (f : Nat) (v : Value) (wr : World) : Prop :=
  ∃ k n : Nat, v = .int .i64 n ∧ PS T wr g k ∧ k0 ≤ k ∧ n ≤ 64 ∧ T.length - k < f ∧ Hid (numL T f k n = R) ∧ Kept (isG g) w wr
set_option maxHeartbeats 4000000 in
theorem number_any {T : List UInt8} {g k0 : Nat} (w : World) (h : PS T w g k0) : Calls Tryd.prog 64 #[.pointer (some ⟨g, 0, none⟩)] w (PRes T w g (nV (numP T k0))) := by
  obtain ⟨R, hR⟩ : ∃ R, R = numL T (T.length + 1) k0 0 := ⟨_, rfl⟩
  obtain ⟨Z, hZ⟩ : ∃ Z, Z = numP T k0 := ⟨_, rfl⟩
  rw [← hZ]
  have HZ := Lib.hid hZ
  have HR := Lib.hid hR
  have H0 := Lib.hid h
  obtain ⟨c0, c1, q1⟩ := h.cells
  have hsz : (ByteArray.mk T.toArray).size = T.length := by simp [ByteArray.size]
  have hT := h.2.2
  have hk0 := h.2.1
  clear hR hZ h
  go_enter Tryd.func64, Tryd.ntmps64
  go_wp2_with fail
  go_loopg [4] (T.length + 1) (fun f v wr => NumRel T w g k0 R f v wr)
  case atStart => exact ⟨k0, 0, rfl, H0.out, by omega, by omega, by omega, HR.out.symm, Kept.refl _ _⟩
  case round =>
    clear c0 c1 q1
    obtain ⟨k, n, rfl, hp, h1, h2, h3, hP, hK⟩ := hrel
    obtain ⟨f, rfl⟩ : ∃ f, gk = f + 1 := ⟨gk - 1, by omega⟩
    obtain ⟨c0, c1, q1⟩ := hp.cells
    have H := Lib.hid hp
    have HK := Lib.hid hK
    have hP2 := hP.out
    have hke := hp.2.1
    clear hp hK hP
    rcases hb : T[k]? with _ | b
    · have hle : decide (k < T.length) = false := by have := List.getElem?_eq_none_iff.1 hb; simp; omega
      rw [numL, hb] at hP2
      have hR0 : some (n, k) = numL T (T.length + 1) k0 0 := hP2.trans HR.out
      clear hb hP2
      by_cases h0 : k = k0
      · subst h0
        have hz : Z = none := by rw [HZ.out, numP_eq, ← hR0]; exact if_pos (.inl rfl)
        subst hz
        have t1 : ((k : Int) == (k : Int)) = true := by simp
        go_wp2_with fail
        go_quiet (fail)
        go_wp2_with fail
        exact ⟨rfl, rfl, ⟨_, H.out.drewN _⟩, HK.out.drewN _⟩
      · have t1 : ((k : Int) == (k0 : Int)) = false := by simp; omega
        have hl0 : k0 < T.length := by have := H.out.2.1; omega
        obtain ⟨c, hc⟩ : ∃ c, T[k0]? = some c := ⟨T[k0], List.getElem?_eq_getElem hl0⟩
        have hixc := idxT (P := Tryd.prog) Tryd.underlying9 hc
        by_cases h48 : c = 48
        · subst h48
          rw [show ((48 : UInt8).toNat : Int) = 48 from rfl] at hixc
          by_cases hk1 : k0 + 1 < k
          · have t2 : decide ((k0 : Int) + 1 < (k : Int)) = true := by simp; omega
            have hz : Z = none := by rw [HZ.out, numP_eq, ← hR0]; exact if_pos (.inr ⟨hc, hk1⟩)
            subst hz
            have HC := Lib.hid hc
            clear hc hR0
            go_wp2_with fail
            go_quiet (fail)
            go_wp2_with fail
            exact ⟨rfl, rfl, ⟨_, H.out.drewN _⟩, HK.out.drewN _⟩
          · have t2 : decide ((k0 : Int) + 1 < (k : Int)) = false := by simp; omega
            have hz : Z = some (n, k) := by rw [HZ.out, numP_eq, ← hR0]; exact if_neg (by rintro (h | h); exact h0 h; exact hk1 h.2)
            subst hz
            have HC := Lib.hid hc
            clear hc hR0
            go_wp2_with fail
            go_quiet (fail)
            go_wp2_with fail
            go_ret
            exact ⟨rfl, H.out.drewN _, HK.out.drewN _⟩
        · have t2 : ((c.toNat : Int) == 48) = false := ne_lit (c := 48) h48
          have hz : Z = some (n, k) := by rw [HZ.out, numP_eq, ← hR0]; exact if_neg (by rintro (h | h); exact h0 h; rw [hc] at h; injection h.1 with h; exact h48 h)
          subst hz
          have HC := Lib.hid hc
          have H48 := Lib.hid h48
          clear hc hR0 h48
          go_wp2_with fail
          go_quiet (fail)
          go_wp2_with fail
          go_ret
          exact ⟨rfl, H.out.drewN _, HK.out.drewN _⟩
    · have hl := at_lt hb
      have hle : decide ((k : Int) < (T.length : Int)) = true := by simp; omega
      have hix := idxT (P := Tryd.prog) Tryd.underlying9 hb
      rw [numL_step hb] at hP2
      obtain ⟨hx0, hx1⟩ := u8b b
      by_cases hd : 48 ≤ b ∧ b ≤ 57
      · rw [if_pos hd] at hP2
        have hd1 : 48 ≤ (b.toNat : Int) ∧ (b.toNat : Int) ≤ 57 := by
          have e1 := UInt8.le_iff_toNat_le.1 hd.1
          have e2 := UInt8.le_iff_toNat_le.1 hd.2
          rw [show (48 : UInt8).toNat = 48 from rfl] at e1
          rw [show (57 : UInt8).toNat = 57 from rfl] at e2
          omega
        obtain ⟨hd1, hd2⟩ := hd1
        have g1 : decide (48 ≤ (b.toNat : Int)) = true := by simp; omega
        have g2 : decide ((b.toNat : Int) ≤ 57) = true := by simp; omega
        have HB := Lib.hid hb
        clear hd hb
        by_cases h64 : 64 < n * 10 + (b.toNat - 48)
        · rw [if_pos h64] at hP2
          have hz : Z = none := by rw [HZ.out, numP_eq, ← HR.out, ← hP2]
          subst hz
          have g3 : decide (64 < (n : Int) * 10 + ((b.toNat : Int) - 48)) = true := by simp; omega
          clear hP2
          go_wp2_with fail
          go_quiet (fail)
          go_wp2_with fail
          refine (next_some _ (H.out.drewN _) HB.out).mono ?_
          rintro e w1 ⟨rfl, hp1, hk1⟩
          go_wp2_with fail
          exact ⟨rfl, rfl, ⟨_, hp1⟩, (HK.out.drewN _).then_ hk1⟩
        · rw [if_neg h64] at hP2
          have HP := Lib.hid hP2
          have g3 : decide (64 < (n : Int) * 10 + ((b.toNat : Int) - 48)) = false := by simp; omega
          clear hP2
          go_wp2_with fail
          go_quiet (fail)
          go_wp2_with fail
          refine (next_some _ (H.out.drewN _) HB.out).mono ?_
          rintro e w1 ⟨rfl, hp1, hk1⟩
          go_wp2_with fail
          go_roundg f
          case measure => omega
          case rel => exact ⟨k + 1, n * 10 + (b.toNat - 48), by rw [show ((n * 10 + (b.toNat - 48) : Nat) : Int) = (n : Int) * 10 + ((b.toNat : Int) - 48) by omega], hp1, by omega, by omega, by omega, HP, (HK.out.drewN _).then_ hk1⟩
      · rw [if_neg hd] at hP2
        have hR0 : some (n, k) = numL T (T.length + 1) k0 0 := hP2.trans HR.out
        have hd1 : (b.toNat : Int) < 48 ∨ 57 < (b.toNat : Int) := by
          rw [UInt8.le_iff_toNat_le, UInt8.le_iff_toNat_le, show (48 : UInt8).toNat = 48 from rfl, show (57 : UInt8).toNat = 57 from rfl] at hd
          omega
        clear hd hb hP2
        rcases hd1 with hd1 | hd1
        · have g1 : decide (48 ≤ (b.toNat : Int)) = false := by simp; omega
          by_cases h0 : k = k0
          · subst h0
            have hz : Z = none := by rw [HZ.out, numP_eq, ← hR0]; exact if_pos (.inl rfl)
            subst hz
            have t1 : ((k : Int) == (k : Int)) = true := by simp
            go_wp2_with fail
            go_quiet (fail)
            go_wp2_with fail
            exact ⟨rfl, rfl, ⟨_, H.out.drewN _⟩, HK.out.drewN _⟩
          · have t1 : ((k : Int) == (k0 : Int)) = false := by simp; omega
            have hl0 : k0 < T.length := by have := H.out.2.1; omega
            obtain ⟨c, hc⟩ : ∃ c, T[k0]? = some c := ⟨T[k0], List.getElem?_eq_getElem hl0⟩
            have hixc := idxT (P := Tryd.prog) Tryd.underlying9 hc
            by_cases h48 : c = 48
            · subst h48
              rw [show ((48 : UInt8).toNat : Int) = 48 from rfl] at hixc
              by_cases hk1 : k0 + 1 < k
              · have t2 : decide ((k0 : Int) + 1 < (k : Int)) = true := by simp; omega
                have hz : Z = none := by rw [HZ.out, numP_eq, ← hR0]; exact if_pos (.inr ⟨hc, hk1⟩)
                subst hz
                have HC := Lib.hid hc
                clear hc hR0
                go_wp2_with fail
                go_quiet (fail)
                go_wp2_with fail
                exact ⟨rfl, rfl, ⟨_, H.out.drewN _⟩, HK.out.drewN _⟩
              · have t2 : decide ((k0 : Int) + 1 < (k : Int)) = false := by simp; omega
                have hz : Z = some (n, k) := by rw [HZ.out, numP_eq, ← hR0]; exact if_neg (by rintro (h | h); exact h0 h; exact hk1 h.2)
                subst hz
                have HC := Lib.hid hc
                clear hc hR0
                go_wp2_with fail
                go_quiet (fail)
                go_wp2_with fail
                go_ret
                exact ⟨rfl, H.out.drewN _, HK.out.drewN _⟩
            · have t2 : ((c.toNat : Int) == 48) = false := ne_lit (c := 48) h48
              have hz : Z = some (n, k) := by rw [HZ.out, numP_eq, ← hR0]; exact if_neg (by rintro (h | h); exact h0 h; rw [hc] at h; injection h.1 with h; exact h48 h)
              subst hz
              have HC := Lib.hid hc
              have H48 := Lib.hid h48
              clear hc hR0 h48
              go_wp2_with fail
              go_quiet (fail)
              go_wp2_with fail
              go_ret
              exact ⟨rfl, H.out.drewN _, HK.out.drewN _⟩
        · have g1 : decide (48 ≤ (b.toNat : Int)) = true := by simp; omega
          have g2 : decide ((b.toNat : Int) ≤ 57) = false := by simp; omega
          by_cases h0 : k = k0
          · subst h0
            have hz : Z = none := by rw [HZ.out, numP_eq, ← hR0]; exact if_pos (.inl rfl)
            subst hz
            have t1 : ((k : Int) == (k : Int)) = true := by simp
            go_wp2_with fail
            go_quiet (fail)
            go_wp2_with fail
            exact ⟨rfl, rfl, ⟨_, H.out.drewN _⟩, HK.out.drewN _⟩
          · have t1 : ((k : Int) == (k0 : Int)) = false := by simp; omega
            have hl0 : k0 < T.length := by have := H.out.2.1; omega
            obtain ⟨c, hc⟩ : ∃ c, T[k0]? = some c := ⟨T[k0], List.getElem?_eq_getElem hl0⟩
            have hixc := idxT (P := Tryd.prog) Tryd.underlying9 hc
            by_cases h48 : c = 48
            · subst h48
              rw [show ((48 : UInt8).toNat : Int) = 48 from rfl] at hixc
              by_cases hk1 : k0 + 1 < k
              · have t2 : decide ((k0 : Int) + 1 < (k : Int)) = true := by simp; omega
                have hz : Z = none := by rw [HZ.out, numP_eq, ← hR0]; exact if_pos (.inr ⟨hc, hk1⟩)
                subst hz
                have HC := Lib.hid hc
                clear hc hR0
                go_wp2_with fail
                go_quiet (fail)
                go_wp2_with fail
                exact ⟨rfl, rfl, ⟨_, H.out.drewN _⟩, HK.out.drewN _⟩
              · have t2 : decide ((k0 : Int) + 1 < (k : Int)) = false := by simp; omega
                have hz : Z = some (n, k) := by rw [HZ.out, numP_eq, ← hR0]; exact if_neg (by rintro (h | h); exact h0 h; exact hk1 h.2)
                subst hz
                have HC := Lib.hid hc
                clear hc hR0
                go_wp2_with fail
                go_quiet (fail)
                go_wp2_with fail
                go_ret
                exact ⟨rfl, H.out.drewN _, HK.out.drewN _⟩
            · have t2 : ((c.toNat : Int) == 48) = false := ne_lit (c := 48) h48
              have hz : Z = some (n, k) := by rw [HZ.out, numP_eq, ← hR0]; exact if_neg (by rintro (h | h); exact h0 h; rw [hc] at h; injection h.1 with h; exact h48 h)
              subst hz
              have HC := Lib.hid hc
              have H48 := Lib.hid h48
              clear hc hR0 h48
              go_wp2_with fail
              go_quiet (fail)
              go_wp2_with fail
              go_ret
              exact ⟨rfl, H.out.drewN _, HK.out.drewN _⟩
end Go.Proofs.YtpiagfmjekcncaaDoor
