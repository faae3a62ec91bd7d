/- The walks of the document's parser of regular expressions: next, special, number, bounds. -/
import Derived.Test.YtpiagfmjekcncaaDoorjGa
import Derived.Test.YtpiagfmjekcncaaDoorjPar
import Derived.Deep.LoopGhost
import Derived.Deep.DeepCutAuto
set_option linter.unusedVariables false
set_option linter.unusedSimpArgs false
set_option linter.unusedSectionVars false
namespace Go.Proofs.YtpiagfmjekcncaaDoor
open Go.RowKit
/-- The document's parser in block g reads the text T, at place k, with the mark b. -/
def GS (T : List UInt8) (w : World) (g k : Nat) (b : Bool) : Prop := Blk w g 58 #[.string ⟨T.toArray⟩, .int .i64 k, .bool b]
section
variable {T : List UInt8} {w : World} {g k : Nat} {b : Bool}
theorem GS.cells (h : GS T w g k b) : w.cell? ⟨g, 0, none⟩ = some (.string ⟨T.toArray⟩) ∧ w.cell? ⟨g, 1, none⟩ = some (.int .i64 k) ∧ w.cell? ⟨g, 2, none⟩ = some (.bool b) ∧ w.frozen? ⟨g, 1, none⟩ = false ∧ w.frozen? ⟨g, 2, none⟩ = false := by
  have h0 := Blk.cell h 0
  have h1 := Blk.cell h 1
  have h2 := Blk.cell h 2
  simp only [List.getElem?_toArray, List.getElem?_cons_zero, List.getElem?_cons_succ] at h0 h1 h2
  exact ⟨h0, h1, h2, Blk.frozen h 1, Blk.frozen h 2⟩
theorem GS.drewN (h : GS T w g k b) (n : Nat) : GS T (w.drewN n) g k b := h
theorem GS.drew (h : GS T w g k b) : GS T w.drew g k b := h
theorem GS.go (h : GS T w g k b) (k' : Nat) : GS T (w.setCell ⟨g, 1, none⟩ (.int .i64 k')) g k' b := Blk.set_ h 1 _
theorem GS.mark (h : GS T w g k b) (b' : Bool) : GS T (w.setCell ⟨g, 2, none⟩ (.bool b')) g k b' := Blk.set_ h 2 _
theorem GS.kept {F : Nat → Prop} {w' : World} (h : GS T w g k b) (hk : Kept F w w') (hg : ¬ F g) : GS T w' g k b := Blk.kept h hk hg
theorem GS.alloc (h : GS T w g k b) (o : Obj) : GS T (w.alloc o) g k b := Blk.alloc h o
theorem GS.lt (h : GS T w g k b) : g < w.heap.size := Blk.lt h
end
theorem drewN_two (w : World) (a b : Nat) : (w.drewN a).drewN b = w.drewN (a + b) := by
  unfold World.drewN
  simp [Nat.add_assoc]
/-- The next byte is read; nothing turns. -/
theorem gnext_any {T : List UInt8} {g k : Nat} {b : Bool} (w : World) (h : GS T w g k b) (hT : T.length ≤ 262144) (hk : k ≤ 1000000) : Calls Tryd.prog 36 #[.pointer (some ⟨g, 0, none⟩)] w fun e w' => e = .returned (.tuple #[.int .u8 (Gr.nx T k).toNat, .bool (decide (k < T.length))]) ∧ ∃ n, w' = w.drewN n := by
  obtain ⟨c0, c1, _, _, _⟩ := h.cells
  have hsz : (ByteArray.mk T.toArray).size = T.length := by simp [ByteArray.size]
  rcases hc : T[k]? with _ | c
  · have hl : T.length ≤ k := List.getElem?_eq_none_iff.1 hc
    have e1 : decide (k < T.length) = false := by simp; omega
    have e2 : Gr.nx T k = 0 := by unfold Gr.nx; rw [hc]
    have e3 : decide ((T.length : Int) ≤ (k : Int)) = true := by simp; omega
    rw [e1, e2]
    clear h hc e1 e2
    go_enter Tryd.func36, Tryd.ntmps36
    go_wp2_with fail
    go_quiet (fail)
    go_wp2_with fail
    go_ret2
    exact ⟨rfl, _, rfl⟩
  · have hl := at_lt hc
    have e1 : decide (k < T.length) = true := by simp; omega
    have e2 : Gr.nx T k = c := gr_nx_at hc
    have e3 : decide ((T.length : Int) ≤ (k : Int)) = false := by simp; omega
    have hix := idxT (P := Tryd.prog) Tryd.underlying9 hc
    rw [e1, e2]
    clear h hc e1 e2
    go_enter Tryd.func36, Tryd.ntmps36
    go_wp2_with fail
    go_quiet (fail)
    go_wp2_with fail
    go_quiet (fail)
    go_wp2_with fail
    go_ret2
    exact ⟨rfl, _, drewN_two _ _ _⟩
theorem u8_eq_int {b c : UInt8} : ((b.toNat : Int) == (c.toNat : Int)) = (b == c) := by
  rw [Bool.eq_iff_iff]
  simp only [beq_iff_eq]
  constructor
  · intro h; exact UInt8.toNat_inj.1 (by omega)
  · intro h; rw [h]
set_option maxRecDepth 100000 in
theorem gspecial_any (b : UInt8) (w : World) : Calls Tryd.prog 79 #[.int .u8 b.toNat] w fun e w' => e = .returned (.bool (specials.contains b)) ∧ w = w' := by
  obtain ⟨r, hr⟩ : ∃ r, r = specials.contains b := ⟨_, rfl⟩
  rw [← hr]
  obtain ⟨S, hS⟩ : ∃ S : List UInt8, S = specials := ⟨_, rfl⟩
  have hlen : S.length = 12 := by rw [hS]; rfl
  have hidx := fun (i : Nat) (c : UInt8) (h : S[i]? = some c) => idxT (P := Tryd.prog) Tryd.underlying9 h
  rw [hS] at hidx
  unfold specials at hidx
  have HIDX := Lib.hid hidx
  rw [← hS] at hr
  have HR := Lib.hid hr
  have HLEN := Lib.hid hlen
  obtain ⟨hx0, hx1⟩ := u8b b
  rw [← show S = [92, 46, 91, 93, 40, 41, 123, 125, 124, 42, 43, 63] from hS] at HIDX
  have HSS := Lib.hid (show S = [92, 46, 91, 93, 40, 41, 123, 125, 124, 42, 43, 63] from hS)
  clear hr hS hlen hidx
  go_enter Tryd.func79, Tryd.ntmps79
  go_wp2_with fail
  rw [← HSS.out]
  go_loopg [4] 13 (fun f v wr => ∃ i : Nat, v = .int .i64 i ∧ (i + f = 13 ∧ i ≤ 12) ∧ Hid ((S.take i).contains b = false) ∧ wr = w)
  case atStart => exact ⟨0, rfl, ⟨rfl, by omega⟩, Lib.hid rfl, rfl⟩
  case round =>
    obtain ⟨i, rfl, hif, hno, rfl⟩ := hrel
    obtain ⟨f, rfl⟩ : ∃ f, gk = f + 1 := ⟨gk - 1, by omega⟩
    have hsz : (ByteArray.mk S.toArray).size = 12 := by simp [ByteArray.size, HLEN.out]
    rcases hc : S[i]? with _ | c
    · have hl : 12 ≤ i := by have := List.getElem?_eq_none_iff.1 hc; rw [HLEN.out] at this; omega
      have e3 : decide ((i : Int) < 12) = false := by simp; omega
      have hR : r = false := by
        have h1 := hno.out
        rw [List.take_of_length_le (show S.length ≤ i by rw [HLEN.out]; exact hl)] at h1
        rw [HR.out, h1]
      subst hR
      clear hc
      go_wp2_with fail
      go_ret
      exact ⟨rfl, rfl⟩
    · have hl : i < 12 := by have := at_lt hc; rw [HLEN.out] at this; omega
      have e3 : decide ((i : Int) < 12) = true := by simp; omega
      have hix := HIDX.out i c hc
      by_cases hcb : c = b
      · subst hcb
        have e1 : ((c.toNat : Int) == (c.toNat : Int)) = true := by simp
        have hR : r = true := by
          rw [HR.out]
          exact List.contains_iff_mem.2 (List.mem_of_getElem? hc)
        subst hR
        clear hc
        go_wp2_with fail
        go_ret
        exact ⟨rfl, rfl⟩
      · have e1 : ((c.toNat : Int) == (b.toNat : Int)) = false := by rw [u8_eq_int]; exact beq_eq_false_iff_ne.2 hcb
        have HNO := Lib.hid (show (S.take (i + 1)).contains b = false by
          rw [List.take_add_one, hc]
          have h1 := hno.out
          simp only [List.contains_eq_mem, decide_eq_false_iff_not] at h1 ⊢
          rw [List.mem_append]
          rintro (h | h)
          · exact h1 h
          · simp at h; exact hcb h.symm)
        clear hc hno hcb
        go_wp2_with fail
        go_roundg f
        case measure => omega
        case rel => exact ⟨i + 1, by rw [show ((i + 1 : Nat) : Int) = (i : Int) + 1 by omega], ⟨by omega, by omega⟩, HNO, rfl⟩
theorem glit {b c : UInt8} (h : b ≠ c) : ((b.toNat : Int) == (c.toNat : Int)) = false := by rw [u8_eq_int]; exact beq_eq_false_iff_ne.2 h
def GnRel (T : List UInt8) (w : World) (g k0 : Nat) (b0 : Bool) (R : Nat × Nat) (f : Nat) (v : Value) (wr : World) : Prop :=
  ∃ k n : Nat, v = .int .i64 n ∧ Hid (GS T wr g k b0) ∧ k0 ≤ k ∧ k ≤ max k0 T.length ∧ n ≤ 1000 ∧ T.length - k < f ∧ Hid (Gr.numL T f k n = R) ∧ Hid (Kept (isG g) w wr)
theorem gr_numL_step {T : List UInt8} {f k n : Nat} {b : UInt8} (hb : T[k]? = some b) : Gr.numL T (f + 1) k n = if 48 ≤ b ∧ b ≤ 57 then Gr.numL T f (k + 1) (min (10 * n + (b.toNat - 48)) 1000) else (n, k) := by
  rw [Gr.numL, hb]
theorem kept_drewN {F : Nat → Prop} {w w' : World} (h : Kept F w w') (n : Nat) : Kept F w (w'.drewN n) := h.drewN n
set_option maxHeartbeats 4000000 in
theorem gnumber_any {T : List UInt8} {g k0 : Nat} {b0 : Bool} (w : World) (h : GS T w g k0 b0) (hT : T.length ≤ 262144) (hk0 : k0 ≤ 600000) : Calls Tryd.prog 80 #[.pointer (some ⟨g, 0, none⟩)] w fun e w' =>
    e = .returned (.int .i64 (Gr.num T k0 b0).1) ∧ GS T w' g (Gr.num T k0 b0).2.1 (Gr.num T k0 b0).2.2 ∧ Kept (isG g) w w' := by
  obtain ⟨R, hR⟩ : ∃ R, R = Gr.numL T (T.length + 1) k0 0 := ⟨_, rfl⟩
  obtain ⟨Z, hZ⟩ : ∃ Z, Z = Gr.num T k0 b0 := ⟨_, rfl⟩
  rw [← hZ]
  unfold Gr.num at hZ
  rw [← hR] at hZ
  have HZ := Lib.hid hZ
  have HR := Lib.hid hR
  have H0 := Lib.hid h
  obtain ⟨c0, c1, c2, q1, q2⟩ := h.cells
  have hsz : (ByteArray.mk T.toArray).size = T.length := by simp [ByteArray.size]
  clear hR hZ h
  go_enter Tryd.func80, Tryd.ntmps80
  go_wp2_with fail
  go_loopg [4] (T.length + 1) (fun f v wr => GnRel T w g k0 b0 R f v wr)
  case atStart => exact ⟨k0, 0, rfl, H0, by omega, by omega, by omega, by omega, Lib.hid HR.out.symm, Lib.hid (Kept.refl _ _)⟩
  case round =>
    clear c0 c1 c2 q1 q2
    obtain ⟨k, n, rfl, hp, h1, h2, h3, h4, hP, hK⟩ := hrel
    obtain ⟨f, rfl⟩ : ∃ f, gk = f + 1 := ⟨gk - 1, by omega⟩
    obtain ⟨c0, c1, c2, q1, q2⟩ := hp.out.cells
    have hP2 := hP.out
    have HN := Lib.hid (gnext_any wr hp.out hT (by omega))
    clear hP
    go_wp2_with fail
    refine HN.out.mono ?_
    rintro e w1 ⟨rfl, nn, rfl⟩
    clear HN
    obtain ⟨c, hc⟩ : ∃ c, c = Gr.nx T k := ⟨_, rfl⟩
    rw [← hc]
    obtain ⟨hx0, hx1⟩ := u8b c
    have HS1 := Lib.hid (hp.out.drewN nn)
    have HK1 := Lib.hid (hK.out.drewN nn)
    obtain ⟨w1, hw1⟩ : ∃ w1, w1 = wr.drewN nn := ⟨_, rfl⟩
    rw [← hw1] at HS1 HK1 ⊢
    clear hw1 c0 c1 c2 q1 q2
    obtain ⟨c0, c1, c2, q1, q2⟩ := HS1.out.cells
    have hcase : (∃ b, T[k]? = some b ∧ c = b ∧ 48 ≤ (c.toNat : Int) ∧ (c.toNat : Int) ≤ 57) ∨ (R = (n, k) ∧ (¬ (k < T.length) ∨ (k < T.length ∧ (c.toNat : Int) < 48) ∨ (k < T.length ∧ 48 ≤ (c.toNat : Int) ∧ 57 < (c.toNat : Int)))) := by
      rcases hb : T[k]? with _ | b
      · rw [Gr.numL, hb] at hP2
        exact .inr ⟨hP2.symm, .inl (by have := List.getElem?_eq_none_iff.1 hb; omega)⟩
      · have hl := at_lt hb
        rw [gr_nx_at hb] at hc
        subst hc
        rw [gr_numL_step hb] at hP2
        have e48 : (48 ≤ c) ↔ 48 ≤ (c.toNat : Int) := by rw [UInt8.le_iff_toNat_le, show (48 : UInt8).toNat = 48 from rfl]; omega
        have e57 : (c ≤ 57) ↔ (c.toNat : Int) ≤ 57 := by rw [UInt8.le_iff_toNat_le, show (57 : UInt8).toNat = 57 from rfl]; omega
        by_cases hd : 48 ≤ c ∧ c ≤ 57
        · exact .inl ⟨c, rfl, rfl, e48.1 hd.1, e57.1 hd.2⟩
        · rw [if_neg hd] at hP2
          refine .inr ⟨hP2.symm, .inr ?_⟩
          rw [e48, e57] at hd
          by_cases h5 : 48 ≤ (c.toNat : Int)
          · exact .inr ⟨hl, h5, by omega⟩
          · exact .inl ⟨hl, by omega⟩
    rcases hcase with ⟨b, hb, hcb, hd1, hd2⟩ | ⟨hRn, hrest⟩
    · have hl := at_lt hb
      subst hcb
      rw [gr_numL_step hb, if_pos ⟨by rw [UInt8.le_iff_toNat_le, show (48 : UInt8).toNat = 48 from rfl]; omega, by rw [UInt8.le_iff_toNat_le, show (57 : UInt8).toNat = 57 from rfl]; omega⟩] at hP2
      have HP := Lib.hid hP2
      have g0 : decide (k < T.length) = true := by simp; omega
      have g1 : decide ((c.toNat : Int) < 48) = false := by simp; omega
      have g2 : decide (57 < (c.toNat : Int)) = false := by simp; omega
      have HNN : Hid (((min (10 * n + (c.toNat - 48)) 1000 : Nat) : Int) = min (10 * (n : Int) + (c.toNat : Int) - 48) 1000) := Lib.hid (by omega)
      clear hP2 hb hc
      go_wp2_with fail
      all_goals
        go_roundg f
        case measure => omega
        case rel => exact ⟨k + 1, min (10 * n + (c.toNat - 48)) 1000, congrArg (Value.int .i64) (by omega), Lib.hid (by rw [show (k : Int) + 1 = ((k + 1 : Nat) : Int) by omega]; exact HS1.out.go (k + 1)), by omega, by omega, by omega, by omega, HP, Lib.hid (HK1.out.setCell (p := ⟨g, 1, none⟩) (.inl rfl) _)⟩
    · have hZ0 := HZ.out
      rw [hRn] at hZ0
      dsimp only at hZ0
      have HN0 := Lib.hid (fun b : Bool => HS1.out.mark b)
      clear hP2 hRn hc HR HZ H0 hp
      have hfin : ∀ b : Bool, Z = (n, k, b) → Ending.returned (.int .i64 n) = .returned (.int .i64 Z.1) ∧ GS T (w1.setCell ⟨g, 2, none⟩ (.bool b)) g Z.2.1 Z.2.2 ∧ Kept (isG g) w (w1.setCell ⟨g, 2, none⟩ (.bool b)) := fun b hb => by
        rw [hb]
        exact ⟨rfl, HS1.out.mark b, HK1.out.setCell (p := ⟨g, 2, none⟩) (.inl rfl) _⟩
      have HF := Lib.hid hfin
      clear hfin
      have hl0 : k0 ≠ k → k0 < T.length := fun e => by omega
      rcases hrest with h5 | ⟨h5, h6⟩ | ⟨h5, h6, h7⟩
      · have g0 : decide (k < T.length) = false := by simp; omega
        cases b0 with
        | true =>
          have HZZ := Lib.hid (show Z = (n, k, true) by rw [hZ0]; rfl)
          clear hZ0
          go_wp2_with fail
          go_ret
          exact HF.out _ HZZ.out
        | false =>
        by_cases h0 : k = k0
        · have t1 : ((k : Int) == (k0 : Int)) = true := by simp; omega
          have HZZ := Lib.hid (show Z = (n, k, true) by rw [hZ0, decide_eq_true h0]; rfl)
          clear hZ0
          go_wp2_with fail
          go_ret
          exact HF.out _ HZZ.out
        · have t1 : ((k : Int) == (k0 : Int)) = false := by simp; omega
          obtain ⟨d, hd⟩ : ∃ d, T[k0]? = some d := ⟨T[k0]'(hl0 (fun e => h0 e.symm)), List.getElem?_eq_getElem _⟩
          have hix := idxT (P := Tryd.prog) Tryd.underlying9 hd
          have hkl := at_lt hd
          by_cases hk1 : k0 + 1 < k
          · have t2 : decide ((k0 : Int) + 1 < (k : Int)) = true := by simp; omega
            by_cases h48 : d = 48
            · have t3 : ((d.toNat : Int) == 48) = true := by rw [h48]; rfl
              have HZZ := Lib.hid (show Z = (n, k, true) by rw [hZ0, decide_eq_false h0, decide_eq_true hk1, hd, h48]; rfl)
              clear hZ0 hd h48
              go_wp2_with fail
              go_ret
              exact HF.out _ HZZ.out
            · have t3 : ((d.toNat : Int) == 48) = false := glit (c := 48) h48
              have HZZ := Lib.hid (show Z = (n, k, decide ((64 : Int) < (n : Int))) by rw [show decide ((64 : Int) < (n : Int)) = decide (64 < n) from decide_eq_decide.2 (by omega), hZ0, decide_eq_false h0, decide_eq_true hk1, hd, show (some d == some (48 : UInt8)) = false from beq_eq_false_iff_ne.2 (fun e => h48 (by injection e))]; rfl)
              clear hZ0 hd h48
              go_wp2_with fail
              go_ret
              exact HF.out _ HZZ.out
          · have t2 : decide ((k0 : Int) + 1 < (k : Int)) = false := by simp; omega
            have HZZ := Lib.hid (show Z = (n, k, decide ((64 : Int) < (n : Int))) by rw [show decide ((64 : Int) < (n : Int)) = decide (64 < n) from decide_eq_decide.2 (by omega), hZ0, decide_eq_false h0, decide_eq_false hk1]; rfl)
            clear hZ0 hd
            go_wp2_with fail
            go_ret
            exact HF.out _ HZZ.out
      · have g0 : decide (k < T.length) = true := by simp; omega
        have g1 : decide ((c.toNat : Int) < 48) = true := by simp; omega
        cases b0 with
        | true =>
          have HZZ := Lib.hid (show Z = (n, k, true) by rw [hZ0]; rfl)
          clear hZ0
          go_wp2_with fail
          go_ret
          exact HF.out _ HZZ.out
        | false =>
        by_cases h0 : k = k0
        · have t1 : ((k : Int) == (k0 : Int)) = true := by simp; omega
          have HZZ := Lib.hid (show Z = (n, k, true) by rw [hZ0, decide_eq_true h0]; rfl)
          clear hZ0
          go_wp2_with fail
          go_ret
          exact HF.out _ HZZ.out
        · have t1 : ((k : Int) == (k0 : Int)) = false := by simp; omega
          obtain ⟨d, hd⟩ : ∃ d, T[k0]? = some d := ⟨T[k0]'(hl0 (fun e => h0 e.symm)), List.getElem?_eq_getElem _⟩
          have hix := idxT (P := Tryd.prog) Tryd.underlying9 hd
          have hkl := at_lt hd
          by_cases hk1 : k0 + 1 < k
          · have t2 : decide ((k0 : Int) + 1 < (k : Int)) = true := by simp; omega
            by_cases h48 : d = 48
            · have t3 : ((d.toNat : Int) == 48) = true := by rw [h48]; rfl
              have HZZ := Lib.hid (show Z = (n, k, true) by rw [hZ0, decide_eq_false h0, decide_eq_true hk1, hd, h48]; rfl)
              clear hZ0 hd h48
              go_wp2_with fail
              go_ret
              exact HF.out _ HZZ.out
            · have t3 : ((d.toNat : Int) == 48) = false := glit (c := 48) h48
              have HZZ := Lib.hid (show Z = (n, k, decide ((64 : Int) < (n : Int))) by rw [show decide ((64 : Int) < (n : Int)) = decide (64 < n) from decide_eq_decide.2 (by omega), hZ0, decide_eq_false h0, decide_eq_true hk1, hd, show (some d == some (48 : UInt8)) = false from beq_eq_false_iff_ne.2 (fun e => h48 (by injection e))]; rfl)
              clear hZ0 hd h48
              go_wp2_with fail
              go_ret
              exact HF.out _ HZZ.out
          · have t2 : decide ((k0 : Int) + 1 < (k : Int)) = false := by simp; omega
            have HZZ := Lib.hid (show Z = (n, k, decide ((64 : Int) < (n : Int))) by rw [show decide ((64 : Int) < (n : Int)) = decide (64 < n) from decide_eq_decide.2 (by omega), hZ0, decide_eq_false h0, decide_eq_false hk1]; rfl)
            clear hZ0 hd
            go_wp2_with fail
            go_ret
            exact HF.out _ HZZ.out
      · have g0 : decide (k < T.length) = true := by simp; omega
        have g1 : decide ((c.toNat : Int) < 48) = false := by simp; omega
        have g2 : decide (57 < (c.toNat : Int)) = true := by simp; omega
        cases b0 with
        | true =>
          have HZZ := Lib.hid (show Z = (n, k, true) by rw [hZ0]; rfl)
          clear hZ0
          go_wp2_with fail
          go_ret
          exact HF.out _ HZZ.out
        | false =>
        by_cases h0 : k = k0
        · have t1 : ((k : Int) == (k0 : Int)) = true := by simp; omega
          have HZZ := Lib.hid (show Z = (n, k, true) by rw [hZ0, decide_eq_true h0]; rfl)
          clear hZ0
          go_wp2_with fail
          go_ret
          exact HF.out _ HZZ.out
        · have t1 : ((k : Int) == (k0 : Int)) = false := by simp; omega
          obtain ⟨d, hd⟩ : ∃ d, T[k0]? = some d := ⟨T[k0]'(hl0 (fun e => h0 e.symm)), List.getElem?_eq_getElem _⟩
          have hix := idxT (P := Tryd.prog) Tryd.underlying9 hd
          have hkl := at_lt hd
          by_cases hk1 : k0 + 1 < k
          · have t2 : decide ((k0 : Int) + 1 < (k : Int)) = true := by simp; omega
            by_cases h48 : d = 48
            · have t3 : ((d.toNat : Int) == 48) = true := by rw [h48]; rfl
              have HZZ := Lib.hid (show Z = (n, k, true) by rw [hZ0, decide_eq_false h0, decide_eq_true hk1, hd, h48]; rfl)
              clear hZ0 hd h48
              go_wp2_with fail
              go_ret
              exact HF.out _ HZZ.out
            · have t3 : ((d.toNat : Int) == 48) = false := glit (c := 48) h48
              have HZZ := Lib.hid (show Z = (n, k, decide ((64 : Int) < (n : Int))) by rw [show decide ((64 : Int) < (n : Int)) = decide (64 < n) from decide_eq_decide.2 (by omega), hZ0, decide_eq_false h0, decide_eq_true hk1, hd, show (some d == some (48 : UInt8)) = false from beq_eq_false_iff_ne.2 (fun e => h48 (by injection e))]; rfl)
              clear hZ0 hd h48
              go_wp2_with fail
              go_ret
              exact HF.out _ HZZ.out
          · have t2 : decide ((k0 : Int) + 1 < (k : Int)) = false := by simp; omega
            have HZZ := Lib.hid (show Z = (n, k, decide ((64 : Int) < (n : Int))) by rw [show decide ((64 : Int) < (n : Int)) = decide (64 < n) from decide_eq_decide.2 (by omega), hZ0, decide_eq_false h0, decide_eq_false hk1]; rfl)
            clear hZ0 hd
            go_wp2_with fail
            go_ret
            exact HF.out _ HZZ.out
theorem u8_ne_int {b c : UInt8} : ((b.toNat : Int) != (c.toNat : Int)) = (b != c) := by unfold bne; rw [u8_eq_int]
theorem GS.end {T : List UInt8} {w w0 : World} {g k : Nat} {b : Bool} (h : GS T w g k b) (hk : Kept (isG g) w0 w) (b' : Bool) (k' : Nat) : GS T ((w.setCell ⟨g, 2, none⟩ (.bool b')).setCell ⟨g, 1, none⟩ (.int .i64 k')) g k' b' ∧ Kept (isG g) w0 ((w.setCell ⟨g, 2, none⟩ (.bool b')).setCell ⟨g, 1, none⟩ (.int .i64 k')) :=
  ⟨(h.mark b').go k', (hk.setCell (p := ⟨g, 2, none⟩) (.inl rfl) _).setCell (p := ⟨g, 1, none⟩) (.inl rfl) _⟩
end Go.Proofs.YtpiagfmjekcncaaDoor
