/- The walk of the parser's class. -/
import Derived.Test.YtpiagfmjekcncaaDoorjReg
import Derived.Test.YtpiagfmjekcncaaDoorjNum
import Derived.IntWalk
import Derived.Deep.DeepCutAuto
set_option linter.unusedVariables false
set_option linter.unusedSimpArgs false
set_option linter.unusedSectionVars false
namespace Go.Proofs.YtpiagfmjekcncaaDoor
open Go.RowKit
def sV (r : Option (LS × Nat)) : Option (Value × Nat) := r.map fun p => (lsV p.1, p.2)
def ClsRel (T : List UInt8) (w : World) (g f0 : Nat) (R : Option Nat) (f : Nat) (wr : World) : Prop :=
  ∃ k : Nat, PS T wr g k ∧ f0 ≤ k ∧ T.length - k < f ∧ Hid (endP T f k = R) ∧ LBlk wr w.heap.size noneS ∧ Kept (isG g) w wr
theorem LBlk.kept {F : Nat → Prop} {w w' : World} {g : Nat} {S : LS} (h : LBlk w g S) (k : Kept F w w') (hg : ¬ F g) : LBlk w' g S := Blk.kept h k hg
theorem LBlk.drewN {w : World} {g : Nat} {S : LS} (h : LBlk w g S) (n : Nat) : LBlk (w.drewN n) g S := h
theorem endP_step {T : List UInt8} {f k : Nat} {b : UInt8} (hb : T[k]? = some b) : endP T (f + 1) k = if b = 93 then some (k + 1) else if b = 92 then (match T[k + 1]? with
        | none => none
        | some _ => endP T f (k + 2))
      else endP T f (k + 1) := by
  rw [endP, hb]
  rfl
theorem endP_none {T : List UInt8} {f k : Nat} (hb : T[k]? = none) : endP T (f + 1) k = none := by rw [endP, hb]
def clsS (nb : Bool) (e : Nat) (r : Option LS) : Option (LS × Nat) := match r with
  | none => none
  | some S => some (if nb then notS S else S, e)
def clsZ (T : List UInt8) (f0 : Nat) (nb : Bool) (r : Option Nat) : Option (LS × Nat) := match r with
  | none => none
  | some e => clsS nb e (lsP (e - 1 - f0 + 1) ((T.drop f0).take (e - 1 - f0)) noneS)
theorem PS.far4 {T : List UInt8} {w : World} {g k X : Nat} (h : PS T w g k) (hg : g ≠ X) (u0 u1 u2 u3 : Value) : PS T ((((w.setCell ⟨X, 0, none⟩ u0).setCell ⟨X, 1, none⟩ u1).setCell ⟨X, 2, none⟩ u2).setCell ⟨X, 3, none⟩ u3) g k :=
  ⟨(((h.1.far (p := ⟨X, 0, none⟩) hg u0).far (p := ⟨X, 1, none⟩) hg u1).far (p := ⟨X, 2, none⟩) hg u2).far (p := ⟨X, 3, none⟩) hg u3, h.2⟩
/-- Behind letterset.Parse: the set's block, the error. -/
def ClsCut (T : List UInt8) (w : World) (g k : Nat) (S : LS) (er : Value) (a b : Value) (wc : World) : Prop :=
  ∃ X, a = .pointer (some ⟨X, 0, none⟩) ∧ b = er ∧ PS T wc g (k + 1) ∧ LBlk wc w.heap.size noneS ∧ LBlk wc X S ∧ Kept (isG g) w wc ∧ w.heap.size < X
theorem clsA {T : List UInt8} {w w2 w3 : World} {g k : Nat} {S : LS} {er : Value} (hp : PS T w2 g (k + 1)) (hL : LBlk w2 w.heap.size noneS) (hK : Kept (isG g) w w2) (hb : Below w2.drew.heap.size w2.drew w3) :
    ClsCut T w g k S er (.pointer (some ⟨w3.heap.size, 0, none⟩)) er (w3.alloc (.cells #[.int .u64 (wd S 0), .int .u64 (wd S 1), .int .u64 (wd S 2), .int .u64 (wd S 3)] 24)) :=
  ⟨_, rfl, rfl, (PS.kept hp.drew (Kept.of_below (F := fun _ => False) hb) id).alloc _, (LBlk.below (LBlk.drewN hL 1) hb (Blk.lt hL)).alloc _, LBlk.mk _ S _ rfl,
    (hK.drew.then_ (Kept.of_below hb)).alloc _, Nat.lt_of_lt_of_le (Blk.lt hL) hb.size⟩
theorem clsB {T : List UInt8} {w w2 w3 : World} {g k : Nat} {S : LS} {er : Value} (hp : PS T w2 g (k + 1)) (hL : LBlk w2 w.heap.size noneS) (hK : Kept (isG g) w w2)
    (hb : Below (w2.alloc (.cells #[.int .u64 0, .int .u64 0, .int .u64 0, .int .u64 0] 24)).drew.heap.size (w2.alloc (.cells #[.int .u64 0, .int .u64 0, .int .u64 0, .int .u64 0] 24)).drew w3) :
    ClsCut T w g k S er (.pointer (some ⟨w2.heap.size, 0, none⟩)) er ((((w3.setCell ⟨w2.heap.size, 0, none⟩ (.int .u64 (wd S 0))).setCell ⟨w2.heap.size, 1, none⟩ (.int .u64 (wd S 1))).setCell ⟨w2.heap.size, 2, none⟩ (.int .u64 (wd S 2))).setCell ⟨w2.heap.size, 3, none⟩ (.int .u64 (wd S 3))) := by
  have hg := hp.lt
  have hl : w.heap.size < w2.heap.size := Blk.lt hL
  have hs : w2.heap.size < w3.heap.size := by have := hb.size; simp at this; omega
  have h0 : LBlk w3 w2.heap.size noneS := LBlk.below (LBlk.drewN (LBlk.mk0 w2 _ rfl) 1) hb (by simp)
  have h1 : PS T w3 g (k + 1) := PS.kept (hp.alloc _).drew (Kept.of_below (F := fun _ => False) hb) id
  have h2 : LBlk w3 w.heap.size noneS := LBlk.below (LBlk.drewN (hL.alloc _) 1) hb (by simp; omega)
  have h3 : Kept (isG g) w w3 := (hK.alloc _).drew.then_ (Kept.of_below hb)
  have hsz := h3.size
  have hwl : w.heap.size ≤ w2.heap.size := hK.size
  exact ⟨_, rfl, rfl, ⟨(((h1.1.far (by show g ≠ w2.heap.size; omega) _).far (by show g ≠ w2.heap.size; omega) _).far (by show g ≠ w2.heap.size; omega) _).far (by show g ≠ w2.heap.size; omega) _, h1.2⟩,
    (((h2.far (by show w.heap.size ≠ w2.heap.size; omega) _).far (by show w.heap.size ≠ w2.heap.size; omega) _).far (by show w.heap.size ≠ w2.heap.size; omega) _).far (by show w.heap.size ≠ w2.heap.size; omega) _, h0.all S,
    (((h3.setCell (p := ⟨w2.heap.size, 0, none⟩) (.inr hwl) _).setCell (p := ⟨w2.heap.size, 1, none⟩) (.inr hwl) _).setCell (p := ⟨w2.heap.size, 2, none⟩) (.inr hwl) _).setCell (p := ⟨w2.heap.size, 3, none⟩) (.inr hwl) _, hl⟩
set_option maxHeartbeats 4000000 in
theorem class_gen {T : List UInt8} {g k0 f0 : Nat} {nb : Bool} (w : World) (h : PS T w g k0) (hS : ∀ w1, PS T w1 g k0 → Calls Tryd.prog 33 #[.pointer (some ⟨g, 0, none⟩), .int .u8 94] w1 (PStep T w1 g (.bool nb) f0))
    (hf0 : f0 ≤ T.length) (Z : Option (LS × Nat)) (R : Option Nat) (hR : R = endP T (T.length + 1) f0) (hZ : Z = clsZ T f0 nb R) : Calls Tryd.prog 62 #[.pointer (some ⟨g, 0, none⟩)] w (PRes T w g (sV Z)) := by
  have HZ := Lib.hid hZ
  have HR := Lib.hid hR
  have hsz : (ByteArray.mk T.toArray).size = T.length := by simp [ByteArray.size]
  have hT := h.2.2
  have hg := h.lt
  have HS := Lib.hid (hS _ (h.alloc (.cells #[.int .u64 0, .int .u64 0, .int .u64 0, .int .u64 0] 24)))
  have HK0 := Lib.hid ((Kept.refl (isG g) w).alloc (.cells #[.int .u64 0, .int .u64 0, .int .u64 0, .int .u64 0] 24))
  have HL0 := Lib.hid (LBlk.mk0 w w.heap.size rfl)
  clear hZ hR h hS
  go_enter Tryd.func62, Tryd.ntmps62
  go_wp2_with fail
  refine HS.out.mono ?_
  rintro e w1 ⟨rfl, hp1, hk1⟩
  have hne : ¬ isG g w.heap.size := fun e => absurd hg (by rw [show g = w.heap.size from e.symm]; omega)
  have hL1 : LBlk w1 w.heap.size noneS := HL0.out.kept hk1 hne
  have hK1 := HK0.out.then_ hk1
  obtain ⟨c0, c1, q1⟩ := hp1.cells
  clear HS HK0 HL0 hk1
  go_wp2_with fail
  go_loopg [] (T.length + 1) (fun f wr => ClsRel T w g f0 R f wr)
  case atStart => exact ⟨f0, hp1, by omega, by omega, HR.out.symm, hL1, hK1⟩
  case round =>
    clear c0 c1 q1 hp1 hL1 hK1
    obtain ⟨k, hp, h1, h2, hP, hL, hK⟩ := hrel
    obtain ⟨f, rfl⟩ : ∃ f, gk = f + 1 := ⟨gk - 1, by omega⟩
    have hP2 := hP.out
    clear hP
    rcases hb : T[k]? with _ | b
    · rw [endP_none hb] at hP2
      subst hP2
      have hz : Z = none := HZ.out
      subst hz
      have HN := Lib.hid (next_none wr hp hb)
      clear hb
      go_wp2_with fail
      refine HN.out.mono ?_
      rintro e w2 ⟨rfl, hp2, hk2⟩
      go_wp2_with fail
      exact ⟨rfl, rfl, hp2, hK.then_ hk2⟩
    · have HN := Lib.hid (next_some wr hp hb)
      have hl := at_lt hb
      have hix := idxT (P := Tryd.prog) Tryd.underlying9 hb
      rw [endP_step hb] at hP2
      clear hb
      by_cases h93 : b = 93
      · rw [if_pos h93] at hP2
        subst h93
        rw [show ((93 : UInt8).toNat : Int) = 93 from rfl] at HN hix
        subst hP2
        have hz : Z = clsS nb (k + 1) (lsP (k - f0 + 1) ((T.drop f0).take (k - f0)) noneS) := HZ.out
        have HZ := Lib.hid hz
        clear hz
        go_wp2_with fail
        refine HN.out.mono ?_
        rintro e w2 ⟨rfl, hp2, hk2⟩
        have hL2 := hL.kept hk2 hne
        have hK2 := hK.then_ hk2
        obtain ⟨c0, c1, q1⟩ := hp2.cells
        have hsl := sliceT2 T f0 k h1 (by omega)
        clear hp hL hK HN hk2
        have hC := lsparse_any ((T.drop f0).take (k - f0))
        have hlen : ((T.drop f0).take (k - f0)).length = k - f0 := by rw [List.length_take, List.length_drop]; omega
        rw [hlen] at hC
        have hC := fun w => hC w (by omega)
        clear hlen
        obtain ⟨S, er, hC, hcase⟩ : ∃ S er, (∀ w, Calls Tryd.prog 74 #[.string ⟨((T.drop f0).take (k - f0)).toArray⟩] w fun e w' => e = .returned (.tuple #[.agg #[.int .u64 (wd S 0), .int .u64 (wd S 1), .int .u64 (wd S 2), .int .u64 (wd S 3)], er]) ∧ Below w.heap.size w w') ∧
            Hid ((er = .nilIface ∧ Z = some (if nb then notS S else S, k + 1)) ∨ (er = formE ∧ Z = none)) := by
          rcases hls : lsP (k - f0 + 1) ((T.drop f0).take (k - f0)) noneS with _ | S
          · rw [hls] at hC
            exact ⟨noneS, formE, hC, .inr ⟨rfl, by rw [HZ.out, hls]; rfl⟩⟩
          · rw [hls] at hC
            exact ⟨S, .nilIface, hC, .inl ⟨rfl, by rw [HZ.out, hls]; rfl⟩⟩
        have hg2 : g < w2.heap.size := hp2.lt
        have hw1 : IntKind.i64.wrap ((k : Int) + 1 - 1) = (k : Int) := by rw [Int.add_sub_cancel]; exact IntWalk.i64_in _ (by omega)
        have hw2 : IntKind.i64.wrap (((k + 1 : Nat) : Int) - 1) = (k : Int) := hw1
        have hw3 : IntKind.i64.wrap (k : Int) = (k : Int) := IntWalk.i64_in _ (by omega)
        go_wp2_with fail
        go_cut [5, 6] (fun a b wc => ClsCut T w g k S er a b wc)
        case first =>
          go_region_with ((go_at_call 74; refine (hC _).mono ?_; rintro e w3 ⟨rfl, hb3⟩; try (have kz := LBlk.below (LBlk.mk0 w2.drew w2.heap.size rfl) hb3 (by simp); obtain ⟨⟨z0, z1⟩, z2, z3⟩ := kz.cells; obtain ⟨⟨y0, y1⟩, y2, y3⟩ := kz.free)))
          all_goals
            go_wp2_with fail
            go_meet
            case rel => first | ((with_reducible have hz := clsA (S := S) (er := er) hp2 hL2 hK2 hb3); exact hz) | ((with_reducible have hz := clsB (S := S) (er := er) hp2 hL2 hK2 hb3); exact hz)
        case rest =>
          clear c0 c1 q1 hw1 hw2 hw3 hC hsl hix hp2 hL2 hK2
          obtain ⟨X, rfl, rfl, hpc, hLc, hXc, hKc, hlt⟩ := hcut
          obtain ⟨⟨c0, c1⟩, c2, c3⟩ := hXc.cells
          obtain ⟨⟨r0, r1⟩, r2, r3⟩ := hLc.cells
          obtain ⟨⟨f0', f1'⟩, f2', f3'⟩ := hLc.free
          rcases hcase.out with ⟨rfl, rfl⟩ | ⟨rfl, rfl⟩
          · cases nb with
            | false =>
              have HZ1 := Lib.hid (hLc.all S)
              have HZ2 := Lib.hid (hpc.far4 (X := w.heap.size) (by omega) (.int .u64 (wd S 0)) (.int .u64 (wd S 1)) (.int .u64 (wd S 2)) (.int .u64 (wd S 3)))
              have HZ3 := Lib.hid ((((hKc.setCell (p := ⟨w.heap.size, 0, none⟩) (.inr (Nat.le_refl _)) (.int .u64 (wd S 0))).setCell (p := ⟨w.heap.size, 1, none⟩) (.inr (Nat.le_refl _)) (.int .u64 (wd S 1))).setCell (p := ⟨w.heap.size, 2, none⟩) (.inr (Nat.le_refl _)) (.int .u64 (wd S 2))).setCell (p := ⟨w.heap.size, 3, none⟩) (.inr (Nat.le_refl _)) (.int .u64 (wd S 3)))
              clear hLc hpc hKc hXc
              go_wp2_with fail
              obtain ⟨⟨d0, d1⟩, d2, d3⟩ := HZ1.out.cells
              refine bodyPost_ret (v := lsV S) (by simp [results, Tryd.results62, go_sem, d0, d1, d2, d3, lsV, lsC, wds]) rfl ?_
              exact ⟨rfl, HZ2.out, HZ3.out⟩
            | true =>
              go_wp2_with fail
              refine (not_any S wc).mono ?_
              rintro e w4 ⟨he, hb4⟩
              rw [lsV_eq] at he
              subst he
              have hL4 : LBlk w4 w.heap.size noneS := hLc.below hb4 (Blk.lt hLc)
              have hp4 : PS T w4 g (k + 1) := PS.kept hpc (Kept.of_below (F := fun _ => False) hb4) id
              have hK4 : Kept (isG g) w w4 := hKc.then_ (Kept.of_below hb4)
              clear c0 c1 c2 c3 r0 r1 r2 r3 f0' f1' f2' f3'
              obtain ⟨⟨r0, r1⟩, r2, r3⟩ := hL4.cells
              obtain ⟨⟨f0', f1'⟩, f2', f3'⟩ := hL4.free
              have HZ1 := Lib.hid (hL4.all (notS S))
              have HZ2 := Lib.hid (hp4.far4 (X := w.heap.size) (by omega) (.int .u64 (wd (notS S) 0)) (.int .u64 (wd (notS S) 1)) (.int .u64 (wd (notS S) 2)) (.int .u64 (wd (notS S) 3)))
              have HZ3 := Lib.hid ((((hK4.setCell (p := ⟨w.heap.size, 0, none⟩) (.inr (Nat.le_refl _)) (.int .u64 (wd (notS S) 0))).setCell (p := ⟨w.heap.size, 1, none⟩) (.inr (Nat.le_refl _)) (.int .u64 (wd (notS S) 1))).setCell (p := ⟨w.heap.size, 2, none⟩) (.inr (Nat.le_refl _)) (.int .u64 (wd (notS S) 2))).setCell (p := ⟨w.heap.size, 3, none⟩) (.inr (Nat.le_refl _)) (.int .u64 (wd (notS S) 3)))
              clear hLc hpc hKc hXc hL4 hp4 hK4 hb4
              go_wp2_with fail
              obtain ⟨⟨d0, d1⟩, d2, d3⟩ := HZ1.out.cells
              refine bodyPost_ret (v := lsV (notS S)) (by simp [results, Tryd.results62, go_sem, d0, d1, d2, d3, lsV, lsC, wds]) rfl ?_
              exact ⟨rfl, HZ2.out, HZ3.out⟩
          · unfold formE
            go_wp2_with fail
            exact ⟨rfl, rfl, ⟨_, hpc⟩, hKc⟩
      · rw [if_neg h93] at hP2
        have t1 : ((b.toNat : Int) == 93) = false := ne_lit (c := 93) h93
        have t2 : ((b.toNat : Int) != 93) = true := by simpa using t1
        clear h93
        by_cases h92 : b = 92
        · rw [if_pos h92] at hP2
          subst h92
          rw [show ((92 : UInt8).toNat : Int) = 92 from rfl] at HN hix t1 t2
          rcases hc : T[k + 1]? with _ | c
          · rw [hc] at hP2
            subst hP2
            have hz : Z = none := HZ.out
            subst hz
            go_wp2_with fail
            refine HN.out.mono ?_
            rintro e w2 ⟨rfl, hp2, hk2⟩
            obtain ⟨c0, c1, q1⟩ := hp2.cells
            have HN2 := Lib.hid fun n => next_none (w2.drewN n) (hp2.drewN n) hc
            have HP := Lib.hid hp2
            have HC := Lib.hid hc
            clear hc hp2
            go_wp2_with fail
            go_quiet (fail)
            go_wp2_with fail
            refine (HN2.out _).mono ?_
            rintro e w3 ⟨rfl, hp3, hk3⟩
            go_wp2_with fail
            exact ⟨rfl, rfl, hp3, ((hK.then_ hk2).drewN _).then_ hk3⟩
          · rw [hc] at hP2
            have HP2 := Lib.hid hP2
            clear hP2
            have hl1 := at_lt hc
            go_wp2_with fail
            refine HN.out.mono ?_
            rintro e w2 ⟨rfl, hp2, hk2⟩
            obtain ⟨c0, c1, q1⟩ := hp2.cells
            have HN2 := Lib.hid fun n => next_some (w2.drewN n) (hp2.drewN n) hc
            have HC := Lib.hid hc
            have HP := Lib.hid hp2
            clear hc hp2
            go_wp2_with fail
            go_quiet (fail)
            go_wp2_with fail
            refine (HN2.out _).mono ?_
            rintro e w3 ⟨rfl, hp3, hk3⟩
            go_wp2_with fail
            go_roundg f
            case measure => omega
            case rel => exact ⟨k + 2, hp3, by omega, by omega, HP2.out, ((hL.kept hk2 hne).drewN _).kept hk3 hne, ((hK.then_ hk2).drewN _).then_ hk3⟩
        · rw [if_neg h92] at hP2
          have t3 : ((b.toNat : Int) == 92) = false := ne_lit (c := 92) h92
          have HP2 := Lib.hid hP2
          clear hP2 h92
          go_wp2_with fail
          refine HN.out.mono ?_
          rintro e w2 ⟨rfl, hp2, hk2⟩
          obtain ⟨c0, c1, q1⟩ := hp2.cells
          have HP := Lib.hid hp2
          clear hp2
          go_wp2_with fail
          go_quiet (fail)
          go_wp2_with fail
          go_roundg f
          case measure => omega
          case rel => exact ⟨k + 1, HP.out.drewN _, by omega, by omega, HP2, (hL.kept hk2 hne).drewN _, (hK.then_ hk2).drewN _⟩
theorem class_any {T : List UInt8} {g k0 : Nat} (w : World) (h : PS T w g k0) : Calls Tryd.prog 62 #[.pointer (some ⟨g, 0, none⟩)] w (PRes T w g (sV (classP T k0))) := by
  by_cases hn : T[k0]? = some 94
  · refine class_gen (f0 := k0 + 1) (nb := true) w h (fun w1 h1 => skip_yes (b := 94) w1 h1 hn) (by have := at_lt hn; omega) _ _ rfl ?_
    unfold classP
    simp only [if_pos hn]
    rcases endP T (T.length + 1) (k0 + 1) with _ | e
    · rfl
    · simp only [clsZ]
      rcases lsP (e - 1 - (k0 + 1) + 1) ((T.drop (k0 + 1)).take (e - 1 - (k0 + 1))) noneS with _ | S <;> rfl
  · refine class_gen (f0 := k0) (nb := false) w h (fun w1 h1 => skip_no (b := 94) w1 h1 hn) h.2.1 _ _ rfl ?_
    unfold classP
    simp only [if_neg hn]
    rcases endP T (T.length + 1) k0 with _ | e
    · rfl
    · simp only [clsZ]
      rcases lsP (e - 1 - k0 + 1) ((T.drop k0).take (e - 1 - k0)) noneS with _ | S <;> rfl
end Go.Proofs.YtpiagfmjekcncaaDoor
