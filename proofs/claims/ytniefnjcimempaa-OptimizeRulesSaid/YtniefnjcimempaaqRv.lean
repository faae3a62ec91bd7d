/- The walk of the parser's class. The walk of the parser's counter. -/
import Derived.Test.YtniefnjcimempaaqRo
import Derived.IntWalk
import Derived.Deep.DeepCutAuto
namespace Go.Proofs.Ytniefnjcimempaa
open Go.RowKit
def sV (r : Option (LS × Nat)) : Option (Value × Nat) := r.map fun p => (lsV p.1, p.2)
def ClsRel (T : List UInt8) (w : World) (g f0 : Nat) (R : Option Nat) (f : Nat) (wr : World) : Prop :=
  ∃ k : Nat, PS T wr g k ∧ f0 ≤ k ∧ T.length - k < f ∧ Hid (endP T f k = R) ∧ LBlk wr w.heap.size noneS ∧ Kept (isG g) w wr
theorem LBlk.kept {F : Nat → Prop} {w w' : World} {g : Nat} {S : LS} (h : LBlk w g S) (k : Kept F w w') (hg : ¬ F g) : LBlk w' g S := Blk.kept h k hg
theorem LBlk.drewN {w : World} {g : Nat} {S : LS} (h : LBlk w g S) (n : Nat) : LBlk (w.drewN n) g S := h
theorem endP_step {T : List UInt8} {f k : Nat} {b : UInt8} (hb : T[k]? = some b) : endP T (f + 1) k = if b = 93 then some (k + 1) else if b = 92 then (match T[k + 1]? with
        | none => none
        | some _ => endP T f (k + 2))
      else endP T f (k + 1) := by
  rw [endP, hb]
  rfl
theorem endP_none {T : List UInt8} {f k : Nat} (hb : T[k]? = none) : endP T (f + 1) k = none := by rw [endP, hb]
def clsS (nb : Bool) (e : Nat) (r : Option LS) : Option (LS × Nat) := match r with
  | none => none
  | some S => some (if nb then notS S else S, e)
def clsZ (T : List UInt8) (f0 : Nat) (nb : Bool) (r : Option Nat) : Option (LS × Nat) := match r with
  | none => none
  | some e => clsS nb e (lsP (e - 1 - f0 + 1) ((T.drop f0).take (e - 1 - f0)) noneS)
theorem PS.far4 {T : List UInt8} {w : World} {g k X : Nat} (h : PS T w g k) (hg : g ≠ X) (u0 u1 u2 u3 : Value) : PS T ((((w.setCell ⟨X, 0, none⟩ u0).setCell ⟨X, 1, none⟩ u1).setCell ⟨X, 2, none⟩ u2).setCell ⟨X, 3, none⟩ u3) g k :=
  ⟨(((h.1.far (p := ⟨X, 0, none⟩) hg u0).far (p := ⟨X, 1, none⟩) hg u1).far (p := ⟨X, 2, none⟩) hg u2).far (p := ⟨X, 3, none⟩) hg u3, h.2⟩
/-- Behind letterset.Parse: the set's block, the error. -/
def ClsCut (T : List UInt8) (w : World) (g k : Nat) (S : LS) (er : Value) (a b : Value) (wc : World) : Prop :=
  ∃ X, a = .pointer (some ⟨X, 0, none⟩) ∧ b = er ∧ PS T wc g (k + 1) ∧ LBlk wc w.heap.size noneS ∧ LBlk wc X S ∧ Kept (isG g) w wc ∧ w.heap.size < X
theorem clsA {T : List UInt8} {w w2 w3 : World} {g k : Nat} {S : LS} {er : Value} (hp : PS T w2 g (k + 1)) (hL : LBlk w2 w.heap.size noneS) (hK : Kept (isG g) w w2) (hb : Below w2.drew.heap.size w2.drew w3) :
    ClsCut T w g k S er (.pointer (some ⟨w3.heap.size, 0, none⟩)) er (w3.alloc (.cells #[.int .u64 (wd S 0), .int .u64 (wd S 1), .int .u64 (wd S 2), .int .u64 (wd S 3)] 105)) :=
  ⟨_, rfl, rfl, (PS.kept hp.drew (Kept.of_below (F := fun _ => False) hb) id).alloc _, (LBlk.below (LBlk.drewN hL 1) hb (Blk.lt hL)).alloc _, LBlk.mk _ S _ rfl,
    (hK.drew.then_ (Kept.of_below hb)).alloc _, Nat.lt_of_lt_of_le (Blk.lt hL) hb.size⟩
theorem clsB {T : List UInt8} {w w2 w3 : World} {g k : Nat} {S : LS} {er : Value} (hp : PS T w2 g (k + 1)) (hL : LBlk w2 w.heap.size noneS) (hK : Kept (isG g) w w2)
    (hb : Below (w2.alloc (.cells #[.int .u64 0, .int .u64 0, .int .u64 0, .int .u64 0] 105)).drew.heap.size (w2.alloc (.cells #[.int .u64 0, .int .u64 0, .int .u64 0, .int .u64 0] 105)).drew w3) :
    ClsCut T w g k S er (.pointer (some ⟨w2.heap.size, 0, none⟩)) er ((((w3.setCell ⟨w2.heap.size, 0, none⟩ (.int .u64 (wd S 0))).setCell ⟨w2.heap.size, 1, none⟩ (.int .u64 (wd S 1))).setCell ⟨w2.heap.size, 2, none⟩ (.int .u64 (wd S 2))).setCell ⟨w2.heap.size, 3, none⟩ (.int .u64 (wd S 3))) := by
  have hg := hp.lt
  have hl : w.heap.size < w2.heap.size := Blk.lt hL
  have hs : w2.heap.size < w3.heap.size := by have := hb.size; simp at this; omega
  have h0 : LBlk w3 w2.heap.size noneS := LBlk.below (LBlk.drewN (LBlk.mk0 w2 _ rfl) 1) hb (by simp)
  have h1 : PS T w3 g (k + 1) := PS.kept (hp.alloc _).drew (Kept.of_below (F := fun _ => False) hb) id
  have h2 : LBlk w3 w.heap.size noneS := LBlk.below (LBlk.drewN (hL.alloc _) 1) hb (by simp; omega)
  have h3 : Kept (isG g) w w3 := (hK.alloc _).drew.then_ (Kept.of_below hb)
  have hsz := h3.size
  have hwl : w.heap.size ≤ w2.heap.size := hK.size
  exact ⟨_, rfl, rfl, ⟨(((h1.1.far (by show g ≠ w2.heap.size; omega) _).far (by show g ≠ w2.heap.size; omega) _).far (by show g ≠ w2.heap.size; omega) _).far (by show g ≠ w2.heap.size; omega) _, h1.2⟩,
    (((h2.far (by show w.heap.size ≠ w2.heap.size; omega) _).far (by show w.heap.size ≠ w2.heap.size; omega) _).far (by show w.heap.size ≠ w2.heap.size; omega) _).far (by show w.heap.size ≠ w2.heap.size; omega) _, h0.all S,
    (((h3.setCell (p := ⟨w2.heap.size, 0, none⟩) (.inr hwl) _).setCell (p := ⟨w2.heap.size, 1, none⟩) (.inr hwl) _).setCell (p := ⟨w2.heap.size, 2, none⟩) (.inr hwl) _).setCell (p := ⟨w2.heap.size, 3, none⟩) (.inr hwl) _, hl⟩
set_option maxHeartbeats 4000000 in
theorem class_gen {T : List UInt8} {g k0 f0 : Nat} {nb : Bool} (w : World) (h : PS T w g k0) (hS : ∀ w1, PS T w1 g k0 → Calls Try.prog 91 #[.pointer (some ⟨g, 0, none⟩), .int .u8 94] w1 (PStep T w1 g (.bool nb) f0))
    (hf0 : f0 ≤ T.length) (Z : Option (LS × Nat)) (R : Option Nat) (hR : R = endP T (T.length + 1) f0) (hZ : Z = clsZ T f0 nb R) : Calls Try.prog 114 #[.pointer (some ⟨g, 0, none⟩)] w (PRes T w g (sV Z)) := by
  have HZ := Lib.hid hZ
  have HR := Lib.hid hR
  have hsz : (ByteArray.mk T.toArray).size = T.length := by simp [ByteArray.size]
  have hT := h.2.2
  have hg := h.lt
  have HS := Lib.hid (hS _ (h.alloc (.cells #[.int .u64 0, .int .u64 0, .int .u64 0, .int .u64 0] 105)))
  have HK0 := Lib.hid ((Kept.refl (isG g) w).alloc (.cells #[.int .u64 0, .int .u64 0, .int .u64 0, .int .u64 0] 105))
  have HL0 := Lib.hid (LBlk.mk0 w w.heap.size rfl)
  clear hZ hR h hS
  go_enter Try.func114, Try.ntmps114
  go_wp2_with fail
  refine HS.out.mono ?_
  rintro e w1 ⟨rfl, hp1, hk1⟩
  have hne : ¬ isG g w.heap.size := fun e => absurd hg (by rw [show g = w.heap.size from e.symm]; omega)
  have hL1 : LBlk w1 w.heap.size noneS := HL0.out.kept hk1 hne
  have hK1 := HK0.out.then_ hk1
  obtain ⟨c0, c1, q1⟩ := hp1.cells
  clear HS HK0 HL0 hk1
  go_wp2_with fail
  go_loopg [] (T.length + 1) (fun f wr => ClsRel T w g f0 R f wr)
  case atStart => exact ⟨f0, hp1, by omega, by omega, HR.out.symm, hL1, hK1⟩
  case round =>
    clear c0 c1 q1 hp1 hL1 hK1
    obtain ⟨k, hp, h1, h2, hP, hL, hK⟩ := hrel
    obtain ⟨f, rfl⟩ : ∃ f, gk = f + 1 := ⟨gk - 1, by omega⟩
    have hP2 := hP.out
    clear hP
    rcases hb : T[k]? with _ | b
    · rw [endP_none hb] at hP2
      subst hP2
      have hz : Z = none := HZ.out
      subst hz
      have HN := Lib.hid (next_none wr hp hb)
      clear hb
      go_wp2_with fail
      refine HN.out.mono ?_
      rintro e w2 ⟨rfl, hp2, hk2⟩
      go_wp2_with fail
      exact ⟨rfl, rfl, hp2, hK.then_ hk2⟩
    · have HN := Lib.hid (next_some wr hp hb)
      have hl := at_lt hb
      have hix := idxT (P := Try.prog) Try.underlying9 hb
      rw [endP_step hb] at hP2
      clear hb
      by_cases h93 : b = 93
      · rw [if_pos h93] at hP2
        subst h93
        rw [show ((93 : UInt8).toNat : Int) = 93 from rfl] at HN hix
        subst hP2
        have hz : Z = clsS nb (k + 1) (lsP (k - f0 + 1) ((T.drop f0).take (k - f0)) noneS) := HZ.out
        have HZ := Lib.hid hz
        clear hz
        go_wp2_with fail
        refine HN.out.mono ?_
        rintro e w2 ⟨rfl, hp2, hk2⟩
        have hL2 := hL.kept hk2 hne
        have hK2 := hK.then_ hk2
        obtain ⟨c0, c1, q1⟩ := hp2.cells
        have hsl := sliceT2 T f0 k h1 (by omega)
        clear hp hL hK HN hk2
        have hC := lsparse_any ((T.drop f0).take (k - f0))
        have hlen : ((T.drop f0).take (k - f0)).length = k - f0 := by rw [List.length_take, List.length_drop]; omega
        rw [hlen] at hC
        have hC := fun w => hC w (by omega)
        clear hlen
        obtain ⟨S, er, hC, hcase⟩ : ∃ S er, (∀ w, Calls Try.prog 124 #[.string ⟨((T.drop f0).take (k - f0)).toArray⟩] w fun e w' => e = .returned (.tuple #[.agg #[.int .u64 (wd S 0), .int .u64 (wd S 1), .int .u64 (wd S 2), .int .u64 (wd S 3)], er]) ∧ Below w.heap.size w w') ∧
            Hid ((er = .nilIface ∧ Z = some (if nb then notS S else S, k + 1)) ∨ (er = formE ∧ Z = none)) := by
          rcases hls : lsP (k - f0 + 1) ((T.drop f0).take (k - f0)) noneS with _ | S
          · rw [hls] at hC
            exact ⟨noneS, formE, hC, .inr ⟨rfl, by rw [HZ.out, hls]; rfl⟩⟩
          · rw [hls] at hC
            exact ⟨S, .nilIface, hC, .inl ⟨rfl, by rw [HZ.out, hls]; rfl⟩⟩
        have hg2 : g < w2.heap.size := hp2.lt
        have hw1 : IntKind.i64.wrap ((k : Int) + 1 - 1) = (k : Int) := by rw [Int.add_sub_cancel]; exact IntWalk.i64_in _ (by omega)
        have hw2 : IntKind.i64.wrap (((k + 1 : Nat) : Int) - 1) = (k : Int) := hw1
        have hw3 : IntKind.i64.wrap (k : Int) = (k : Int) := IntWalk.i64_in _ (by omega)
        go_wp2_with fail
        go_cut [5, 6] (fun a b wc => ClsCut T w g k S er a b wc)
        case first =>
          go_region_with ((go_at_call 124; refine (hC _).mono ?_; rintro e w3 ⟨rfl, hb3⟩; try (have kz := LBlk.below (LBlk.mk0 w2.drew w2.heap.size rfl) hb3 (by simp); obtain ⟨⟨z0, z1⟩, z2, z3⟩ := kz.cells; obtain ⟨⟨y0, y1⟩, y2, y3⟩ := kz.free)))
          all_goals
            go_wp2_with fail
            go_meet
            case rel => first | ((with_reducible have hz := clsA (S := S) (er := er) hp2 hL2 hK2 hb3); exact hz) | ((with_reducible have hz := clsB (S := S) (er := er) hp2 hL2 hK2 hb3); exact hz)
        case rest =>
          clear c0 c1 q1 hw1 hw2 hw3 hC hsl hix hp2 hL2 hK2
          obtain ⟨X, rfl, rfl, hpc, hLc, hXc, hKc, hlt⟩ := hcut
          obtain ⟨⟨c0, c1⟩, c2, c3⟩ := hXc.cells
          obtain ⟨⟨r0, r1⟩, r2, r3⟩ := hLc.cells
          obtain ⟨⟨f0', f1'⟩, f2', f3'⟩ := hLc.free
          rcases hcase.out with ⟨rfl, rfl⟩ | ⟨rfl, rfl⟩
          · cases nb with
            | false =>
              have HZ1 := Lib.hid (hLc.all S)
              have HZ2 := Lib.hid (hpc.far4 (X := w.heap.size) (by omega) (.int .u64 (wd S 0)) (.int .u64 (wd S 1)) (.int .u64 (wd S 2)) (.int .u64 (wd S 3)))
              have HZ3 := Lib.hid ((((hKc.setCell (p := ⟨w.heap.size, 0, none⟩) (.inr (Nat.le_refl _)) (.int .u64 (wd S 0))).setCell (p := ⟨w.heap.size, 1, none⟩) (.inr (Nat.le_refl _)) (.int .u64 (wd S 1))).setCell (p := ⟨w.heap.size, 2, none⟩) (.inr (Nat.le_refl _)) (.int .u64 (wd S 2))).setCell (p := ⟨w.heap.size, 3, none⟩) (.inr (Nat.le_refl _)) (.int .u64 (wd S 3)))
              clear hLc hpc hKc hXc
              go_wp2_with fail
              obtain ⟨⟨d0, d1⟩, d2, d3⟩ := HZ1.out.cells
              refine bodyPost_ret (v := lsV S) (by simp [results, Try.results114, go_sem, d0, d1, d2, d3, lsV, lsC, wds]) rfl ?_
              exact ⟨rfl, HZ2.out, HZ3.out⟩
            | true =>
              go_wp2_with fail
              refine (not_any S wc).mono ?_
              rintro e w4 ⟨he, hb4⟩
              rw [lsV_eq] at he
              subst he
              have hL4 : LBlk w4 w.heap.size noneS := hLc.below hb4 (Blk.lt hLc)
              have hp4 : PS T w4 g (k + 1) := PS.kept hpc (Kept.of_below (F := fun _ => False) hb4) id
              have hK4 : Kept (isG g) w w4 := hKc.then_ (Kept.of_below hb4)
              clear c0 c1 c2 c3 r0 r1 r2 r3 f0' f1' f2' f3'
              obtain ⟨⟨r0, r1⟩, r2, r3⟩ := hL4.cells
              obtain ⟨⟨f0', f1'⟩, f2', f3'⟩ := hL4.free
              have HZ1 := Lib.hid (hL4.all (notS S))
              have HZ2 := Lib.hid (hp4.far4 (X := w.heap.size) (by omega) (.int .u64 (wd (notS S) 0)) (.int .u64 (wd (notS S) 1)) (.int .u64 (wd (notS S) 2)) (.int .u64 (wd (notS S) 3)))
              have HZ3 := Lib.hid ((((hK4.setCell (p := ⟨w.heap.size, 0, none⟩) (.inr (Nat.le_refl _)) (.int .u64 (wd (notS S) 0))).setCell (p := ⟨w.heap.size, 1, none⟩) (.inr (Nat.le_refl _)) (.int .u64 (wd (notS S) 1))).setCell (p := ⟨w.heap.size, 2, none⟩) (.inr (Nat.le_refl _)) (.int .u64 (wd (notS S) 2))).setCell (p := ⟨w.heap.size, 3, none⟩) (.inr (Nat.le_refl _)) (.int .u64 (wd (notS S) 3)))
              clear hLc hpc hKc hXc hL4 hp4 hK4 hb4
              go_wp2_with fail
              obtain ⟨⟨d0, d1⟩, d2, d3⟩ := HZ1.out.cells
              refine bodyPost_ret (v := lsV (notS S)) (by simp [results, Try.results114, go_sem, d0, d1, d2, d3, lsV, lsC, wds]) rfl ?_
              exact ⟨rfl, HZ2.out, HZ3.out⟩
          · unfold formE
            go_wp2_with fail
            exact ⟨rfl, rfl, ⟨_, hpc⟩, hKc⟩
      · rw [if_neg h93] at hP2
        have t1 : ((b.toNat : Int) == 93) = false := ne_lit (c := 93) h93
        have t2 : ((b.toNat : Int) != 93) = true := by simpa using t1
        clear h93
        by_cases h92 : b = 92
        · rw [if_pos h92] at hP2
          subst h92
          rw [show ((92 : UInt8).toNat : Int) = 92 from rfl] at HN hix t1 t2
          rcases hc : T[k + 1]? with _ | c
          · rw [hc] at hP2
            subst hP2
            have hz : Z = none := HZ.out
            subst hz
            go_wp2_with fail
            refine HN.out.mono ?_
            rintro e w2 ⟨rfl, hp2, hk2⟩
            obtain ⟨c0, c1, q1⟩ := hp2.cells
            have HN2 := Lib.hid fun n => next_none (w2.drewN n) (hp2.drewN n) hc
            have HP := Lib.hid hp2
            have HC := Lib.hid hc
            clear hc hp2
            go_wp2_with fail
            go_quiet (fail)
            go_wp2_with fail
            refine (HN2.out _).mono ?_
            rintro e w3 ⟨rfl, hp3, hk3⟩
            go_wp2_with fail
            exact ⟨rfl, rfl, hp3, ((hK.then_ hk2).drewN _).then_ hk3⟩
          · rw [hc] at hP2
            have HP2 := Lib.hid hP2
            clear hP2
            have hl1 := at_lt hc
            go_wp2_with fail
            refine HN.out.mono ?_
            rintro e w2 ⟨rfl, hp2, hk2⟩
            obtain ⟨c0, c1, q1⟩ := hp2.cells
            have HN2 := Lib.hid fun n => next_some (w2.drewN n) (hp2.drewN n) hc
            have HC := Lib.hid hc
            have HP := Lib.hid hp2
            clear hc hp2
            go_wp2_with fail
            go_quiet (fail)
            go_wp2_with fail
            refine (HN2.out _).mono ?_
            rintro e w3 ⟨rfl, hp3, hk3⟩
            go_wp2_with fail
            go_roundg f
            case measure => omega
            case rel => exact ⟨k + 2, hp3, by omega, by omega, HP2.out, ((hL.kept hk2 hne).drewN _).kept hk3 hne, ((hK.then_ hk2).drewN _).then_ hk3⟩
        · rw [if_neg h92] at hP2
          have t3 : ((b.toNat : Int) == 92) = false := ne_lit (c := 92) h92
          have HP2 := Lib.hid hP2
          clear hP2 h92
          go_wp2_with fail
          refine HN.out.mono ?_
          rintro e w2 ⟨rfl, hp2, hk2⟩
          obtain ⟨c0, c1, q1⟩ := hp2.cells
          have HP := Lib.hid hp2
          clear hp2
          go_wp2_with fail
          go_quiet (fail)
          go_wp2_with fail
          go_roundg f
          case measure => omega
          case rel => exact ⟨k + 1, HP.out.drewN _, by omega, by omega, HP2, (hL.kept hk2 hne).drewN _, (hK.then_ hk2).drewN _⟩
theorem class_any {T : List UInt8} {g k0 : Nat} (w : World) (h : PS T w g k0) : Calls Try.prog 114 #[.pointer (some ⟨g, 0, none⟩)] w (PRes T w g (sV (classP T k0))) := by
  by_cases hn : T[k0]? = some 94
  · refine class_gen (f0 := k0 + 1) (nb := true) w h (fun w1 h1 => skip_yes (b := 94) w1 h1 hn) (by have := at_lt hn; omega) _ _ rfl ?_
    unfold classP
    simp only [if_pos hn]
    rcases endP T (T.length + 1) (k0 + 1) with _ | e
    · rfl
    · simp only [clsZ]
      rcases lsP (e - 1 - (k0 + 1) + 1) ((T.drop (k0 + 1)).take (e - 1 - (k0 + 1))) noneS with _ | S <;> rfl
  · refine class_gen (f0 := k0) (nb := false) w h (fun w1 h1 => skip_no (b := 94) w1 h1 hn) h.2.1 _ _ rfl ?_
    unfold classP
    simp only [if_neg hn]
    rcases endP T (T.length + 1) k0 with _ | e
    · rfl
    · simp only [clsZ]
      rcases lsP (e - 1 - k0 + 1) ((T.drop k0).take (e - 1 - k0)) noneS with _ | S <;> rfl
end Go.Proofs.Ytniefnjcimempaa
namespace Go.Proofs.Ytniefnjcimempaa
open Go.RowKit
theorem skY (b : UInt8) (n : Int) (hn : (b.toNat : Int) = n) {T : List UInt8} {g k : Nat} (w : World) (h : PS T w g k) (hb : T[k]? = some b) : Calls Try.prog 91 #[.pointer (some ⟨g, 0, none⟩), .int .u8 n] w (PStep T w g (.bool true) (k + 1)) := by subst hn; exact skip_yes w h hb
theorem skN (b : UInt8) (n : Int) (hn : (b.toNat : Int) = n) {T : List UInt8} {g k : Nat} (w : World) (h : PS T w g k) (hb : ¬ T[k]? = some b) : Calls Try.prog 91 #[.pointer (some ⟨g, 0, none⟩), .int .u8 n] w (PStep T w g (.bool false) k) := by subst hn; exact skip_no w h hb
theorem num_yes {T : List UInt8} {g k n k' : Nat} (w : World) (h : PS T w g k) (hn : numP T k = some (n, k')) : Calls Try.prog 116 #[.pointer (some ⟨g, 0, none⟩)] w (PStep T w g (.int .i64 n) k') := by
  have := number_any w h
  rw [hn] at this
  exact this
theorem num_no {T : List UInt8} {g k : Nat} (w : World) (h : PS T w g k) (hn : numP T k = none) : Calls Try.prog 116 #[.pointer (some ⟨g, 0, none⟩)] w (PFail T w g) := by
  have := number_any w h
  rw [hn] at this
  exact this
def cntV (lo hi : Int) (ok : Bool) : Value := .tuple #[.int .i64 lo, .int .i64 hi, .bool ok]
def cV (r : Option (Option (Int × Int) × Nat)) : Option (Value × Nat) := match r with
  | none => none
  | some (none, k) => some (cntV 0 0 false, k)
  | some (some (lo, hi), k) => some (cntV lo hi true, k)
set_option maxHeartbeats 1000000
theorem cnt_star {T : List UInt8} {g k : Nat} (w : World) (h : PS T w g k) (e42 : T[k]? = some 42) : Calls Try.prog 100 #[.pointer (some ⟨g, 0, none⟩)] w (PStep T w g (cntV 0 (-1) true) (k + 1)) := by
  have E42 := Lib.hid e42
  clear e42
  go_enter Try.func100, Try.ntmps100
  go_wp2_with fail
  refine (skY 42 42 rfl w h E42.out).mono ?_
  rintro e w1 ⟨rfl, hp1, hk1⟩
  go_wp2_with fail
  go_ret3
  exact ⟨rfl, hp1, hk1⟩
theorem cnt_plus {T : List UInt8} {g k : Nat} (w : World) (h : PS T w g k) (n42 : ¬ T[k]? = some 42) (e43 : T[k]? = some 43) : Calls Try.prog 100 #[.pointer (some ⟨g, 0, none⟩)] w (PStep T w g (cntV 1 (-1) true) (k + 1)) := by
  have E43 := Lib.hid e43
  have N42 := Lib.hid n42
  clear e43 n42
  go_enter Try.func100, Try.ntmps100
  go_wp2_with fail
  refine (skN 42 42 rfl w h N42.out).mono ?_
  rintro e w2 ⟨rfl, hp2, hk2⟩
  go_wp2_with fail
  refine (skY 43 43 rfl w2 hp2 E43.out).mono ?_
  rintro e w3 ⟨rfl, hp3, hk3⟩
  go_wp2_with fail
  go_ret3
  exact ⟨rfl, hp3, (hk2).then_ hk3⟩
theorem cnt_opt {T : List UInt8} {g k : Nat} (w : World) (h : PS T w g k) (n42 : ¬ T[k]? = some 42) (n43 : ¬ T[k]? = some 43) (e63 : T[k]? = some 63) : Calls Try.prog 100 #[.pointer (some ⟨g, 0, none⟩)] w (PStep T w g (cntV 0 1 true) (k + 1)) := by
  have E63 := Lib.hid e63
  have N42 := Lib.hid n42
  have N43 := Lib.hid n43
  clear e63 n42 n43
  go_enter Try.func100, Try.ntmps100
  go_wp2_with fail
  refine (skN 42 42 rfl w h N42.out).mono ?_
  rintro e w4 ⟨rfl, hp4, hk4⟩
  go_wp2_with fail
  refine (skN 43 43 rfl w4 hp4 N43.out).mono ?_
  rintro e w5 ⟨rfl, hp5, hk5⟩
  go_wp2_with fail
  refine (skY 63 63 rfl w5 hp5 E63.out).mono ?_
  rintro e w6 ⟨rfl, hp6, hk6⟩
  go_wp2_with fail
  go_ret3
  exact ⟨rfl, hp6, ((hk4).then_ hk5).then_ hk6⟩
theorem cnt_not {T : List UInt8} {g k : Nat} (w : World) (h : PS T w g k) (n42 : ¬ T[k]? = some 42) (n43 : ¬ T[k]? = some 43) (n63 : ¬ T[k]? = some 63) (n123 : ¬ T[k]? = some 123) : Calls Try.prog 100 #[.pointer (some ⟨g, 0, none⟩)] w (PStep T w g (cntV 0 0 false) k) := by
  have N63 := Lib.hid n63
  have N42 := Lib.hid n42
  have N43 := Lib.hid n43
  have N123 := Lib.hid n123
  clear n63 n42 n43 n123
  go_enter Try.func100, Try.ntmps100
  go_wp2_with fail
  refine (skN 42 42 rfl w h N42.out).mono ?_
  rintro e w7 ⟨rfl, hp7, hk7⟩
  go_wp2_with fail
  refine (skN 43 43 rfl w7 hp7 N43.out).mono ?_
  rintro e w8 ⟨rfl, hp8, hk8⟩
  go_wp2_with fail
  refine (skN 63 63 rfl w8 hp8 N63.out).mono ?_
  rintro e w9 ⟨rfl, hp9, hk9⟩
  go_wp2_with fail
  refine (skN 123 123 rfl w9 hp9 N123.out).mono ?_
  rintro e w10 ⟨rfl, hp10, hk10⟩
  go_wp2_with fail
  go_ret3
  exact ⟨rfl, hp10, (((hk7).then_ hk8).then_ hk9).then_ hk10⟩
theorem cnt_b0 {T : List UInt8} {g k : Nat} (w : World) (h : PS T w g k) (e123 : T[k]? = some 123) (a : numP T (k + 1) = none) : Calls Try.prog 100 #[.pointer (some ⟨g, 0, none⟩)] w (PFail T w g) := by
  have N63 := Lib.hid (show ¬ T[k]? = some 63 by rw [e123]; decide)
  have N42 := Lib.hid (show ¬ T[k]? = some 42 by rw [e123]; decide)
  have N43 := Lib.hid (show ¬ T[k]? = some 43 by rw [e123]; decide)
  have E123 := Lib.hid e123
  clear e123
  have A := Lib.hid a
  clear a
  go_enter Try.func100, Try.ntmps100
  go_wp2_with fail
  refine (skN 42 42 rfl w h N42.out).mono ?_
  rintro e w11 ⟨rfl, hp11, hk11⟩
  go_wp2_with fail
  refine (skN 43 43 rfl w11 hp11 N43.out).mono ?_
  rintro e w12 ⟨rfl, hp12, hk12⟩
  go_wp2_with fail
  refine (skN 63 63 rfl w12 hp12 N63.out).mono ?_
  rintro e w13 ⟨rfl, hp13, hk13⟩
  go_wp2_with fail
  refine (skY 123 123 rfl w13 hp13 E123.out).mono ?_
  rintro e w14 ⟨rfl, hp14, hk14⟩
  go_wp2_with fail
  refine (num_no w14 hp14 A.out).mono ?_
  rintro e w15 ⟨rfl, hp15, hk15⟩
  go_wp2_with fail
  exact ⟨rfl, rfl, hp15, ((((hk11).then_ hk12).then_ hk13).then_ hk14).then_ hk15⟩
theorem cnt_b1 {T : List UInt8} {g k : Nat} (w : World) (h : PS T w g k) {lo k1 : Nat} (e123 : T[k]? = some 123) (a : numP T (k + 1) = some (lo, k1)) (b : ¬ T[k1]? = some 44) (c : T[k1]? = some 125) : Calls Try.prog 100 #[.pointer (some ⟨g, 0, none⟩)] w (PStep T w g (cntV lo lo true) (k1 + 1)) := by
  have hlo : 0 ≤ (lo : Int) := by omega
  have b1 : decide (0 ≤ (lo : Int)) = true := by simp
  have b2 : decide ((lo : Int) < (lo : Int)) = false := by simp
  have b3 : decide (lo < lo) = false := by simp
  have N63 := Lib.hid (show ¬ T[k]? = some 63 by rw [e123]; decide)
  have N42 := Lib.hid (show ¬ T[k]? = some 42 by rw [e123]; decide)
  have N43 := Lib.hid (show ¬ T[k]? = some 43 by rw [e123]; decide)
  have E123 := Lib.hid e123
  clear e123
  have A := Lib.hid a
  have B := Lib.hid b
  have C := Lib.hid c
  clear a b c
  go_enter Try.func100, Try.ntmps100
  go_wp2_with fail
  refine (skN 42 42 rfl w h N42.out).mono ?_
  rintro e w16 ⟨rfl, hp16, hk16⟩
  go_wp2_with fail
  refine (skN 43 43 rfl w16 hp16 N43.out).mono ?_
  rintro e w17 ⟨rfl, hp17, hk17⟩
  go_wp2_with fail
  refine (skN 63 63 rfl w17 hp17 N63.out).mono ?_
  rintro e w18 ⟨rfl, hp18, hk18⟩
  go_wp2_with fail
  refine (skY 123 123 rfl w18 hp18 E123.out).mono ?_
  rintro e w19 ⟨rfl, hp19, hk19⟩
  go_wp2_with fail
  refine (num_yes w19 hp19 A.out).mono ?_
  rintro e w20 ⟨rfl, hp20, hk20⟩
  go_wp2_with fail
  refine (skN 44 44 rfl w20 hp20 B.out).mono ?_
  rintro e w21 ⟨rfl, hp21, hk21⟩
  go_wp2_with fail
  refine (skY 125 125 rfl w21 hp21 C.out).mono ?_
  rintro e w22 ⟨rfl, hp22, hk22⟩
  go_wp2_with fail
  go_ret3
  exact ⟨rfl, hp22, ((((((hk16).then_ hk17).then_ hk18).then_ hk19).then_ hk20).then_ hk21).then_ hk22⟩
theorem cnt_b2 {T : List UInt8} {g k : Nat} (w : World) (h : PS T w g k) {lo k1 : Nat} (e123 : T[k]? = some 123) (a : numP T (k + 1) = some (lo, k1)) (b : ¬ T[k1]? = some 44) (c : ¬ T[k1]? = some 125) : Calls Try.prog 100 #[.pointer (some ⟨g, 0, none⟩)] w (PFail T w g) := by
  have hlo : 0 ≤ (lo : Int) := by omega
  have b1 : decide (0 ≤ (lo : Int)) = true := by simp
  have b2 : decide ((lo : Int) < (lo : Int)) = false := by simp
  have b3 : decide (lo < lo) = false := by simp
  have N63 := Lib.hid (show ¬ T[k]? = some 63 by rw [e123]; decide)
  have N42 := Lib.hid (show ¬ T[k]? = some 42 by rw [e123]; decide)
  have N43 := Lib.hid (show ¬ T[k]? = some 43 by rw [e123]; decide)
  have E123 := Lib.hid e123
  clear e123
  have A := Lib.hid a
  have B := Lib.hid b
  have C := Lib.hid c
  clear a b c
  go_enter Try.func100, Try.ntmps100
  go_wp2_with fail
  refine (skN 42 42 rfl w h N42.out).mono ?_
  rintro e w23 ⟨rfl, hp23, hk23⟩
  go_wp2_with fail
  refine (skN 43 43 rfl w23 hp23 N43.out).mono ?_
  rintro e w24 ⟨rfl, hp24, hk24⟩
  go_wp2_with fail
  refine (skN 63 63 rfl w24 hp24 N63.out).mono ?_
  rintro e w25 ⟨rfl, hp25, hk25⟩
  go_wp2_with fail
  refine (skY 123 123 rfl w25 hp25 E123.out).mono ?_
  rintro e w26 ⟨rfl, hp26, hk26⟩
  go_wp2_with fail
  refine (num_yes w26 hp26 A.out).mono ?_
  rintro e w27 ⟨rfl, hp27, hk27⟩
  go_wp2_with fail
  refine (skN 44 44 rfl w27 hp27 B.out).mono ?_
  rintro e w28 ⟨rfl, hp28, hk28⟩
  go_wp2_with fail
  refine (skN 125 125 rfl w28 hp28 C.out).mono ?_
  rintro e w29 ⟨rfl, hp29, hk29⟩
  go_wp2_with fail
  exact ⟨rfl, rfl, ⟨_, hp29⟩, ((((((hk23).then_ hk24).then_ hk25).then_ hk26).then_ hk27).then_ hk28).then_ hk29⟩
theorem cnt_c1 {T : List UInt8} {g k : Nat} (w : World) (h : PS T w g k) {lo k1 : Nat} (e123 : T[k]? = some 123) (a : numP T (k + 1) = some (lo, k1)) (b : T[k1]? = some 44) (c : T[k1 + 1]? = some 125) : Calls Try.prog 100 #[.pointer (some ⟨g, 0, none⟩)] w (PStep T w g (cntV lo (-1) true) (k1 + 2)) := by
  have hsz : (ByteArray.mk T.toArray).size = T.length := by simp [ByteArray.size]
  have hT := h.2.2
  have hl := at_lt c
  have hix : ∀ w, (Instr.index 9 (.string ⟨T.toArray⟩) (.int .i64 ((k1 : Int) + 1))).run Try.prog w = .ok (.int .u8 125) w := idxT (P := Try.prog) Try.underlying9 c
  have hle : decide ((k1 : Int) + 1 < (T.length : Int)) = true := by simp; omega
  have N63 := Lib.hid (show ¬ T[k]? = some 63 by rw [e123]; decide)
  have N42 := Lib.hid (show ¬ T[k]? = some 42 by rw [e123]; decide)
  have N43 := Lib.hid (show ¬ T[k]? = some 43 by rw [e123]; decide)
  have E123 := Lib.hid e123
  clear e123
  have A := Lib.hid a
  have B := Lib.hid b
  have C := Lib.hid c
  clear a b c
  go_enter Try.func100, Try.ntmps100
  go_wp2_with fail
  refine (skN 42 42 rfl w h N42.out).mono ?_
  rintro e w30 ⟨rfl, hp30, hk30⟩
  go_wp2_with fail
  refine (skN 43 43 rfl w30 hp30 N43.out).mono ?_
  rintro e w31 ⟨rfl, hp31, hk31⟩
  go_wp2_with fail
  refine (skN 63 63 rfl w31 hp31 N63.out).mono ?_
  rintro e w32 ⟨rfl, hp32, hk32⟩
  go_wp2_with fail
  refine (skY 123 123 rfl w32 hp32 E123.out).mono ?_
  rintro e w33 ⟨rfl, hp33, hk33⟩
  go_wp2_with fail
  refine (num_yes w33 hp33 A.out).mono ?_
  rintro e w34 ⟨rfl, hp34, hk34⟩
  go_wp2_with fail
  refine (skY 44 44 rfl w34 hp34 B.out).mono ?_
  rintro e w35 ⟨rfl, hp35, hk35⟩
  obtain ⟨c0, c1, q1⟩ := hp35.cells
  have HPQ := Lib.hid hp35
  clear hp35
  go_wp2_with fail
  go_quiet (fail)
  go_wp2_with fail
  clear c0 c1 q1
  refine (skY 125 125 rfl _ (HPQ.out.drewN _) C.out).mono ?_
  rintro e w36 ⟨rfl, hp36, hk36⟩
  go_wp2_with fail
  go_ret3
  exact ⟨rfl, hp36, (((((((hk30).then_ hk31).then_ hk32).then_ hk33).then_ hk34).then_ hk35).drewN _).then_ hk36⟩
theorem cnt_c2 {T : List UInt8} {g k : Nat} (w : World) (h : PS T w g k) {lo k1 : Nat} (e123 : T[k]? = some 123) (a : numP T (k + 1) = some (lo, k1)) (b : T[k1]? = some 44) (c : T.length ≤ k1 + 1) : Calls Try.prog 100 #[.pointer (some ⟨g, 0, none⟩)] w (PFail T w g) := by
  have hsz : (ByteArray.mk T.toArray).size = T.length := by simp [ByteArray.size]
  have hT := h.2.2
  have hle : decide ((k1 : Int) + 1 < (T.length : Int)) = false := by simp; omega
  have nn : ¬ T[k1 + 1]? = some 125 := by rw [List.getElem?_eq_none (by omega)]; exact fun e => by cases e
  have N63 := Lib.hid (show ¬ T[k]? = some 63 by rw [e123]; decide)
  have N42 := Lib.hid (show ¬ T[k]? = some 42 by rw [e123]; decide)
  have N43 := Lib.hid (show ¬ T[k]? = some 43 by rw [e123]; decide)
  have E123 := Lib.hid e123
  clear e123
  have A := Lib.hid a
  have B := Lib.hid b
  have NN := Lib.hid nn
  clear a b nn
  go_enter Try.func100, Try.ntmps100
  go_wp2_with fail
  refine (skN 42 42 rfl w h N42.out).mono ?_
  rintro e w37 ⟨rfl, hp37, hk37⟩
  go_wp2_with fail
  refine (skN 43 43 rfl w37 hp37 N43.out).mono ?_
  rintro e w38 ⟨rfl, hp38, hk38⟩
  go_wp2_with fail
  refine (skN 63 63 rfl w38 hp38 N63.out).mono ?_
  rintro e w39 ⟨rfl, hp39, hk39⟩
  go_wp2_with fail
  refine (skY 123 123 rfl w39 hp39 E123.out).mono ?_
  rintro e w40 ⟨rfl, hp40, hk40⟩
  go_wp2_with fail
  refine (num_yes w40 hp40 A.out).mono ?_
  rintro e w41 ⟨rfl, hp41, hk41⟩
  go_wp2_with fail
  refine (skY 44 44 rfl w41 hp41 B.out).mono ?_
  rintro e w42 ⟨rfl, hp42, hk42⟩
  obtain ⟨c0, c1, q1⟩ := hp42.cells
  have HPQ := Lib.hid hp42
  clear hp42
  go_wp2_with fail
  go_quiet (fail)
  go_wp2_with fail
  clear c0 c1 q1
  refine (skN 125 125 rfl _ (HPQ.out.drewN _) NN.out).mono ?_
  rintro e w43 ⟨rfl, hp43, hk43⟩
  go_wp2_with fail
  exact ⟨rfl, rfl, ⟨_, hp43⟩, (((((((hk37).then_ hk38).then_ hk39).then_ hk40).then_ hk41).then_ hk42).drewN _).then_ hk43⟩
theorem cnt_d0 {T : List UInt8} {g k : Nat} (w : World) (h : PS T w g k) {lo k1 : Nat} {x : UInt8} (e123 : T[k]? = some 123) (a : numP T (k + 1) = some (lo, k1)) (b : T[k1]? = some 44) (c : T[k1 + 1]? = some x) (hx : x ≠ 125) (d : numP T (k1 + 1) = none) : Calls Try.prog 100 #[.pointer (some ⟨g, 0, none⟩)] w (PFail T w g) := by
  have hsz : (ByteArray.mk T.toArray).size = T.length := by simp [ByteArray.size]
  have hT := h.2.2
  have hl := at_lt c
  have hix : ∀ w, (Instr.index 9 (.string ⟨T.toArray⟩) (.int .i64 ((k1 : Int) + 1))).run Try.prog w = .ok (.int .u8 x.toNat) w := idxT (P := Try.prog) Try.underlying9 c
  have hle : decide ((k1 : Int) + 1 < (T.length : Int)) = true := by simp; omega
  have x1 : ((x.toNat : Int) == 125) = false := ne_lit (c := 125) hx
  have x2 : ((x.toNat : Int) != 125) = true := by simpa using x1
  clear hx
  have N63 := Lib.hid (show ¬ T[k]? = some 63 by rw [e123]; decide)
  have N42 := Lib.hid (show ¬ T[k]? = some 42 by rw [e123]; decide)
  have N43 := Lib.hid (show ¬ T[k]? = some 43 by rw [e123]; decide)
  have E123 := Lib.hid e123
  clear e123
  have A := Lib.hid a
  have B := Lib.hid b
  have C := Lib.hid c
  have D := Lib.hid d
  clear a b c d
  go_enter Try.func100, Try.ntmps100
  go_wp2_with fail
  refine (skN 42 42 rfl w h N42.out).mono ?_
  rintro e w44 ⟨rfl, hp44, hk44⟩
  go_wp2_with fail
  refine (skN 43 43 rfl w44 hp44 N43.out).mono ?_
  rintro e w45 ⟨rfl, hp45, hk45⟩
  go_wp2_with fail
  refine (skN 63 63 rfl w45 hp45 N63.out).mono ?_
  rintro e w46 ⟨rfl, hp46, hk46⟩
  go_wp2_with fail
  refine (skY 123 123 rfl w46 hp46 E123.out).mono ?_
  rintro e w47 ⟨rfl, hp47, hk47⟩
  go_wp2_with fail
  refine (num_yes w47 hp47 A.out).mono ?_
  rintro e w48 ⟨rfl, hp48, hk48⟩
  go_wp2_with fail
  refine (skY 44 44 rfl w48 hp48 B.out).mono ?_
  rintro e w49 ⟨rfl, hp49, hk49⟩
  obtain ⟨c0, c1, q1⟩ := hp49.cells
  have HPQ := Lib.hid hp49
  clear hp49
  go_wp2_with fail
  go_quiet (fail)
  go_wp2_with fail
  clear c0 c1 q1
  refine (num_no _ (HPQ.out.drewN _) D.out).mono ?_
  rintro e w50 ⟨rfl, hp50, hk50⟩
  go_wp2_with fail
  exact ⟨rfl, rfl, hp50, (((((((hk44).then_ hk45).then_ hk46).then_ hk47).then_ hk48).then_ hk49).drewN _).then_ hk50⟩
theorem cnt_d1 {T : List UInt8} {g k : Nat} (w : World) (h : PS T w g k) {lo k1 : Nat} {x : UInt8} (e123 : T[k]? = some 123) (a : numP T (k + 1) = some (lo, k1)) (b : T[k1]? = some 44) (c : T[k1 + 1]? = some x) (hx : x ≠ 125) {hi k2 : Nat} (d : numP T (k1 + 1) = some (hi, k2)) (f : ¬ T[k2]? = some 125) : Calls Try.prog 100 #[.pointer (some ⟨g, 0, none⟩)] w (PFail T w g) := by
  have hsz : (ByteArray.mk T.toArray).size = T.length := by simp [ByteArray.size]
  have hT := h.2.2
  have hl := at_lt c
  have hix : ∀ w, (Instr.index 9 (.string ⟨T.toArray⟩) (.int .i64 ((k1 : Int) + 1))).run Try.prog w = .ok (.int .u8 x.toNat) w := idxT (P := Try.prog) Try.underlying9 c
  have hle : decide ((k1 : Int) + 1 < (T.length : Int)) = true := by simp; omega
  have x1 : ((x.toNat : Int) == 125) = false := ne_lit (c := 125) hx
  have x2 : ((x.toNat : Int) != 125) = true := by simpa using x1
  clear hx
  have N63 := Lib.hid (show ¬ T[k]? = some 63 by rw [e123]; decide)
  have N42 := Lib.hid (show ¬ T[k]? = some 42 by rw [e123]; decide)
  have N43 := Lib.hid (show ¬ T[k]? = some 43 by rw [e123]; decide)
  have E123 := Lib.hid e123
  clear e123
  have A := Lib.hid a
  have B := Lib.hid b
  have C := Lib.hid c
  have D := Lib.hid d
  have F := Lib.hid f
  clear a b c d f
  go_enter Try.func100, Try.ntmps100
  go_wp2_with fail
  refine (skN 42 42 rfl w h N42.out).mono ?_
  rintro e w51 ⟨rfl, hp51, hk51⟩
  go_wp2_with fail
  refine (skN 43 43 rfl w51 hp51 N43.out).mono ?_
  rintro e w52 ⟨rfl, hp52, hk52⟩
  go_wp2_with fail
  refine (skN 63 63 rfl w52 hp52 N63.out).mono ?_
  rintro e w53 ⟨rfl, hp53, hk53⟩
  go_wp2_with fail
  refine (skY 123 123 rfl w53 hp53 E123.out).mono ?_
  rintro e w54 ⟨rfl, hp54, hk54⟩
  go_wp2_with fail
  refine (num_yes w54 hp54 A.out).mono ?_
  rintro e w55 ⟨rfl, hp55, hk55⟩
  go_wp2_with fail
  refine (skY 44 44 rfl w55 hp55 B.out).mono ?_
  rintro e w56 ⟨rfl, hp56, hk56⟩
  obtain ⟨c0, c1, q1⟩ := hp56.cells
  have HPQ := Lib.hid hp56
  clear hp56
  go_wp2_with fail
  go_quiet (fail)
  go_wp2_with fail
  clear c0 c1 q1
  refine (num_yes _ (HPQ.out.drewN _) D.out).mono ?_
  rintro e w57 ⟨rfl, hp57, hk57⟩
  go_wp2_with fail
  refine (skN 125 125 rfl w57 hp57 F.out).mono ?_
  rintro e w58 ⟨rfl, hp58, hk58⟩
  go_wp2_with fail
  exact ⟨rfl, rfl, ⟨_, hp58⟩, ((((((((hk51).then_ hk52).then_ hk53).then_ hk54).then_ hk55).then_ hk56).drewN _).then_ hk57).then_ hk58⟩
theorem cnt_d2 {T : List UInt8} {g k : Nat} (w : World) (h : PS T w g k) {lo k1 : Nat} {x : UInt8} (e123 : T[k]? = some 123) (a : numP T (k + 1) = some (lo, k1)) (b : T[k1]? = some 44) (c : T[k1 + 1]? = some x) (hx : x ≠ 125) {hi k2 : Nat} (d : numP T (k1 + 1) = some (hi, k2)) (f : T[k2]? = some 125) (q : hi < lo) : Calls Try.prog 100 #[.pointer (some ⟨g, 0, none⟩)] w (PFail T w g) := by
  have hsz : (ByteArray.mk T.toArray).size = T.length := by simp [ByteArray.size]
  have hT := h.2.2
  have hl := at_lt c
  have hix : ∀ w, (Instr.index 9 (.string ⟨T.toArray⟩) (.int .i64 ((k1 : Int) + 1))).run Try.prog w = .ok (.int .u8 x.toNat) w := idxT (P := Try.prog) Try.underlying9 c
  have hle : decide ((k1 : Int) + 1 < (T.length : Int)) = true := by simp; omega
  have x1 : ((x.toNat : Int) == 125) = false := ne_lit (c := 125) hx
  have x2 : ((x.toNat : Int) != 125) = true := by simpa using x1
  clear hx
  have b1 : decide (0 ≤ (hi : Int)) = true := by simp
  have b2 : decide (hi < lo) = true := by simp; omega
  clear q
  have N63 := Lib.hid (show ¬ T[k]? = some 63 by rw [e123]; decide)
  have N42 := Lib.hid (show ¬ T[k]? = some 42 by rw [e123]; decide)
  have N43 := Lib.hid (show ¬ T[k]? = some 43 by rw [e123]; decide)
  have E123 := Lib.hid e123
  clear e123
  have A := Lib.hid a
  have B := Lib.hid b
  have C := Lib.hid c
  have D := Lib.hid d
  have F := Lib.hid f
  clear a b c d f
  go_enter Try.func100, Try.ntmps100
  go_wp2_with fail
  refine (skN 42 42 rfl w h N42.out).mono ?_
  rintro e w59 ⟨rfl, hp59, hk59⟩
  go_wp2_with fail
  refine (skN 43 43 rfl w59 hp59 N43.out).mono ?_
  rintro e w60 ⟨rfl, hp60, hk60⟩
  go_wp2_with fail
  refine (skN 63 63 rfl w60 hp60 N63.out).mono ?_
  rintro e w61 ⟨rfl, hp61, hk61⟩
  go_wp2_with fail
  refine (skY 123 123 rfl w61 hp61 E123.out).mono ?_
  rintro e w62 ⟨rfl, hp62, hk62⟩
  go_wp2_with fail
  refine (num_yes w62 hp62 A.out).mono ?_
  rintro e w63 ⟨rfl, hp63, hk63⟩
  go_wp2_with fail
  refine (skY 44 44 rfl w63 hp63 B.out).mono ?_
  rintro e w64 ⟨rfl, hp64, hk64⟩
  obtain ⟨c0, c1, q1⟩ := hp64.cells
  have HPQ := Lib.hid hp64
  clear hp64
  go_wp2_with fail
  go_quiet (fail)
  go_wp2_with fail
  clear c0 c1 q1
  refine (num_yes _ (HPQ.out.drewN _) D.out).mono ?_
  rintro e w65 ⟨rfl, hp65, hk65⟩
  go_wp2_with fail
  refine (skY 125 125 rfl w65 hp65 F.out).mono ?_
  rintro e w66 ⟨rfl, hp66, hk66⟩
  go_wp2_with fail
  exact ⟨rfl, rfl, ⟨_, hp66⟩, ((((((((hk59).then_ hk60).then_ hk61).then_ hk62).then_ hk63).then_ hk64).drewN _).then_ hk65).then_ hk66⟩
theorem cnt_d3 {T : List UInt8} {g k : Nat} (w : World) (h : PS T w g k) {lo k1 : Nat} {x : UInt8} (e123 : T[k]? = some 123) (a : numP T (k + 1) = some (lo, k1)) (b : T[k1]? = some 44) (c : T[k1 + 1]? = some x) (hx : x ≠ 125) {hi k2 : Nat} (d : numP T (k1 + 1) = some (hi, k2)) (f : T[k2]? = some 125) (q : lo ≤ hi) : Calls Try.prog 100 #[.pointer (some ⟨g, 0, none⟩)] w (PStep T w g (cntV lo hi true) (k2 + 1)) := by
  have hsz : (ByteArray.mk T.toArray).size = T.length := by simp [ByteArray.size]
  have hT := h.2.2
  have hl := at_lt c
  have hix : ∀ w, (Instr.index 9 (.string ⟨T.toArray⟩) (.int .i64 ((k1 : Int) + 1))).run Try.prog w = .ok (.int .u8 x.toNat) w := idxT (P := Try.prog) Try.underlying9 c
  have hle : decide ((k1 : Int) + 1 < (T.length : Int)) = true := by simp; omega
  have x1 : ((x.toNat : Int) == 125) = false := ne_lit (c := 125) hx
  have x2 : ((x.toNat : Int) != 125) = true := by simpa using x1
  clear hx
  have b1 : decide (0 ≤ (hi : Int)) = true := by simp
  have b2 : decide (hi < lo) = false := by simp; omega
  clear q
  have N63 := Lib.hid (show ¬ T[k]? = some 63 by rw [e123]; decide)
  have N42 := Lib.hid (show ¬ T[k]? = some 42 by rw [e123]; decide)
  have N43 := Lib.hid (show ¬ T[k]? = some 43 by rw [e123]; decide)
  have E123 := Lib.hid e123
  clear e123
  have A := Lib.hid a
  have B := Lib.hid b
  have C := Lib.hid c
  have D := Lib.hid d
  have F := Lib.hid f
  clear a b c d f
  go_enter Try.func100, Try.ntmps100
  go_wp2_with fail
  refine (skN 42 42 rfl w h N42.out).mono ?_
  rintro e w67 ⟨rfl, hp67, hk67⟩
  go_wp2_with fail
  refine (skN 43 43 rfl w67 hp67 N43.out).mono ?_
  rintro e w68 ⟨rfl, hp68, hk68⟩
  go_wp2_with fail
  refine (skN 63 63 rfl w68 hp68 N63.out).mono ?_
  rintro e w69 ⟨rfl, hp69, hk69⟩
  go_wp2_with fail
  refine (skY 123 123 rfl w69 hp69 E123.out).mono ?_
  rintro e w70 ⟨rfl, hp70, hk70⟩
  go_wp2_with fail
  refine (num_yes w70 hp70 A.out).mono ?_
  rintro e w71 ⟨rfl, hp71, hk71⟩
  go_wp2_with fail
  refine (skY 44 44 rfl w71 hp71 B.out).mono ?_
  rintro e w72 ⟨rfl, hp72, hk72⟩
  obtain ⟨c0, c1, q1⟩ := hp72.cells
  have HPQ := Lib.hid hp72
  clear hp72
  go_wp2_with fail
  go_quiet (fail)
  go_wp2_with fail
  clear c0 c1 q1
  refine (num_yes _ (HPQ.out.drewN _) D.out).mono ?_
  rintro e w73 ⟨rfl, hp73, hk73⟩
  go_wp2_with fail
  refine (skY 125 125 rfl w73 hp73 F.out).mono ?_
  rintro e w74 ⟨rfl, hp74, hk74⟩
  go_wp2_with fail
  go_ret3
  exact ⟨rfl, hp74, ((((((((hk67).then_ hk68).then_ hk69).then_ hk70).then_ hk71).then_ hk72).drewN _).then_ hk73).then_ hk74⟩
theorem counter_any {T : List UInt8} {g k : Nat} (w : World) (h : PS T w g k) : Calls Try.prog 100 #[.pointer (some ⟨g, 0, none⟩)] w (PRes T w g (cV (cntP T k))) := by
  unfold cntP
  by_cases e42 : T[k]? = some 42
  · rw [if_pos e42]; exact cnt_star w h e42
  rw [if_neg e42]
  by_cases e43 : T[k]? = some 43
  · rw [if_pos e43]; exact cnt_plus w h e42 e43
  rw [if_neg e43]
  by_cases e63 : T[k]? = some 63
  · rw [if_pos e63]; exact cnt_opt w h e42 e43 e63
  rw [if_neg e63]
  by_cases e123 : T[k]? = some 123
  · rw [if_pos e123]
    rcases a : numP T (k + 1) with _ | ⟨lo, k1⟩
    · exact cnt_b0 w h e123 a
    simp only
    by_cases b : T[k1]? = some 44
    · rw [if_pos b]
      have hb := at_lt b
      by_cases hc : k1 + 1 < T.length ∧ T[k1 + 1]? ≠ some 125
      · rw [if_pos hc]
        obtain ⟨x, c⟩ : ∃ x, T[k1 + 1]? = some x := ⟨_, List.getElem?_eq_getElem hc.1⟩
        have hx : x ≠ 125 := fun e => hc.2 (by rw [c, e])
        rcases d : numP T (k1 + 1) with _ | ⟨hi, k2⟩
        · exact cnt_d0 w h e123 a b c hx d
        simp only
        by_cases f : T[k2]? = some 125
        · by_cases q : lo ≤ hi
          · rw [if_pos ⟨f, q⟩]; exact cnt_d3 w h e123 a b c hx d f q
          · rw [if_neg (fun e => q e.2)]; exact cnt_d2 w h e123 a b c hx d f (by omega)
        · rw [if_neg (fun e => f e.1)]; exact cnt_d1 w h e123 a b c hx d f
      · rw [if_neg hc]
        by_cases c : T[k1 + 1]? = some 125
        · rw [if_pos c]; exact cnt_c1 w h e123 a b c
        · rw [if_neg c]
          refine cnt_c2 w h e123 a b ?_
          rcases Nat.lt_or_ge (k1 + 1) T.length with h1 | h1
          · exact absurd ⟨h1, c⟩ hc
          · exact h1
    · rw [if_neg b]
      by_cases c : T[k1]? = some 125
      · rw [if_pos c]; exact cnt_b1 w h e123 a b c
      · rw [if_neg c]; exact cnt_b2 w h e123 a b c
  · rw [if_neg e123]; exact cnt_not w h e42 e43 e63 e123
end Go.Proofs.Ytniefnjcimempaa
