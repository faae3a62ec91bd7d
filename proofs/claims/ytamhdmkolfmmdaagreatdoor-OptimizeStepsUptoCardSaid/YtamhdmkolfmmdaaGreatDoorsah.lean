/- The walk of the parser's class. The walk of regex.sequence. The walk of the parser's term. The key of optimize.share: a struct of two texts, an array of three numbers and a number. -/
import Derived.Test.YtamhdmkolfmmdaaGreatDoorsaf
import Derived.Test.YtamhdmkolfmmdaaGreatDoorsag
import Derived.IntWalk
import Derived.Deep.DeepCutAuto
import Derived.Test.YtamhdmkolfmmdaaGreatDoorsaa
import Derived.Test.YtamhdmkolfmmdaaGreatDoorsab
import Derived.Test.YtamhdmkolfmmdaaGreatDoorProg
set_option linter.unusedVariables false
set_option linter.unusedSimpArgs false
namespace Go.Proofs.YtamhdmkolfmmdaaGreatDoor
open Go.RowKit
set_option maxHeartbeats 4000000
def sV (r : Option (LS × Nat)) : Option (Value × Nat) := r.map fun p => (lsV p.1, p.2)
def ClsRel (T : List UInt8) (w : World) (g f0 : Nat) (R : Option Nat) (f : Nat) (wr : World) : Prop :=
 ∃ k : Nat, PS T wr g k ∧ f0 ≤ k ∧ T.length - k < f ∧ Hid (endP T f k = R) ∧ LBlk wr w.heap.size kar ∧ Kept (isG g) w wr
theorem LBlk.kept {F : Nat → Prop} {w w' : World} {g : Nat} {S : LS} (h : LBlk w g S) (k : Kept F w w') (hg : ¬ F g) : LBlk w' g S := Blk.kept h k hg
theorem LBlk.drewN {w : World} {g : Nat} {S : LS} (h : LBlk w g S) (n : Nat) : LBlk (w.drewN n) g S := h
theorem kl2 {T : List UInt8} {f k : Nat} {b : UInt8} (hb : T[k]? = some b) : endP T (f + 1) k = if b = 93 then some (k + 1) else if b = 92 then (match T[k + 1]? with
    | none => none
    | some _ => endP T f (k + 2))
   else endP T f (k + 1) := by
 rw [endP, hb]
 rfl
theorem kl3 {T : List UInt8} {f k : Nat} (hb : T[k]? = none) : endP T (f + 1) k = none := by rw [endP, hb]
def clsS (nb : Bool) (e : Nat) (r : Option LS) : Option (LS × Nat) := match r with
 | none => none
 | some S => some (if nb then notS S else S, e)
def clsZ (T : List UInt8) (f0 : Nat) (nb : Bool) (r : Option Nat) : Option (LS × Nat) := match r with
 | none => none
 | some e => clsS nb e (lsP (e - 1 - f0 + 1) ((T.drop f0).take (e - 1 - f0)) kar)
theorem PS.far4 {T : List UInt8} {w : World} {g k X : Nat} (h : PS T w g k) (hg : g ≠ X) (u0 u1 u2 u3 : Value) : PS T ((((w.setCell ⟨X, 0, none⟩ u0).setCell ⟨X, 1, none⟩ u1).setCell ⟨X, 2, none⟩ u2).setCell ⟨X, 3, none⟩ u3) g k :=
 ⟨(((h.1.far (p := ⟨X, 0, none⟩) hg u0).far (p := ⟨X, 1, none⟩) hg u1).far (p := ⟨X, 2, none⟩) hg u2).far (p := ⟨X, 3, none⟩) hg u3, h.2⟩
def kil (T : List UInt8) (w : World) (g k : Nat) (S : LS) (er : Value) (a b : Value) (wc : World) : Prop :=
 ∃ X, a = .pointer (some ⟨X, 0, none⟩) ∧ b = er ∧ PS T wc g (k + 1) ∧ LBlk wc w.heap.size kar ∧ LBlk wc X S ∧ Kept (isG g) w wc ∧ w.heap.size < X
theorem clsA {T : List UInt8} {w w2 w3 : World} {g k : Nat} {S : LS} {er : Value} (hp : PS T w2 g (k + 1)) (hL : LBlk w2 w.heap.size kar) (hK : Kept (isG g) w w2) (hb : Below w2.drew.heap.size w2.drew w3) :
  kil T w g k S er (.pointer (some ⟨w3.heap.size, 0, none⟩)) er (w3.alloc (.cells #[.int .u64 (wd S 0), .int .u64 (wd S 1), .int .u64 (wd S 2), .int .u64 (wd S 3)] 102)) :=
 ⟨_, rfl, rfl, (PS.kept hp.drew (Kept.of_below (F := fun _ => False) hb) id).alloc _, (LBlk.below (LBlk.drewN hL 1) hb (Blk.lt hL)).alloc _, LBlk.mk _ S _ rfl,
  (hK.drew.then_ (Kept.of_below hb)).alloc _, Nat.lt_of_lt_of_le (Blk.lt hL) hb.size⟩
theorem clsB {T : List UInt8} {w w2 w3 : World} {g k : Nat} {S : LS} {er : Value} (hp : PS T w2 g (k + 1)) (hL : LBlk w2 w.heap.size kar) (hK : Kept (isG g) w w2)
  (hb : Below (w2.alloc (.cells #[.int .u64 0, .int .u64 0, .int .u64 0, .int .u64 0] 102)).drew.heap.size (w2.alloc (.cells #[.int .u64 0, .int .u64 0, .int .u64 0, .int .u64 0] 102)).drew w3) :
  kil T w g k S er (.pointer (some ⟨w2.heap.size, 0, none⟩)) er ((((w3.setCell ⟨w2.heap.size, 0, none⟩ (.int .u64 (wd S 0))).setCell ⟨w2.heap.size, 1, none⟩ (.int .u64 (wd S 1))).setCell ⟨w2.heap.size, 2, none⟩ (.int .u64 (wd S 2))).setCell ⟨w2.heap.size, 3, none⟩ (.int .u64 (wd S 3))) := by
 have hg := hp.lt
 have hl : w.heap.size < w2.heap.size := Blk.lt hL
 have hs : w2.heap.size < w3.heap.size := by have := hb.size; simp at this; omega
 have h0 : LBlk w3 w2.heap.size kar := LBlk.below (LBlk.drewN (LBlk.mk0 w2 _ rfl) 1) hb (by simp)
 have h1 : PS T w3 g (k + 1) := PS.kept (hp.alloc _).drew (Kept.of_below (F := fun _ => False) hb) id
 have h2 : LBlk w3 w.heap.size kar := LBlk.below (LBlk.drewN (hL.alloc _) 1) hb (by simp; omega)
 have h3 : Kept (isG g) w w3 := (hK.alloc _).drew.then_ (Kept.of_below hb)
 have hsz := h3.size
 have hwl : w.heap.size ≤ w2.heap.size := hK.size
 exact ⟨_, rfl, rfl, ⟨(((h1.1.far (by show g ≠ w2.heap.size; omega) _).far (by show g ≠ w2.heap.size; omega) _).far (by show g ≠ w2.heap.size; omega) _).far (by show g ≠ w2.heap.size; omega) _, h1.2⟩,
  (((h2.far (by show w.heap.size ≠ w2.heap.size; omega) _).far (by show w.heap.size ≠ w2.heap.size; omega) _).far (by show w.heap.size ≠ w2.heap.size; omega) _).far (by show w.heap.size ≠ w2.heap.size; omega) _, h0.all S,
  (((h3.setCell (p := ⟨w2.heap.size, 0, none⟩) (.inr hwl) _).setCell (p := ⟨w2.heap.size, 1, none⟩) (.inr hwl) _).setCell (p := ⟨w2.heap.size, 2, none⟩) (.inr hwl) _).setCell (p := ⟨w2.heap.size, 3, none⟩) (.inr hwl) _, hl⟩
theorem kgK {T : List UInt8} {g k0 f0 : Nat} {nb : Bool} (w : World) (h : PS T w g k0) (hS : ∀ w1, PS T w1 g k0 → Calls Tryz.prog 138 #[.pointer (some ⟨g, 0, none⟩), .int .u8 94] w1 (PStep T w1 g (.bool nb) f0))
  (hf0 : f0 ≤ T.length) (Z : Option (LS × Nat)) (R : Option Nat) (hR : R = endP T (T.length + 1) f0) (hZ : Z = clsZ T f0 nb R) : Calls Tryz.prog 206 #[.pointer (some ⟨g, 0, none⟩)] w (PRes T w g (sV Z)) := by
 have HZ := hD hZ
 have HR := hD hR
 have hsz : (ByteArray.mk T.toArray).size = T.length := by simp [ByteArray.size]
 have hT := h.2.2
 have hg := h.lt
 have HS := hD (hS _ (h.alloc (.cells #[.int .u64 0, .int .u64 0, .int .u64 0, .int .u64 0] 102)))
 have HK0 := hD ((Kept.refl (isG g) w).alloc (.cells #[.int .u64 0, .int .u64 0, .int .u64 0, .int .u64 0] 102))
 have HL0 := hD (LBlk.mk0 w w.heap.size rfl)
 clear hZ hR h hS
 go_enter Tryz.func206, Tryz.ntmps206
 go_wp2_with fail
 refine HS.out.mono ?_
 rintro e w1 ⟨rfl, hp1, hk1⟩
 have hne : ¬ isG g w.heap.size := fun e => absurd hg (by rw [show g = w.heap.size from e.symm]; omega)
 have hL1 : LBlk w1 w.heap.size kar := HL0.out.kept hk1 hne
 have hK1 := HK0.out.then_ hk1
 obtain ⟨c0, c1, q1⟩ := hp1.cells
 clear HS HK0 HL0 hk1
 go_wp2_with fail
 go_loopg [] (T.length + 1) (fun f wr => ClsRel T w g f0 R f wr)
 case atStart => exact ⟨f0, hp1, by omega, by omega, HR.out.symm, hL1, hK1⟩
 case round =>
  clear c0 c1 q1 hp1 hL1 hK1
  obtain ⟨k, hp, h1, h2, hP, hL, hK⟩ := hrel
  obtain ⟨f, rfl⟩ : ∃ f, gk = f + 1 := ⟨gk - 1, by omega⟩
  have hP2 := hP.out
  clear hP
  rcases hb : T[k]? with _ | b
  ·
   rw [kl3 hb] at hP2
   subst hP2
   have hz : Z = none := HZ.out
   subst hz
   have HN := hD (kc0 wr hp hb)
   clear hb
   go_wp2_with fail
   refine HN.out.mono ?_
   rintro e w2 ⟨rfl, hp2, hk2⟩
   go_wp2_with fail
   exact ⟨rfl, rfl, hp2, hK.then_ hk2⟩
  ·
   have HN := hD (kaU wr hp hb)
   have hl := kaw hb
   have hix := idxT (P := Tryz.prog) Tryz.underlying9 hb
   rw [kl2 hb] at hP2
   clear hb
   by_cases h93 : b = 93
   ·
    rw [if_pos h93] at hP2
    subst h93
    rw [show ((93 : UInt8).toNat : Int) = 93 from rfl] at HN hix
    subst hP2
    have hz : Z = clsS nb (k + 1) (lsP (k - f0 + 1) ((T.drop f0).take (k - f0)) kar) := HZ.out
    have HZ := hD hz
    clear hz
    go_wp2_with fail
    refine HN.out.mono ?_
    rintro e w2 ⟨rfl, hp2, hk2⟩
    have hL2 := hL.kept hk2 hne
    have hK2 := hK.then_ hk2
    obtain ⟨c0, c1, q1⟩ := hp2.cells
    have hsl := sliceT2 T f0 k h1 (by omega)
    clear hp hL hK HN hk2
    have hC := ki6 ((T.drop f0).take (k - f0))
    have hlen : ((T.drop f0).take (k - f0)).length = k - f0 := by rw [List.length_take, List.length_drop]; omega
    rw [hlen] at hC
    have hC := fun w => hC w (by omega)
    clear hlen
    obtain ⟨S, er, hC, hcase⟩ : ∃ S er, (∀ w, Calls Tryz.prog 224 #[.string ⟨((T.drop f0).take (k - f0)).toArray⟩] w fun e w' => e = .returned (.tuple #[.agg #[.int .u64 (wd S 0), .int .u64 (wd S 1), .int .u64 (wd S 2), .int .u64 (wd S 3)], er]) ∧ Below w.heap.size w w') ∧
      Hid ((er = .nilIface ∧ Z = some (if nb then notS S else S, k + 1)) ∨ (er = kbF ∧ Z = none)) := by
     rcases hls : lsP (k - f0 + 1) ((T.drop f0).take (k - f0)) kar with _ | S
     ·
      rw [hls] at hC
      exact ⟨kar, kbF, hC, .inr ⟨rfl, by rw [HZ.out, hls]; rfl⟩⟩
     ·
      rw [hls] at hC
      exact ⟨S, .nilIface, hC, .inl ⟨rfl, by rw [HZ.out, hls]; rfl⟩⟩
    have hg2 : g < w2.heap.size := hp2.lt
    have hw1 : IntKind.i64.wrap ((k : Int) + 1 - 1) = (k : Int) := by rw [Int.add_sub_cancel]; exact IntWalk.i64_in _ (by omega)
    have hw2 : IntKind.i64.wrap (((k + 1 : Nat) : Int) - 1) = (k : Int) := hw1
    have hw3 : IntKind.i64.wrap (k : Int) = (k : Int) := IntWalk.i64_in _ (by omega)
    go_wp2_with fail
    go_cut [5, 6] (fun a b wc => kil T w g k S er a b wc)
    case first =>
     go_region_with ((go_at_call 224; refine (hC _).mono ?_; rintro e w3 ⟨rfl, hb3⟩; try (have kz := LBlk.below (LBlk.mk0 w2.drew w2.heap.size rfl) hb3 (by simp); obtain ⟨⟨z0, z1⟩, z2, z3⟩ := kz.cells; obtain ⟨⟨y0, y1⟩, y2, y3⟩ := kz.free)))
     all_goals
      go_wp2_with fail
      go_meet
      case rel => first | ((with_reducible have hz := clsA (S := S) (er := er) hp2 hL2 hK2 hb3); exact hz) | ((with_reducible have hz := clsB (S := S) (er := er) hp2 hL2 hK2 hb3); exact hz)
    case rest =>
     clear c0 c1 q1 hw1 hw2 hw3 hC hsl hix hp2 hL2 hK2
     obtain ⟨X, rfl, rfl, hpc, hLc, hXc, hKc, hlt⟩ := hcut
     obtain ⟨⟨c0, c1⟩, c2, c3⟩ := hXc.cells
     obtain ⟨⟨r0, r1⟩, r2, r3⟩ := hLc.cells
     obtain ⟨⟨f0', f1'⟩, f2', f3'⟩ := hLc.free
     rcases hcase.out with ⟨rfl, rfl⟩ | ⟨rfl, rfl⟩
     ·
      cases nb with
      | false =>
       have HZ1 := hD (hLc.all S)
       have HZ2 := hD (hpc.far4 (X := w.heap.size) (by omega) (.int .u64 (wd S 0)) (.int .u64 (wd S 1)) (.int .u64 (wd S 2)) (.int .u64 (wd S 3)))
       have HZ3 := hD ((((hKc.setCell (p := ⟨w.heap.size, 0, none⟩) (.inr (Nat.le_refl _)) (.int .u64 (wd S 0))).setCell (p := ⟨w.heap.size, 1, none⟩) (.inr (Nat.le_refl _)) (.int .u64 (wd S 1))).setCell (p := ⟨w.heap.size, 2, none⟩) (.inr (Nat.le_refl _)) (.int .u64 (wd S 2))).setCell (p := ⟨w.heap.size, 3, none⟩) (.inr (Nat.le_refl _)) (.int .u64 (wd S 3)))
       clear hLc hpc hKc hXc
       go_wp2_with fail
       obtain ⟨⟨d0, d1⟩, d2, d3⟩ := HZ1.out.cells
       refine bodyPost_ret (v := lsV S) (by simp [results, Tryz.results206, go_sem, d0, d1, d2, d3, lsV, lsC, wds]) rfl ?_
       exact ⟨rfl, HZ2.out, HZ3.out⟩
      | true =>
       go_wp2_with fail
       refine (kjD S wc).mono ?_
       rintro e w4 ⟨he, hb4⟩
       rw [kc1] at he
       subst he
       have hL4 : LBlk w4 w.heap.size kar := hLc.below hb4 (Blk.lt hLc)
       have hp4 : PS T w4 g (k + 1) := PS.kept hpc (Kept.of_below (F := fun _ => False) hb4) id
       have hK4 : Kept (isG g) w w4 := hKc.then_ (Kept.of_below hb4)
       clear c0 c1 c2 c3 r0 r1 r2 r3 f0' f1' f2' f3'
       obtain ⟨⟨r0, r1⟩, r2, r3⟩ := hL4.cells
       obtain ⟨⟨f0', f1'⟩, f2', f3'⟩ := hL4.free
       have HZ1 := hD (hL4.all (notS S))
       have HZ2 := hD (hp4.far4 (X := w.heap.size) (by omega) (.int .u64 (wd (notS S) 0)) (.int .u64 (wd (notS S) 1)) (.int .u64 (wd (notS S) 2)) (.int .u64 (wd (notS S) 3)))
       have HZ3 := hD ((((hK4.setCell (p := ⟨w.heap.size, 0, none⟩) (.inr (Nat.le_refl _)) (.int .u64 (wd (notS S) 0))).setCell (p := ⟨w.heap.size, 1, none⟩) (.inr (Nat.le_refl _)) (.int .u64 (wd (notS S) 1))).setCell (p := ⟨w.heap.size, 2, none⟩) (.inr (Nat.le_refl _)) (.int .u64 (wd (notS S) 2))).setCell (p := ⟨w.heap.size, 3, none⟩) (.inr (Nat.le_refl _)) (.int .u64 (wd (notS S) 3)))
       clear hLc hpc hKc hXc hL4 hp4 hK4 hb4
       go_wp2_with fail
       obtain ⟨⟨d0, d1⟩, d2, d3⟩ := HZ1.out.cells
       refine bodyPost_ret (v := lsV (notS S)) (by simp [results, Tryz.results206, go_sem, d0, d1, d2, d3, lsV, lsC, wds]) rfl ?_
       exact ⟨rfl, HZ2.out, HZ3.out⟩
     ·
      unfold kbF
      go_wp2_with fail
      exact ⟨rfl, rfl, ⟨_, hpc⟩, hKc⟩
   ·
    rw [if_neg h93] at hP2
    have t1 : ((b.toNat : Int) == 93) = false := kaT (c := 93) h93
    have t2 : ((b.toNat : Int) != 93) = true := by simpa using t1
    clear h93
    by_cases h92 : b = 92
    ·
     rw [if_pos h92] at hP2
     subst h92
     rw [show ((92 : UInt8).toNat : Int) = 92 from rfl] at HN hix t1 t2
     rcases hc : T[k + 1]? with _ | c
     ·
      rw [hc] at hP2
      subst hP2
      have hz : Z = none := HZ.out
      subst hz
      go_wp2_with fail
      refine HN.out.mono ?_
      rintro e w2 ⟨rfl, hp2, hk2⟩
      obtain ⟨c0, c1, q1⟩ := hp2.cells
      have HN2 := hD fun n => kc0 (w2.drewN n) (hp2.drewN n) hc
      have HP := hD hp2
      have HC := hD hc
      clear hc hp2
      go_wp2_with fail
      go_quiet (fail)
      go_wp2_with fail
      refine (HN2.out _).mono ?_
      rintro e w3 ⟨rfl, hp3, hk3⟩
      go_wp2_with fail
      exact ⟨rfl, rfl, hp3, ((hK.then_ hk2).drewN _).then_ hk3⟩
     ·
      rw [hc] at hP2
      have HP2 := hD hP2
      clear hP2
      have hl1 := kaw hc
      go_wp2_with fail
      refine HN.out.mono ?_
      rintro e w2 ⟨rfl, hp2, hk2⟩
      obtain ⟨c0, c1, q1⟩ := hp2.cells
      have HN2 := hD fun n => kaU (w2.drewN n) (hp2.drewN n) hc
      have HC := hD hc
      have HP := hD hp2
      clear hc hp2
      go_wp2_with fail
      go_quiet (fail)
      go_wp2_with fail
      refine (HN2.out _).mono ?_
      rintro e w3 ⟨rfl, hp3, hk3⟩
      go_wp2_with fail
      go_roundg f
      case measure => omega
      case rel => exact ⟨k + 2, hp3, by omega, by omega, HP2.out, ((hL.kept hk2 hne).drewN _).kept hk3 hne, ((hK.then_ hk2).drewN _).then_ hk3⟩
    ·
     rw [if_neg h92] at hP2
     have t3 : ((b.toNat : Int) == 92) = false := kaT (c := 92) h92
     have HP2 := hD hP2
     clear hP2 h92
     go_wp2_with fail
     refine HN.out.mono ?_
     rintro e w2 ⟨rfl, hp2, hk2⟩
     obtain ⟨c0, c1, q1⟩ := hp2.cells
     have HP := hD hp2
     clear hp2
     go_wp2_with fail
     go_quiet (fail)
     go_wp2_with fail
     go_roundg f
     case measure => omega
     case rel => exact ⟨k + 1, HP.out.drewN _, by omega, by omega, HP2, (hL.kept hk2 hne).drewN _, (hK.then_ hk2).drewN _⟩
theorem kgL {T : List UInt8} {g k0 : Nat} (w : World) (h : PS T w g k0) : Calls Tryz.prog 206 #[.pointer (some ⟨g, 0, none⟩)] w (PRes T w g (sV (kb6 T k0))) := by
 by_cases hn : T[k0]? = some 94
 ·
  refine kgK (f0 := k0 + 1) (nb := true) w h (fun w1 h1 => khy (b := 94) w1 h1 hn) (by have := kaw hn; omega) _ _ rfl ?_
  unfold kb6
  simp only [if_pos hn]
  rcases endP T (T.length + 1) (k0 + 1) with _ | e
  ·
   rfl
  ·
   simp only [clsZ]
   rcases lsP (e - 1 - (k0 + 1) + 1) ((T.drop (k0 + 1)).take (e - 1 - (k0 + 1))) kar with _ | S <;> rfl
 ·
  refine kgK (f0 := k0) (nb := false) w h (fun w1 h1 => kjp (b := 94) w1 h1 hn) h.2.1 _ _ rfl ?_
  unfold kb6
  simp only [if_neg hn]
  rcases endP T (T.length + 1) k0 with _ | e
  ·
   rfl
  ·
   simp only [clsZ]
   rcases lsP (e - 1 - k0 + 1) ((T.drop k0).take (e - 1 - k0)) kar with _ | S <;> rfl
theorem RxV.eight {w : World} {F : Nat → Prop} {r : Rx} {cs : List Value} (h : RxV w F r cs) : ∃ (k : Nat) (w0 w1 w2 w3 : Nat) (lo hi : Int) (A : Option Addr) (n c : Nat), cs = [.int .i64 k, .int .u64 w0, .int .u64 w1, .int .u64 w2, .int .u64 w3, .int .i64 lo, .int .i64 hi, .slice A n c] := by
 obtain ⟨k, w0, w1, w2, w3, lo, hi, ps⟩ := r
 unfold RxV at h
 obtain ⟨A, c, css, h1, _⟩ := h
 exact ⟨k, w0, w1, w2, w3, lo, hi, A, ps.length, c, h1⟩
theorem RxV.below {w w' : World} {F : Nat → Prop} {r : Rx} {cs : List Value} (h : RxV w F r cs) (hb : Below w.heap.size w w') : RxV w' F r cs := RxV.keep (fun i _ hi => hb.block i hi) hb.size (fun _ h _ => h) r cs h
theorem RxVs.below {w w' : World} {F : Nat → Prop} {l : List Rx} {cs : List Value} (h : RxVs w F l cs) (hb : Below w.heap.size w w') : RxVs w' F l cs := RxVs.keep (fun i _ hi => hb.block i hi) hb.size (fun _ h _ => h) l cs h
theorem RdF.below {w w' : World} {F : Nat → Prop} {size n : Nat} {A : Option Addr} {xs : List Value} (h : RdF w F size A n xs) (hb : Below w.heap.size w w') : RdF w' F size A n xs := h.keep (fun i _ hi => hb.block i hi) hb.size (fun _ h _ => h)
def TEnd (w : World) (F : Nat → Prop) (r : Rx) (e : Ending) (w' : World) : Prop := ∃ cs, e = .returned (.agg cs.toArray) ∧ RxV w' F r cs ∧ Below w.heap.size w w'
theorem seq_0 (A : Option Addr) (c : Nat) (w : World) (F : Nat → Prop) : Calls Tryz.prog 174 #[.slice A 0 c] w (TEnd w F (Rx.seq [])) := by
 have hR := R8.mk0 w w.heap.size rfl
 have HF := hD (hR.all (.int .i64 1) (.int .u64 0) (.int .u64 0) (.int .u64 0) (.int .u64 0) (.int .i64 0) (.int .i64 0) (.slice none 0 0))
 have HB := hD (kdk ((Below.refl _ w).alloc (Nat.le_refl _) (.cells #[.int .i64 0, .int .u64 0, .int .u64 0, .int .u64 0, .int .u64 0, .int .i64 0, .int .i64 0, .slice none 0 0] 105)) (Nat.le_refl w.heap.size) (.int .i64 1) (.int .u64 0) (.int .u64 0) (.int .u64 0) (.int .u64 0) (.int .i64 0) (.int .i64 0) (.slice none 0 0))
 clear hR
 go_enter Tryz.func174, Tryz.ntmps174
 go_wp2_with fail
 refine bodyPost_ret (v := .agg #[.int .i64 1, .int .u64 0, .int .u64 0, .int .u64 0, .int .u64 0, .int .i64 0, .int .i64 0, .slice none 0 0]) (by simp [results, Tryz.results174, go_sem]) rfl ?_
 refine ⟨_, rfl, ?_, (Below.refl _ w).alloc (Nat.le_refl _) _⟩
 unfold Rx.seq Rx.empty Rx.plain RxV RxVs
 exact ⟨none, 0, [], rfl, ⟨rfl, fun h => absurd h (by simp)⟩, rfl⟩
theorem seq_1 (b o c : Nat) (w : World) (k w0 w1 w2 w3 : Nat) (lo hi : Int) (A' : Option Addr) (n' c' : Nat) (hb : b < w.heap.size) (k0 : w.cell? ⟨b, o, none⟩ = some (.int .i64 k)) (k1 : w.cell? ⟨b, o + 1, none⟩ = some (.int .u64 w0)) (k2 : w.cell? ⟨b, o + 2, none⟩ = some (.int .u64 w1)) (k3 : w.cell? ⟨b, o + 3, none⟩ = some (.int .u64 w2)) (k4 : w.cell? ⟨b, o + 4, none⟩ = some (.int .u64 w3)) (k5 : w.cell? ⟨b, o + 5, none⟩ = some (.int .i64 lo)) (k6 : w.cell? ⟨b, o + 6, none⟩ = some (.int .i64 hi)) (k7 : w.cell? ⟨b, o + 7, none⟩ = some (.slice A' n' c')) :
  Calls Tryz.prog 174 #[.slice (some ⟨b, o, none⟩) 1 c] w fun e w' => e = .returned (.agg #[.int .i64 k, .int .u64 w0, .int .u64 w1, .int .u64 w2, .int .u64 w3, .int .i64 lo, .int .i64 hi, .slice A' n' c']) ∧ Below w.heap.size w w' := by
 go_enter Tryz.func174, Tryz.ntmps174
 go_wp2_with fail
 refine bodyPost_ret (v := .agg #[.int .i64 k, .int .u64 w0, .int .u64 w1, .int .u64 w2, .int .u64 w3, .int .i64 lo, .int .i64 hi, .slice A' n' c']) (by simp [results, Tryz.results174, go_sem]) rfl ?_
 exact ⟨rfl, (Below.refl _ w).alloc (Nat.le_refl _) _⟩
theorem seq_n (A : Option Addr) (n c : Nat) (w : World) (hn : 2 ≤ n) (hn2 : n ≤ 9223372036854775807) : Calls Tryz.prog 174 #[.slice A n c] w fun e w' => e = .returned (.agg #[.int .i64 3, .int .u64 0, .int .u64 0, .int .u64 0, .int .u64 0, .int .i64 0, .int .i64 0, .slice A n c]) ∧ Below w.heap.size w w' := by
 have t0 : ((n : Int) == 0) = false := by simp; omega
 have t1 : ((n : Int) == 1) = false := by simp; omega
 go_enter Tryz.func174, Tryz.ntmps174
 go_wp2_with fail
 refine bodyPost_ret (v := .agg #[.int .i64 3, .int .u64 0, .int .u64 0, .int .u64 0, .int .u64 0, .int .i64 0, .int .i64 0, .slice A n c]) (by simp [results, Tryz.results174, go_sem]) rfl ?_
 exact ⟨rfl, (Below.refl _ w).alloc (Nat.le_refl _) _⟩
theorem seq_any (A : Option Addr) (c : Nat) (w : World) (F : Nat → Prop) (l : List Rx) (css : List Value) (hr : RdF w F 8 A l.length css) (hv : RxVs w F l css) (hn2 : l.length ≤ 9223372036854775807) : Calls Tryz.prog 174 #[.slice A l.length c] w (TEnd w F (Rx.seq l)) := by
 match l, hr, hv, hn2 with
 | [], _, _, _ => exact seq_0 A c w F
 | [r], hr, hv, _ =>
  obtain ⟨b, o, rfl, hF, hb, hc⟩ := hr.2 (by simp)
  have hv1 := hv
  unfold RxVs RxVs at hv1
  obtain ⟨cs, css', rfl, hv2, rfl⟩ := hv1
  rw [List.append_nil] at hc
  obtain ⟨k, w0, w1, w2, w3, lo, hi, A, n, c', rfl⟩ := hv2.eight
  refine (seq_1 b o c w _ _ _ _ _ _ _ _ _ _ hb (hc 0 _ rfl) (hc 1 _ rfl) (hc 2 _ rfl) (hc 3 _ rfl) (hc 4 _ rfl) (hc 5 _ rfl) (hc 6 _ rfl) (hc 7 _ rfl)).mono ?_
  rintro e w' ⟨rfl, hbl⟩
  exact ⟨_, rfl, hv2.below hbl, hbl⟩
 | r :: q :: l, hr, hv, hn2 =>
  refine (seq_n A _ c w (by simp) hn2).mono ?_
  rintro e w' ⟨rfl, hbl⟩
  refine ⟨_, rfl, ?_, hbl⟩
  unfold Rx.seq Rx.plain RxV
  exact ⟨A, c, css, rfl, hr.below hbl, hv.below hbl⟩
theorem y61 {P : Prop} (h : P := by
 have hg := h.lt
 have HR0 := hD (R8.mk0 w w.heap.size rfl)
 have HP0 := hD (h.alloc (.cells #[.int .i64 0, .int .u64 0, .int .u64 0, .int .u64 0, .int .u64 0, .int .i64 0, .int .i64 0, .slice none 0 0] 105))
 have HK0 := hD ((Kept.refl (isG g) w).alloc (.cells #[.int .i64 0, .int .u64 0, .int .u64 0, .int .u64 0, .int .u64 0, .int .i64 0, .int .i64 0, .slice none 0 0] 105))
 have hne : ¬ isG g w.heap.size := fun e => absurd hg (by rw [show g = w.heap.size from e.symm]; omega)
 have HB := hD hb
 first
 | guard_hyp t504q0
   have HEE := hD hE
   have HC := hD hc
   clear h hb hE hc
   go_enter Tryz.func172, Tryz.ntmps172
   go_wp2_with fail
   refine (kaU _ HP0.out HB.out).mono ?_
   rintro e w1 ⟨rfl, hp1, hk1⟩
   have hR1 := HR0.out.kept hk1 hne
   have hK1 := HK0.out.then_ hk1
   clear HR0 HP0 HK0 hk1
   go_wp2_with fail
   refine (HEE.out w1 hp1).mono ?_
   rintro e w2 ⟨cs, rfl, hv, hp2, hk2⟩
   obtain ⟨kd, w0', w1', w2', w3', lo, hi, A, n, c, rfl⟩ := hv.eight
   have hR2 := hR1.kept hk2 hne
   have hK2 := hK1.then_ hk2
   have hs1 : w.heap.size < w1.heap.size := hR1.lt
   have hs2 : w1.heap.size ≤ w2.heap.size := hk2.size
   have HV := hD hv
   clear hR1 hK1 hk2 hp1 hv
   have hp2a := hp2.alloc (.cells #[.int .i64 kd, .int .u64 w0', .int .u64 w1', .int .u64 w2', .int .u64 w3', .int .i64 lo, .int .i64 hi, .slice A n c] 105)
   have hK2a := hK2.alloc (.cells #[.int .i64 kd, .int .u64 w0', .int .u64 w1', .int .u64 w2', .int .u64 w3', .int .i64 lo, .int .i64 hi, .slice A n c] 105)
   first
   | guard_hyp t57q0
     have hR2a := hR2.alloc (.cells #[.int .i64 kd, .int .u64 w0', .int .u64 w1', .int .u64 w2', .int .u64 w3', .int .i64 lo, .int .i64 hi, .slice A n c] 105)
     have hX2a : R8 (w2.alloc (.cells #[.int .i64 kd, .int .u64 w0', .int .u64 w1', .int .u64 w2', .int .u64 w3', .int .i64 lo, .int .i64 hi, .slice A n c] 105)) w2.heap.size (.int .i64 kd) (.int .u64 w0') (.int .u64 w1') (.int .u64 w2') (.int .u64 w3') (.int .i64 lo) (.int .i64 hi) (.slice A n c) := Blk.new _ _ _
   | skip
   go_wp2_with fail
   first
   | guard_hyp t57q0
     refine (skY 41 41 rfl _ hp2a HC.out).mono ?_
   | refine (skN 41 41 rfl _ hp2a HC.out).mono ?_
   rintro e w3 ⟨rfl, hp3, hk3⟩
   first
   | guard_hyp t57q0
     have hR3 := hR2a.kept hk3 hne
     have hK3 := hK2a.then_ hk3
     have hgl : g < w2.heap.size := hp2.lt
     have hX3 := hX2a.kept hk3 (fun e => absurd hgl (by rw [show g = w2.heap.size from e.symm]; omega))
     have hs3 : w2.heap.size + 1 ≤ w3.heap.size := by have := hk3.size; simpa using this
     have hk23 : Kept (isG g) w2 w3 := (Kept.alloc (Kept.refl _ w2) (.cells #[.int .i64 kd, .int .u64 w0', .int .u64 w1', .int .u64 w2', .int .u64 w3', .int .i64 lo, .int .i64 hi, .slice A n c] 105)).then_ hk3
     clear hR2a hX2a hR2 hK2 hp2 hk3 hp2a hK2a
     obtain ⟨⟨⟨x0, x1⟩, x2, x3⟩, ⟨x4, x5⟩, x6, x7⟩ := hX3.cells
     clear hX3
     obtain ⟨⟨⟨c0, c1⟩, c2, c3⟩, ⟨c4, c5⟩, c6, c7⟩ := hR3.cells
     obtain ⟨⟨⟨f0, f1⟩, f2, f3⟩, ⟨f4, f5⟩, f6, f7⟩ := hR3.free
     have HZ := hD (hR3.all (.int .i64 kd) (.int .u64 w0') (.int .u64 w1') (.int .u64 w2') (.int .u64 w3') (.int .i64 lo) (.int .i64 hi) (.slice A n c))
     have HP := hD (hp3.far8 (X := w.heap.size) (by omega) (.int .i64 kd) (.int .u64 w0') (.int .u64 w1') (.int .u64 w2') (.int .u64 w3') (.int .i64 lo) (.int .i64 hi) (.slice A n c))
     have HK := hD (kaD hK3 (g := w.heap.size) (.inr (Nat.le_refl _)) (.int .i64 kd) (.int .u64 w0') (.int .u64 w1') (.int .u64 w2') (.int .u64 w3') (.int .i64 lo) (.int .i64 hi) (.slice A n c))
     clear hR3
   | skip
   go_wp2_with fail
   first
   | guard_hyp t57q0
     obtain ⟨⟨⟨d0, d1⟩, d2, d3⟩, ⟨d4, d5⟩, d6, d7⟩ := HZ.out.cells
     unfold set8 at d0 d1 d2 d3 d4 d5 d6 d7
     refine bodyPost_ret (v := .agg #[.int .i64 kd, .int .u64 w0', .int .u64 w1', .int .u64 w2', .int .u64 w3', .int .i64 lo, .int .i64 hi, .slice A n c]) (by simp [results, Tryz.results172, go_sem, d0, d1, d2, d3, d4, d5, d6, d7]) rfl ?_
     refine ⟨_, rfl, ?_, HP.out, HK.out⟩
     have h1 : RxV w3 (rng w1.heap.size w2.heap.size) r _ := HV.out.kept hk23 (fun i hh _ e => by have := hh.1; have e' : i = g := e; omega) (fun i hh _ => hh)
     have h2 := h1.kept (kaD (Kept.refl (fun i => i = w.heap.size) w3) (g := w.heap.size) (.inl rfl) (.int .i64 kd) (.int .u64 w0') (.int .u64 w1') (.int .u64 w2') (.int .u64 w3') (.int .i64 lo) (.int .i64 hi) (.slice A n c)) (G := rng w.heap.size (set8 w3 w.heap.size (.int .i64 kd) (.int .u64 w0') (.int .u64 w1') (.int .u64 w2') (.int .u64 w3') (.int .i64 lo) (.int .i64 hi) (.slice A n c)).heap.size) (fun i hh _ e => by have := hh.1; omega) (fun i hh _ => ⟨by have := hh.1; omega, by
      have hz : w3.heap.size ≤ (set8 w3 w.heap.size (.int .i64 kd) (.int .u64 w0') (.int .u64 w1') (.int .u64 w2') (.int .u64 w3') (.int .i64 lo) (.int .i64 hi) (.slice A n c)).heap.size := (kaD (Kept.refl (fun i => i = w.heap.size) w3) (g := w.heap.size) (.inl rfl) (.int .i64 kd) (.int .u64 w0') (.int .u64 w1') (.int .u64 w2') (.int .u64 w3') (.int .i64 lo) (.int .i64 hi) (.slice A n c)).size
      have := hh.2
      omega⟩)
     exact h2
   | exact ⟨rfl, rfl, ⟨_, hp3⟩, hK2a.then_ hk3⟩
 | first
   | guard_hyp t87q3
     have HEE := hD hE
     clear h hb hE
   | (first | guard_hyp t87q0 | guard_hyp t87q1)
     have t92 : ((b.toNat : Int) == 92) = false := kaT (c := 92) h92
     have t46 : ((b.toNat : Int) == 46) = false := kaT (c := 46) h46
     have t91 : ((b.toNat : Int) == 91) = false := kaT (c := 91) h91
     have t40 : ((b.toNat : Int) == 40) = false := kaT (c := 40) h40
     have hsp := (spec_at b).trans hs
     obtain ⟨ix, hix⟩ : ∃ ix, Lib.indexByte specials b = ix := ⟨_, rfl⟩
     have HI := hD fun w => idx_spec b ix hix w
     rw [hix] at hsp
     clear h hb h92 h46 h91 h40 hs hix
   | (first | guard_hyp t87q2 | guard_hyp t87q6)
     clear h hb
   | have HE := hD he
     clear h hb he
   go_enter Tryz.func172, Tryz.ntmps172
   go_wp2_with fail
   first
   | guard_hyp t87q2
     refine (kc0 _ HP0.out HB.out).mono ?_
   | refine (kaU _ HP0.out HB.out).mono ?_
   rintro e w1 ⟨rfl, hp1, hk1⟩
   first
   | guard_hyp t87q2
   | have hR1 := HR0.out.kept hk1 hne
     have hK1 := HK0.out.then_ hk1
     clear HR0 HP0 HK0 hk1
   go_wp2_with fail
   first
   | guard_hyp t87q0
     refine (HI.out w1).mono ?_
     rintro e w2 ⟨rfl, rfl⟩
     go_wp2_with fail
     refine (one_v b _).mono ?_
     rintro e w3 ⟨rfl, hb3⟩
     have hR3 := hR1.below hb3 hR1.lt
     have hK3 := hK1.then_ (Kept.of_below hb3)
     have hp3 := PS.kept hp1 (Kept.of_below (F := fun _ => False) hb3) id
     clear hR1 hK1 hp1 hb3
     obtain ⟨⟨⟨c0, c1⟩, c2, c3⟩, ⟨c4, c5⟩, c6, c7⟩ := hR3.cells
     obtain ⟨⟨⟨f0, f1⟩, f2, f3⟩, ⟨f4, f5⟩, f6, f7⟩ := hR3.free
     have HZ := hD (hR3.all (.int .i64 2) (.int .u64 (wd (oneS b.toNat) 0)) (.int .u64 (wd (oneS b.toNat) 1)) (.int .u64 (wd (oneS b.toNat) 2)) (.int .u64 (wd (oneS b.toNat) 3)) (.int .i64 0) (.int .i64 0) (.slice none 0 0))
     have HP := hD (hp3.far8 (X := w.heap.size) (by omega) (.int .i64 2) (.int .u64 (wd (oneS b.toNat) 0)) (.int .u64 (wd (oneS b.toNat) 1)) (.int .u64 (wd (oneS b.toNat) 2)) (.int .u64 (wd (oneS b.toNat) 3)) (.int .i64 0) (.int .i64 0) (.slice none 0 0))
     have HK := hD (kaD hK3 (g := w.heap.size) (.inr (Nat.le_refl _)) (.int .i64 2) (.int .u64 (wd (oneS b.toNat) 0)) (.int .u64 (wd (oneS b.toNat) 1)) (.int .u64 (wd (oneS b.toNat) 2)) (.int .u64 (wd (oneS b.toNat) 3)) (.int .i64 0) (.int .i64 0) (.slice none 0 0))
     clear hR3
     go_wp2_with fail
     obtain ⟨⟨⟨d0, d1⟩, d2, d3⟩, ⟨d4, d5⟩, d6, d7⟩ := HZ.out.cells
     unfold set8 at d0 d1 d2 d3 d4 d5 d6 d7
     refine bodyPost_ret (v := .agg #[.int .i64 2, .int .u64 (wd (oneS b.toNat) 0), .int .u64 (wd (oneS b.toNat) 1), .int .u64 (wd (oneS b.toNat) 2), .int .u64 (wd (oneS b.toNat) 3), .int .i64 0, .int .i64 0, .slice none 0 0]) (by simp [results, Tryz.results172, go_sem, d0, d1, d2, d3, d4, d5, d6, d7]) rfl ?_
     exact ⟨_, rfl, RxV.set_any _ _ _, HP.out, HK.out⟩
   | guard_hyp t87q1
     refine (HI.out w1).mono ?_
     rintro e w2 ⟨rfl, rfl⟩
     go_wp2_with fail
     exact ⟨rfl, rfl, ⟨_, hp1⟩, hK1⟩
   | guard_hyp t87q2
     exact ⟨rfl, rfl, hp1, HK0.out.then_ hk1⟩
   | guard_hyp t87q3
     refine (HEE.out w1 hp1).mono ?_
     rintro e w2 ⟨rfl, hp2, hk2⟩
     go_wp2_with fail
     exact ⟨rfl, rfl, hp2, hK1.then_ hk2⟩
   | guard_hyp t87q4
     refine (cls_no w1 hp1 HE.out).mono ?_
     rintro e w2 ⟨rfl, hp2, hk2⟩
     go_wp2_with fail
     exact ⟨rfl, rfl, hp2, hK1.then_ hk2⟩
   | guard_hyp t87q5
     refine (esc_no w1 hp1 HE.out).mono ?_
     rintro e w2 ⟨rfl, hp2, hk2⟩
     go_wp2_with fail
     exact ⟨rfl, rfl, hp2, hK1.then_ hk2⟩
   | guard_hyp t87q6
     refine (dot_v w1).mono ?_
     rintro e w3 ⟨rfl, hb3⟩
     have hR3 := hR1.below hb3 hR1.lt
     have hK3 := hK1.then_ (Kept.of_below hb3)
     have hp3 := PS.kept hp1 (Kept.of_below (F := fun _ => False) hb3) id
     clear hR1 hK1 hp1 hb3
     obtain ⟨⟨⟨c0, c1⟩, c2, c3⟩, ⟨c4, c5⟩, c6, c7⟩ := hR3.cells
     obtain ⟨⟨⟨f0, f1⟩, f2, f3⟩, ⟨f4, f5⟩, f6, f7⟩ := hR3.free
     have HZ := hD (hR3.all (.int .i64 2) (.int .u64 (wd dotS 0)) (.int .u64 (wd dotS 1)) (.int .u64 (wd dotS 2)) (.int .u64 (wd dotS 3)) (.int .i64 0) (.int .i64 0) (.slice none 0 0))
     have HP := hD (hp3.far8 (X := w.heap.size) (by omega) (.int .i64 2) (.int .u64 (wd dotS 0)) (.int .u64 (wd dotS 1)) (.int .u64 (wd dotS 2)) (.int .u64 (wd dotS 3)) (.int .i64 0) (.int .i64 0) (.slice none 0 0))
     have HK := hD (kaD hK3 (g := w.heap.size) (.inr (Nat.le_refl _)) (.int .i64 2) (.int .u64 (wd dotS 0)) (.int .u64 (wd dotS 1)) (.int .u64 (wd dotS 2)) (.int .u64 (wd dotS 3)) (.int .i64 0) (.int .i64 0) (.slice none 0 0))
     clear hR3
     go_wp2_with fail
     obtain ⟨⟨⟨d0, d1⟩, d2, d3⟩, ⟨d4, d5⟩, d6, d7⟩ := HZ.out.cells
     unfold set8 at d0 d1 d2 d3 d4 d5 d6 d7
     refine bodyPost_ret (v := .agg #[.int .i64 2, .int .u64 (wd dotS 0), .int .u64 (wd dotS 1), .int .u64 (wd dotS 2), .int .u64 (wd dotS 3), .int .i64 0, .int .i64 0, .slice none 0 0]) (by simp [results, Tryz.results172, go_sem, d0, d1, d2, d3, d4, d5, d6, d7]) rfl ?_
     exact ⟨_, rfl, RxV.set_any _ _ _, HP.out, HK.out⟩
   | guard_hyp t87q7
     refine (cls_yes w1 hp1 HE.out).mono ?_
     rintro e w2 ⟨rfl, hp2, hk2⟩
     have hR2 := hR1.kept hk2 hne
     have hK2 := hK1.then_ hk2
     clear hR1 hK1 hk2 hp1
     obtain ⟨⟨⟨c0, c1⟩, c2, c3⟩, ⟨c4, c5⟩, c6, c7⟩ := hR2.cells
     obtain ⟨⟨⟨f0, f1⟩, f2, f3⟩, ⟨f4, f5⟩, f6, f7⟩ := hR2.free
     have HZ := hD (hR2.all (.int .i64 2) (.int .u64 (wd S 0)) (.int .u64 (wd S 1)) (.int .u64 (wd S 2)) (.int .u64 (wd S 3)) (.int .i64 0) (.int .i64 0) (.slice none 0 0))
     have HP := hD (hp2.far8 (X := w.heap.size) (by omega) (.int .i64 2) (.int .u64 (wd S 0)) (.int .u64 (wd S 1)) (.int .u64 (wd S 2)) (.int .u64 (wd S 3)) (.int .i64 0) (.int .i64 0) (.slice none 0 0))
     have HK := hD (kaD hK2 (g := w.heap.size) (.inr (Nat.le_refl _)) (.int .i64 2) (.int .u64 (wd S 0)) (.int .u64 (wd S 1)) (.int .u64 (wd S 2)) (.int .u64 (wd S 3)) (.int .i64 0) (.int .i64 0) (.slice none 0 0))
     clear hR2
     go_wp2_with fail
     obtain ⟨⟨⟨d0, d1⟩, d2, d3⟩, ⟨d4, d5⟩, d6, d7⟩ := HZ.out.cells
     unfold set8 at d0 d1 d2 d3 d4 d5 d6 d7
     refine bodyPost_ret (v := .agg #[.int .i64 2, .int .u64 (wd S 0), .int .u64 (wd S 1), .int .u64 (wd S 2), .int .u64 (wd S 3), .int .i64 0, .int .i64 0, .slice none 0 0]) (by simp [results, Tryz.results172, go_sem, d0, d1, d2, d3, d4, d5, d6, d7]) rfl ?_
     exact ⟨_, rfl, RxV.set_any _ _ _, HP.out, HK.out⟩
   | refine (esc_yes w1 hp1 HE.out).mono ?_
     rintro e w2 ⟨rfl, hp2, hk2⟩
     have hR2 := hR1.kept hk2 hne
     have hK2 := hK1.then_ hk2
     clear hR1 hK1 hk2 hp1
     go_wp2_with fail
     refine (one_v x w2).mono ?_
     rintro e w3 ⟨rfl, hb3⟩
     have hR3 := hR2.below hb3 hR2.lt
     have hK3 := hK2.then_ (Kept.of_below hb3)
     have hp3 := PS.kept hp2 (Kept.of_below (F := fun _ => False) hb3) id
     clear hR2 hK2 hp2 hb3
     obtain ⟨⟨⟨c0, c1⟩, c2, c3⟩, ⟨c4, c5⟩, c6, c7⟩ := hR3.cells
     obtain ⟨⟨⟨f0, f1⟩, f2, f3⟩, ⟨f4, f5⟩, f6, f7⟩ := hR3.free
     have HZ := hD (hR3.all (.int .i64 2) (.int .u64 (wd (oneS x.toNat) 0)) (.int .u64 (wd (oneS x.toNat) 1)) (.int .u64 (wd (oneS x.toNat) 2)) (.int .u64 (wd (oneS x.toNat) 3)) (.int .i64 0) (.int .i64 0) (.slice none 0 0))
     have HP := hD (hp3.far8 (X := w.heap.size) (by omega) (.int .i64 2) (.int .u64 (wd (oneS x.toNat) 0)) (.int .u64 (wd (oneS x.toNat) 1)) (.int .u64 (wd (oneS x.toNat) 2)) (.int .u64 (wd (oneS x.toNat) 3)) (.int .i64 0) (.int .i64 0) (.slice none 0 0))
     have HK := hD (kaD hK3 (g := w.heap.size) (.inr (Nat.le_refl _)) (.int .i64 2) (.int .u64 (wd (oneS x.toNat) 0)) (.int .u64 (wd (oneS x.toNat) 1)) (.int .u64 (wd (oneS x.toNat) 2)) (.int .u64 (wd (oneS x.toNat) 3)) (.int .i64 0) (.int .i64 0) (.slice none 0 0))
     clear hR3
     go_wp2_with fail
     obtain ⟨⟨⟨d0, d1⟩, d2, d3⟩, ⟨d4, d5⟩, d6, d7⟩ := HZ.out.cells
     unfold set8 at d0 d1 d2 d3 d4 d5 d6 d7
     refine bodyPost_ret (v := .agg #[.int .i64 2, .int .u64 (wd (oneS x.toNat) 0), .int .u64 (wd (oneS x.toNat) 1), .int .u64 (wd (oneS x.toNat) 2), .int .u64 (wd (oneS x.toNat) 3), .int .i64 0, .int .i64 0, .slice none 0 0]) (by simp [results, Tryz.results172, go_sem, d0, d1, d2, d3, d4, d5, d6, d7]) rfl ?_
     exact ⟨_, rfl, RxV.set_any _ _ _, HP.out, HK.out⟩) : P := h
theorem y17 {P : Prop} (h : P := by
 have t504q0 := True.intro
 exact y61) : P := h
theorem y20 {P : Prop} (h : P := by
 exact y61) : P := h
def rng (a b : Nat) : Nat → Prop := fun i => a ≤ i ∧ i < b
def TRes (T : List UInt8) (w : World) (g : Nat) (r : Option (Rx × Nat)) (e : Ending) (w' : World) : Prop := match r with
 | none => PFail T w g e w'
 | some (r, k') => ∃ cs, e = .returned (.agg cs.toArray) ∧ RxV w' (rng w.heap.size w'.heap.size) r cs ∧ PS T w' g k' ∧ Kept (isG g) w w'
theorem PS.far8 {T : List UInt8} {w : World} {g k X : Nat} (h : PS T w g k) (hg : g ≠ X) (u0 u1 u2 u3 u4 u5 u6 u7 : Value) : PS T (set8 w X u0 u1 u2 u3 u4 u5 u6 u7) g k := ⟨Blk.set8 h.1 hg u0 u1 u2 u3 u4 u5 u6 u7, h.2⟩
theorem RxV.set_any (w : World) (F : Nat → Prop) (S : LS) : RxV w F (Rx.set S) [.int .i64 2, .int .u64 (wd S 0), .int .u64 (wd S 1), .int .u64 (wd S 2), .int .u64 (wd S 3), .int .i64 0, .int .i64 0, .slice none 0 0] := by
 unfold Rx.set RxV RxVs
 exact ⟨none, 0, [], rfl, ⟨rfl, fun h => absurd h (by simp)⟩, rfl⟩
theorem RxV.kept {w w' : World} {K F G : Nat → Prop} {r : Rx} {cs : List Value} (h : RxV w F r cs) (k : Kept K w w') (hd : ∀ i, F i → i < w.heap.size → ¬ K i) (hG : ∀ i, F i → i < w.heap.size → G i) : RxV w' G r cs :=
 RxV.keep (fun i hi hl => k.block i hl (hd i hi hl)) k.size hG r cs h
theorem RxVs.kept {w w' : World} {K F G : Nat → Prop} {l : List Rx} {cs : List Value} (h : RxVs w F l cs) (k : Kept K w w') (hd : ∀ i, F i → i < w.heap.size → ¬ K i) (hG : ∀ i, F i → i < w.heap.size → G i) : RxVs w' G l cs :=
 RxVs.keep (fun i hi hl => k.block i hl (hd i hi hl)) k.size hG l cs h
theorem esc_yes {T : List UInt8} {g k k' : Nat} {x : UInt8} (w : World) (h : PS T w g k) (hn : escP T k = some (x, k')) : Calls Tryz.prog 204 #[.pointer (some ⟨g, 0, none⟩)] w (PStep T w g (.int .u8 x.toNat) k') := by
 have := kjI w h
 rw [hn] at this
 exact this
theorem esc_no {T : List UInt8} {g k : Nat} (w : World) (h : PS T w g k) (hn : escP T k = none) : Calls Tryz.prog 204 #[.pointer (some ⟨g, 0, none⟩)] w (PFail T w g) := by
 have := kjI w h
 rw [hn] at this
 exact this
theorem cls_yes {T : List UInt8} {g k k' : Nat} {S : LS} (w : World) (h : PS T w g k) (hn : kb6 T k = some (S, k')) : Calls Tryz.prog 206 #[.pointer (some ⟨g, 0, none⟩)] w (PStep T w g (.agg #[.int .u64 (wd S 0), .int .u64 (wd S 1), .int .u64 (wd S 2), .int .u64 (wd S 3)]) k') := by
 have := kgL w h
 rw [hn] at this
 exact this
theorem cls_no {T : List UInt8} {g k : Nat} (w : World) (h : PS T w g k) (hn : kb6 T k = none) : Calls Tryz.prog 206 #[.pointer (some ⟨g, 0, none⟩)] w (PFail T w g) := by
 have := kgL w h
 rw [hn] at this
 exact this
theorem one_v (b : UInt8) (w : World) : Calls Tryz.prog 203 #[.int .u8 b.toNat] w fun e w' => e = .returned (.agg #[.int .i64 2, .int .u64 (wd (oneS b.toNat) 0), .int .u64 (wd (oneS b.toNat) 1), .int .u64 (wd (oneS b.toNat) 2), .int .u64 (wd (oneS b.toNat) 3), .int .i64 0, .int .i64 0, .slice none 0 0]) ∧ Below w.heap.size w w' := one_any b w
theorem dot_v (w : World) : Calls Tryz.prog 205 #[] w fun e w' => e = .returned (.agg #[.int .u64 (wd dotS 0), .int .u64 (wd dotS 1), .int .u64 (wd dotS 2), .int .u64 (wd dotS 3)]) ∧ Below w.heap.size w w' := dot_any w
theorem spec_all : ∀ b : Fin 256, decide (0 ≤ Lib.indexByte specials (UInt8.ofNat b.val)) = specials.contains (UInt8.ofNat b.val) := by decide +kernel
theorem spec_at (b : UInt8) : decide (0 ≤ Lib.indexByte specials b) = specials.contains b := by
 have := spec_all ⟨b.toNat, b.toNat_lt⟩
 simpa using this
theorem idx_spec (b : UInt8) (ix : Int) (hix : Lib.indexByte specials b = ix) (w : World) : Calls Tryz.prog 207 #[.string ⟨#[92, 46, 91, 93, 40, 41, 123, 125, 124, 42, 43, 63]⟩, .int .u8 b.toNat] w fun e w' => e = .returned (.int .i64 ix) ∧ w = w' := by
 subst hix
 refine (Tryz.strings_IndexByte ⟨#[92, 46, 91, 93, 40, 41, 123, 125, 124, 42, 43, 63]⟩ (b.toNat : Int) w).mono ?_
 rintro e w' ⟨rfl, rfl⟩
 exact ⟨by simp [specials], rfl⟩
set_option maxHeartbeats 4000000
theorem klm {T : List UInt8} {g k : Nat} (w : World) (h : PS T w g k) (hb : T[k]? = none) : Calls Tryz.prog 172 #[.pointer (some ⟨g, 0, none⟩)] w (PFail T w g) := by
 have t87q2 := True.intro
 exact y20
theorem klo {T : List UInt8} {g k : Nat} (w : World) (h : PS T w g k) (hb : T[k]? = some 92) (he : escP T (k + 1) = none) : Calls Tryz.prog 172 #[.pointer (some ⟨g, 0, none⟩)] w (PFail T w g) := by
 have t87q5 := True.intro
 exact y20
theorem kln {T : List UInt8} {g k : Nat} (w : World) (h : PS T w g k) {x : UInt8} {k' : Nat} (hb : T[k]? = some 92) (he : escP T (k + 1) = some (x, k')) : Calls Tryz.prog 172 #[.pointer (some ⟨g, 0, none⟩)] w (TRes T w g (some (Rx.one x, k'))) := by
 exact y20
theorem term_dot {T : List UInt8} {g k : Nat} (w : World) (h : PS T w g k) (hb : T[k]? = some 46) : Calls Tryz.prog 172 #[.pointer (some ⟨g, 0, none⟩)] w (TRes T w g (some (Rx.set dotS, k + 1))) := by
 have t87q6 := True.intro
 exact y20
theorem klq {T : List UInt8} {g k : Nat} (w : World) (h : PS T w g k) (hb : T[k]? = some 91) (he : kb6 T (k + 1) = none) : Calls Tryz.prog 172 #[.pointer (some ⟨g, 0, none⟩)] w (PFail T w g) := by
 have t87q4 := True.intro
 exact y20
theorem klp {T : List UInt8} {g k : Nat} (w : World) (h : PS T w g k) {S : LS} {k' : Nat} (hb : T[k]? = some 91) (he : kb6 T (k + 1) = some (S, k')) : Calls Tryz.prog 172 #[.pointer (some ⟨g, 0, none⟩)] w (TRes T w g (some (Rx.set S, k'))) := by
 have t87q7 := True.intro
 exact y20
theorem kll {T : List UInt8} {g k : Nat} (w : World) (h : PS T w g k) (hb : T[k]? = some 40) (hE : ∀ w1, PS T w1 g (k + 1) → Calls Tryz.prog 90 #[.pointer (some ⟨g, 0, none⟩)] w1 (TRes T w1 g none)) : Calls Tryz.prog 172 #[.pointer (some ⟨g, 0, none⟩)] w (PFail T w g) := by
 have t87q3 := True.intro
 exact y20
theorem klk {T : List UInt8} {g k : Nat} (w : World) (h : PS T w g k) (hb : T[k]? = some 40) {r : Rx} {k' : Nat} (hE : ∀ w1, PS T w1 g (k + 1) → Calls Tryz.prog 90 #[.pointer (some ⟨g, 0, none⟩)] w1 (TRes T w1 g (some (r, k')))) (hc : ¬ T[k']? = some 41) : Calls Tryz.prog 172 #[.pointer (some ⟨g, 0, none⟩)] w (PFail T w g) := by
 exact y17
theorem klj {T : List UInt8} {g k : Nat} (w : World) (h : PS T w g k) (hb : T[k]? = some 40) {r : Rx} {k' : Nat} (hE : ∀ w1, PS T w1 g (k + 1) → Calls Tryz.prog 90 #[.pointer (some ⟨g, 0, none⟩)] w1 (TRes T w1 g (some (r, k')))) (hc : T[k']? = some 41) : Calls Tryz.prog 172 #[.pointer (some ⟨g, 0, none⟩)] w (TRes T w g (some (r, k' + 1))) := by
 have t57q0 := True.intro
 exact y17
theorem kli {T : List UInt8} {g k : Nat} (w : World) (h : PS T w g k) {b : UInt8} (hb : T[k]? = some b) (h92 : b ≠ 92) (h46 : b ≠ 46) (h91 : b ≠ 91) (h40 : b ≠ 40) (hs : specials.contains b = true) : Calls Tryz.prog 172 #[.pointer (some ⟨g, 0, none⟩)] w (PFail T w g) := by
 have t87q1 := True.intro
 exact y20
theorem kj5 {T : List UInt8} {g k : Nat} (w : World) (h : PS T w g k) {b : UInt8} (hb : T[k]? = some b) (h92 : b ≠ 92) (h46 : b ≠ 46) (h91 : b ≠ 91) (h40 : b ≠ 40) (hs : specials.contains b = false) : Calls Tryz.prog 172 #[.pointer (some ⟨g, 0, none⟩)] w (TRes T w g (some (Rx.one b, k + 1))) := by
 have t87q0 := True.intro
 exact y20
theorem term_any {T : List UInt8} {g k : Nat} (w : World) (E : Nat → Option (Rx × Nat)) (h : PS T w g k) (hE : ∀ w1, PS T w1 g (k + 1) → Calls Tryz.prog 90 #[.pointer (some ⟨g, 0, none⟩)] w1 (TRes T w1 g (E (k + 1)))) : Calls Tryz.prog 172 #[.pointer (some ⟨g, 0, none⟩)] w (TRes T w g (kdC T E k)) := by
 unfold kdC
 rcases hb : T[k]? with _ | b
 ·
  exact klm w h hb
 simp only
 by_cases h92 : b = 92
 ·
  rw [if_pos h92]
  subst h92
  rcases he : escP T (k + 1) with _ | ⟨x, k'⟩
  ·
   exact klo w h hb he
  ·
   exact kln w h hb he
 rw [if_neg h92]
 by_cases h46 : b = 46
 ·
  rw [if_pos h46]
  subst h46
  exact term_dot w h hb
 rw [if_neg h46]
 by_cases h91 : b = 91
 ·
  rw [if_pos h91]
  subst h91
  rcases he : kb6 T (k + 1) with _ | ⟨x, k'⟩
  ·
   exact klq w h hb he
  ·
   exact klp w h hb he
 rw [if_neg h91]
 by_cases h40 : b = 40
 ·
  rw [if_pos h40]
  subst h40
  rcases he : E (k + 1) with _ | ⟨r, k'⟩
  ·
   rw [he] at hE
   exact kll w h hb hE
  ·
   rw [he] at hE
   simp only
   by_cases hc : T[k']? = some 41
   ·
    rw [if_pos hc]; exact klj w h hb hE hc
   ·
    rw [if_neg hc]; exact klk w h hb hE hc
 rw [if_neg h40]
 rcases hs : specials.contains b with _ | _
 ·
  exact kj5 w h hb h92 h46 h91 h40 hs
 ·
  exact kli w h hb h92 h46 h91 h40 hs
set_option maxRecDepth 100000
structure KeyS where
 op : List UInt8
 text : List UInt8
 a : Int
 b : Int
 c : Int
 num : Int
deriving DecidableEq
def encK (k : KeyS) : Value := .agg #[.string ⟨k.op.toArray⟩, .string ⟨k.text.toArray⟩, .int .i64 k.a, .int .i64 k.b, .int .i64 k.c, .int .i64 k.num]
theorem keyU : (Tryz.prog.underlying 166).map (fun d => match d with | .struct fs => fs.toList.map (fun f => (decide (f.name = "_"), f.type, f.offset)) | _ => []) = some [(false, 9, 0), (false, 9, 1), (false, 164, 2), (false, 3, 5)] := by kernel_rfl
theorem arrU : Tryz.prog.underlying 164 = some (.array 3 3) := by kernel_rfl
theorem keyF : ∃ f1 f2 f3 f4 : Field, Tryz.prog.underlying 166 = some (.struct #[f1, f2, f3, f4]) ∧ (f1.name ≠ "_" ∧ f1.type = 9 ∧ f1.offset = 0) ∧ (f2.name ≠ "_" ∧ f2.type = 9 ∧ f2.offset = 1) ∧ (f3.name ≠ "_" ∧ f3.type = 164 ∧ f3.offset = 2) ∧ (f4.name ≠ "_" ∧ f4.type = 3 ∧ f4.offset = 5) := by
 have h := keyU
 cases hd : Tryz.prog.underlying 166 with
 | none => rw [hd] at h; cases h
 | some d =>
  rw [hd] at h
  simp only [Option.map_some, Option.some.injEq] at h
  cases d <;> simp only [reduceCtorEq] at h
  rename_i fs
  obtain ⟨fs⟩ := fs
  match fs, h with
  | [f1, f2, f3, f4], h =>
   simp at h
   exact ⟨f1, f2, f3, f4, rfl, ⟨h.1.1, h.1.2⟩, ⟨h.2.1.1, h.2.1.2⟩, ⟨h.2.2.1.1, h.2.2.1.2⟩, ⟨h.2.2.2.1, h.2.2.2.2⟩⟩
theorem kgd (a b c d e f : Value) (w : World) : (part 9 #[a, b, c, d, e, f] 0).run Tryz.prog w = .ok a w := by kernel_rfl
theorem kgc (a b c d e f : Value) (w : World) : (part 9 #[a, b, c, d, e, f] 1).run Tryz.prog w = .ok b w := by kernel_rfl
theorem kgf (a b c d e f : Value) (w : World) : (part 164 #[a, b, c, d, e, f] 2).run Tryz.prog w = .ok (.agg #[c, d, e]) w := by kernel_rfl
theorem kge (a b c d e f : Value) (w : World) : (part 3 #[a, b, c, d, e, f] 5).run Tryz.prog w = .ok f w := by kernel_rfl
theorem kjz (a b c : Value) (w : World) : (part 3 #[a, b, c] 0).run Tryz.prog w = .ok a w := by kernel_rfl
theorem kjy (a b c : Value) (w : World) : (part 3 #[a, b, c] 1).run Tryz.prog w = .ok b w := by kernel_rfl
theorem kjx (a b c : Value) (w : World) : (part 3 #[a, b, c] 2).run Tryz.prog w = .ok c w := by kernel_rfl
theorem size_int (w : World) : (sizeOf 3).run Tryz.prog w = .ok 1 w := by kernel_rfl
theorem eq_str (d : Nat) (a b : ByteArray) (w : World) : (Op.equalIn (d + 1) 9 (.string a) (.string b)).run Tryz.prog w = .ok (a == b) w := by
 rw [Op.equalIn]; simp [run_underlying Tryz.underlying9, Sem.run_bind, Result.andThen]
theorem kh9 (d : Nat) (a b : Int) (w : World) : (Op.equalIn (d + 1) 3 (.int .i64 a) (.int .i64 b)).run Tryz.prog w = .ok (a == b) w := by
 rw [Op.equalIn]; simp [run_underlying Tryz.underlying3, Sem.run_bind, Result.andThen]
theorem eq_arr (d : Nat) (a b c x y z : Int) (w : World) : (Op.equalIn (d + 1 + 1) 164 (.agg #[.int .i64 a, .int .i64 b, .int .i64 c]) (.agg #[.int .i64 x, .int .i64 y, .int .i64 z])).run Tryz.prog w = .ok (a == x && b == y && c == z) w := by
 rw [Op.equalIn]
 simp [run_underlying arrU, Sem.run_bind, Result.andThen]
 rw [show List.range' 0 3 = [0, 1, 2] from rfl]
 by_cases h1 : a = x <;> by_cases h2 : b = y <;> by_cases h3 : c = z <;> simp [h1, h2, h3, Result.andThen, Sem.run_bind, kjz, kjy, kjx, kh9]
theorem kfz (a b : List UInt8) : ((⟨a.toArray⟩ : ByteArray) == ⟨b.toArray⟩) = decide (a = b) := by
 show (a.toArray == b.toArray) = _
 by_cases h : a = b
 ·
  subst h; simp
 ·
  simp [h]
theorem kdG (w : World) : KeyEq Tryz.prog 166 encK w (fun _ => True) where
 check := fun k em _ => by
  have hs : ∀ (n : Nat) (a : ByteArray), (Instr.checkKey em (n + 1) 9 (.string a)).run Tryz.prog w = .ok () w := fun n a => by
   rw [Instr.checkKey]; simp [run_underlying Tryz.underlying9, Sem.run_bind, Result.andThen]
  have hi : ∀ (n : Nat) (a : Int), (Instr.checkKey em (n + 1) 3 (.int .i64 a)).run Tryz.prog w = .ok () w := fun n a => by
   rw [Instr.checkKey]; simp [run_underlying Tryz.underlying3, Sem.run_bind, Result.andThen]
  have ha : ∀ (n : Nat) (a b c : Int), (Instr.checkKey em (n + 1 + 1) 164 (.agg #[.int .i64 a, .int .i64 b, .int .i64 c])).run Tryz.prog w = .ok () w := fun n a b c => by
   rw [Instr.checkKey]
   simp [run_underlying arrU, Sem.run_bind, Result.andThen]
   rw [show List.range' 0 3 = [0, 1, 2] from rfl]
   simp [Result.andThen, Sem.run_bind, kjz, kjy, kjx, hi, size_int]
  have h : ∀ n : Nat, (Instr.checkKey em (n + 1 + 1 + 1) 166 (encK k)).run Tryz.prog w = .ok () w := fun n => by
   obtain ⟨f1, f2, f3, f4, hu, ⟨a1, a2, a3⟩, ⟨b1, b2, b3⟩, ⟨c1, c2, c3⟩, ⟨d1, d2, d3⟩⟩ := keyF
   unfold encK
   rw [Instr.checkKey]
   simp [run_underlying hu, a1, a2, a3, b1, b2, b3, c1, c2, c3, d1, d2, d3, kgd, kgc, kgf, kge, hs, hi, ha, Sem.run_bind, Result.andThen]
  exact h 9997
 find := fun k es _ => by
  obtain ⟨f1, f2, f3, f4, hu, _⟩ := keyF
  cases es with
  | nil => simp [Instr.findKey, run_underlying hu, Instr.findNow, Instr.findAsking]
  | cons e es => simp [Instr.findKey, run_underlying hu, Instr.findNow, Instr.sameNow]
 eq := fun a b _ _ => by
  obtain ⟨f1, f2, f3, f4, hu, ⟨a1, a2, a3⟩, ⟨b1, b2, b3⟩, ⟨c1, c2, c3⟩, ⟨d1, d2, d3⟩⟩ := keyF
  obtain ⟨x1, x2, x3, x4, x5, x6⟩ := a
  obtain ⟨y1, y2, y3, y4, y5, y6⟩ := b
  have h : ∀ d : Nat, (Op.equalIn (d + 1 + 1 + 1) 166 (encK ⟨x1, x2, x3, x4, x5, x6⟩) (encK ⟨y1, y2, y3, y4, y5, y6⟩)).run Tryz.prog w = .ok (decide ((⟨x1, x2, x3, x4, x5, x6⟩ : KeyS) = ⟨y1, y2, y3, y4, y5, y6⟩)) w := fun d => by
   unfold encK
   rw [Op.equalIn]
   simp [run_underlying hu, a1, a2, a3, b1, b2, b3, c1, c2, c3, d1, d2, d3, kgd, kgc, kgf, kge, eq_str, eq_arr, kh9, kfz, Sem.run_bind, Result.andThen]
   by_cases h1 : x1 = y1 <;> by_cases h2 : x2 = y2 <;> by_cases h3 : x3 = y3 <;> by_cases h4 : x4 = y4 <;> by_cases h5 : x5 = y5 <;> by_cases h6 : x6 = y6 <;>
    simp [h1, h2, h3, h4, h5, h6, run_underlying hu, a1, a2, a3, b1, b2, b3, c1, c2, c3, d1, d2, d3, kgd, kgc, kgf, kge, eq_str, eq_arr, kh9, kfz, Sem.run_bind, Result.andThen]
  exact h 9997
 bits := fun k _ => by
  have h : ∀ n : Nat, Instr.sameBits (n + 1) (encK k) (encK k) = true := fun n => by unfold encK; cases n <;> simp [Instr.sameBits, kfz]
  exact h 9999
end Go.Proofs.YtamhdmkolfmmdaaGreatDoor
