/- Plain: the inside of a class, place by place; slices of a string. -/
import Derived.Test.YtpiagfmjekcncaaDoorjElem
import Derived.Test.YtpiagfmjekcncaaDoorjLet
import Derived.Deep.LoopGhost
import Derived.Outline
import Derived.Deep.RegionWith
set_option linter.unusedVariables false
set_option linter.unusedSimpArgs false
set_option linter.unusedSectionVars false
namespace Go.Proofs.YtpiagfmjekcncaaDoor
open Go.RowKit
theorem elemP_pos {l : List UInt8} {b : UInt8} {u : Nat} (h : elemP l = some (b, u)) : 1 ≤ u ∧ u ≤ l.length := by
  rcases l with _ | ⟨c, t⟩
  · cases h
  rw [elemP_cons] at h
  split at h
  · cases h
  split at h
  · injection h with h; injection h with h1 h2; subst h2; simp
  split at h
  · cases h
  · rename_i x k e
    have := escP_pos e
    injection h with h; injection h with h1 h2; omega
theorem lsP_step (t : List UInt8) (f k : Nat) (S : LS) (hk : k < t.length) : lsP (f + 1) (t.drop k) S = match elemP (t.drop k) with
    | none => none
    | some (lo, u) => if t[k + u]? = some 45 then (match elemP (t.drop (k + u + 1)) with
        | none => none
        | some (hi, u') => if hi < lo then none else lsP f (t.drop (k + u + 1 + u')) (orS S (spanS lo.toNat hi.toNat)))
      else lsP f (t.drop (k + u)) (orS S (spanS lo.toNat lo.toNat)) := by
  have hd : t.drop k = t[k] :: t.drop (k + 1) := by rw [List.drop_eq_getElem_cons hk]
  have h0 : lsP (f + 1) (t.drop k) S = match elemP (t.drop k) with
      | none => none
      | some (lo, u) => match (t.drop k).drop u with
        | 45 :: t' => match elemP t' with
          | none => none
          | some (hi, u') => if hi < lo then none else lsP f (t'.drop u') (orS S (spanS lo.toNat hi.toNat))
        | t' => lsP f t' (orS S (spanS lo.toNat lo.toNat)) := by
    rw [hd]
    rfl
  rw [h0]
  rcases elemP (t.drop k) with _ | ⟨lo, u⟩
  · rfl
  simp only
  rw [List.drop_drop]
  rcases hc : t[k + u]? with _ | c
  · have : t.drop (k + u) = [] := by
      have := List.getElem?_eq_none_iff.1 hc
      rw [List.drop_eq_nil_iff]; omega
    rw [this]
    rw [if_neg (by simp)]
  · have hl := at_lt hc
    have hg : t[k + u] = c := by rw [List.getElem?_eq_getElem hl] at hc; injection hc
    have hd2 : t.drop (k + u) = c :: t.drop (k + u + 1) := by rw [List.drop_eq_getElem_cons hl, hg]
    by_cases h45 : c = 45
    · subst h45
      rw [if_pos rfl, hd2]
      simp only
      rcases elemP (t.drop (k + u + 1)) with _ | ⟨hi, u'⟩
      · rfl
      simp only [List.drop_drop]
    · rw [if_neg (by simpa using h45), hd2]
      split
      · rename_i t' he
        injection he with he _
        exact absurd he h45
      · rfl
theorem lsP_end (t : List UInt8) (f k : Nat) (S : LS) (hk : t.length ≤ k) : lsP (f + 1) (t.drop k) S = some S := by
  rw [List.drop_eq_nil_iff.2 hk]
  rfl
theorem sliceT (t : List UInt8) (k : Nat) (hk : k ≤ t.length) (w : World) : (Instr.slice 9 (.string ⟨t.toArray⟩) (some (.int .i64 k)) none none).run Tryd.prog w = .ok (.string ⟨(t.drop k).toArray⟩) w := by
  have hs : (ByteArray.mk t.toArray).size = t.length := by simp [ByteArray.size]
  have e : (ByteArray.mk t.toArray).extract k t.length = ⟨(t.drop k).toArray⟩ := by
    rw [ByteArray.extract_mk]
    congr 2
    exact List.take_of_length_le (by simp)
  have hi : 0 ≤ (k : Int) ∧ (k : Int) ≤ ((t.length : Nat) : Int) := ⟨by omega, by omega⟩
  simp [Instr.slice, Instr.sliceBounds, Instr.sliceBound, asIntOf, run_underlying Tryd.underlying9, hs, hi, e]
  intro hc
  omega
theorem sliceT2 (t : List UInt8) (i j : Nat) (hi : i ≤ j) (hj : j ≤ t.length) (w : World) : (Instr.slice 9 (.string ⟨t.toArray⟩) (some (.int .i64 i)) (some (.int .i64 j)) none).run Tryd.prog w = .ok (.string ⟨((t.drop i).take (j - i)).toArray⟩) w := by
  have hs : (ByteArray.mk t.toArray).size = t.length := by simp [ByteArray.size]
  rw [run_slice_string _ _ _ _ _ _ _ Tryd.underlying9 (by omega) (by omega) (by omega), ← ByteArray.extract_mk]
  rfl
end Go.Proofs.YtpiagfmjekcncaaDoor
namespace Go.Proofs.YtpiagfmjekcncaaDoor
open Go.RowKit
def formE : Value := .iface 41 (.int .i64 4)
def LsEnd (w : World) (r : Option LS) (e : Ending) (w' : World) : Prop := (match r with
  | some S => e = .returned (.tuple #[lsV S, .nilIface])
  | none => e = .returned (.tuple #[lsV noneS, formE])) ∧ Below w.heap.size w w'
theorem elem_yes {l : List UInt8} {b : UInt8} {u : Nat} (h : elemP l = some (b, u)) (w : World) : Calls Tryd.prog 81 #[.string ⟨l.toArray⟩] w fun e w' => e = .returned (.tuple #[.int .u8 b.toNat, .int .i64 u]) ∧ ∃ n, w' = w.drewN n := by
  have := elem_any l w
  rw [h] at this
  exact this
theorem elem_no {l : List UInt8} (h : elemP l = none) (w : World) : Calls Tryd.prog 81 #[.string ⟨l.toArray⟩] w fun e w' => e = .returned (.tuple #[.int .u8 0, .int .i64 0]) ∧ ∃ n, w' = w.drewN n := by
  have := elem_any l w
  rw [h] at this
  exact this
def LsRel (w : World) (t : List UInt8) (R : Option LS) (f : Nat) (i : Value) (wr : World) : Prop :=
  ∃ (k : Nat) (S : LS), i = .int .i64 k ∧ k ≤ t.length ∧ t.length - k < f ∧ Hid (lsP f (t.drop k) S = R) ∧ LBlk wr (w.heap.size + 1) S ∧ LBlk wr w.heap.size noneS ∧ Below w.heap.size w wr
theorem LBlk.zero {w : World} {g : Nat} {S : LS} (h : LBlk w g S) : LBlk ((((w.setCell ⟨g, 0, none⟩ (.int .u64 0)).setCell ⟨g, 1, none⟩ (.int .u64 0)).setCell ⟨g, 2, none⟩ (.int .u64 0)).setCell ⟨g, 3, none⟩ (.int .u64 0)) g noneS := by
  have := h.all noneS
  rw [wd_none, wd_none, wd_none, wd_none] at this
  exact this
theorem below_all {B g : Nat} {w w' : World} (h : Below B w w') (hg : B ≤ g) (u0 u1 u2 u3 : Value) : Below B w ((((w'.setCell ⟨g, 0, none⟩ u0).setCell ⟨g, 1, none⟩ u1).setCell ⟨g, 2, none⟩ u2).setCell ⟨g, 3, none⟩ u3) :=
  (((h.setCell hg u0).setCell hg u1).setCell hg u2).setCell hg u3
theorem ls_next {w w2 w3 w4 : World} {t : List UInt8} {R : Option LS} {f k' : Nat} {S S' : LS} (hk : k' ≤ t.length) (hf : t.length - k' < f) (HP : Hid (lsP f (t.drop k') S' = R)) (hB2 : LBlk w2 (w.heap.size + 1) S) (hN2 : LBlk w2 w.heap.size noneS) (hb2 : Below w.heap.size w w2)
    (hb3 : Below w2.drew.heap.size w2.drew w3) (hb4 : Below w3.heap.size w3 w4) :
    LsRel w t R f (.int .i64 k') ((((w4.setCell ⟨w.heap.size + 1, 0, none⟩ (.int .u64 (wd S' 0))).setCell ⟨w.heap.size + 1, 1, none⟩ (.int .u64 (wd S' 1))).setCell ⟨w.heap.size + 1, 2, none⟩ (.int .u64 (wd S' 2))).setCell ⟨w.heap.size + 1, 3, none⟩ (.int .u64 (wd S' 3))) := by
  have hg : w.heap.size + 1 < w2.heap.size := Blk.lt hB2
  have hg3 : w.heap.size + 1 < w3.heap.size := Nat.lt_of_lt_of_le hg hb3.size
  have hB4 : LBlk w4 (w.heap.size + 1) S := Blk.below (Blk.below (Blk.drew hB2) hb3 hg) hb4 hg3
  have hN4 : LBlk w4 w.heap.size noneS := Blk.below (Blk.below (Blk.drew hN2) hb3 (by show w.heap.size < w2.heap.size; omega)) hb4 (by omega)
  have hb : Below w.heap.size w w4 := (hb2.drew.trans (hb3.mono (by show _ ≤ w2.heap.size; omega))).trans (hb4.mono (by omega))
  exact ⟨k', S', rfl, hk, hf, HP, hB4.all S', (((hN4.far (by simp) _).far (by simp) _).far (by simp) _).far (by simp) _,
    (((hb.setCell (by simp) _).setCell (by simp) _).setCell (by simp) _).setCell (by simp) _⟩
set_option maxHeartbeats 2000000 in
theorem lsparse_any (t : List UInt8) (w : World) (ht : t.length ≤ 262144) : Calls Tryd.prog 74 #[.string ⟨t.toArray⟩] w (LsEnd w (lsP (t.length + 1) t noneS)) := by
  have hsz : (ByteArray.mk t.toArray).size = t.length := by simp [ByteArray.size]
  obtain ⟨R, hR⟩ : ∃ R, R = lsP (t.length + 1) t noneS := ⟨_, rfl⟩
  rw [← hR]
  have HR := Lib.hid hR
  clear hR
  go_enter Tryd.func74, Tryd.ntmps74
  go_wp2_with fail
  go_loopg [5] (t.length + 1) (fun f i wr => LsRel w t R f i wr)
  case atStart =>
    refine ⟨0, noneS, rfl, by omega, by omega, HR.out.symm, ?_, (LBlk.new w).alloc _, ((Below.refl _ _).alloc (Nat.le_refl _) _).alloc (by simp) _⟩
    exact LBlk.mk0 _ _ (by simp)
  case round =>
    obtain ⟨k, S, rfl, h1, h2, hP, hB, hN, hbl⟩ := hrel
    obtain ⟨f, rfl⟩ : ∃ f, gk = f + 1 := ⟨gk - 1, by omega⟩
    by_cases hk : k < t.length
    · have hP2 := hP.out
      rw [lsP_step t f k S hk] at hP2
      have hsl := sliceT t k h1
      clear hP
      rcases he : elemP (t.drop k) with _ | ⟨lo, u⟩
      · rw [he] at hP2
        subst hP2
        have C1 := Lib.hid (elem_no he)
        clear he
        have r0 := hN.cells
        have r1 := hN.free
        rw [wd_none, wd_none, wd_none, wd_none] at r0
        go_wp2_with fail
        refine (C1.out wr).mono ?_
        rintro e w1 ⟨rfl, nd, rfl⟩
        obtain ⟨⟨q0, q1⟩, q2, q3⟩ := r0
        obtain ⟨⟨p0, p1⟩, p2, p3⟩ := r1
        have HZ := Lib.hid (LBlk.zero (w := wr.drewN nd) (S := noneS) (g := w.heap.size) hN)
        have HZB := Lib.hid (below_all (below_drewN hbl nd) (Nat.le_refl w.heap.size) (.int .u64 0) (.int .u64 0) (.int .u64 0) (.int .u64 0))
        clear hN hB hbl
        go_wp2_with fail
        obtain ⟨⟨d0, d1⟩, d2, d3⟩ := HZ.out.cells
        refine bodyPost_ret (v := .tuple #[lsV noneS, formE]) (by simp [results, Tryd.results74, go_sem, d0, d1, d2, d3, lsV, lsC, wds, formE, wd_none]) rfl ?_
        exact ⟨rfl, HZB.out⟩
      · rw [he] at hP2
        have C1 := Lib.hid (elem_yes he)
        have hu := elemP_pos he
        rw [List.length_drop] at hu
        simp only at hP2
        clear he
        by_cases h45 : t[k + u]? = some 45
        · rw [if_pos h45] at hP2
          have hl := at_lt h45
          have hlt : decide ((k : Int) + u < t.length) = true := by simp; omega
          have hu0 : ((u : Int) == 0) = false := by simp; omega
          have hix2 : ∀ w, (Instr.index 9 (.string ⟨t.toArray⟩) (.int .i64 ((k : Int) + u))).run Tryd.prog w = .ok (.int .u8 45) w := idxT (P := Tryd.prog) Tryd.underlying9 h45
          have hsl2 : ∀ w, (Instr.slice 9 (.string ⟨t.toArray⟩) (some (.int .i64 ((k : Int) + u + 1))) none none).run Tryd.prog w = .ok (.string ⟨(t.drop (k + u + 1)).toArray⟩) w := sliceT t (k + u + 1) (by omega)
          clear h45
          rcases he2 : elemP (t.drop (k + u + 1)) with _ | ⟨hi, u2⟩
          · rw [he2] at hP2
            subst hP2
            have C2 := Lib.hid (elem_no he2)
            clear he2
            have r0 := hN.cells
            have r1 := hN.free
            rw [wd_none, wd_none, wd_none, wd_none] at r0
            go_wp2_with fail
            refine (C1.out wr).mono ?_
            rintro e w1 ⟨rfl, nd, rfl⟩
            go_wp2_with fail
            refine (C2.out (wr.drewN nd)).mono ?_
            rintro e w1 ⟨rfl, nd2, rfl⟩
            obtain ⟨⟨q0, q1⟩, q2, q3⟩ := r0
            obtain ⟨⟨p0, p1⟩, p2, p3⟩ := r1
            have HZ := Lib.hid (LBlk.zero (w := wr.drewN (nd + nd2)) (S := noneS) (g := w.heap.size) hN)
            have HZB := Lib.hid (below_all (below_drewN hbl (nd + nd2)) (Nat.le_refl w.heap.size) (.int .u64 0) (.int .u64 0) (.int .u64 0) (.int .u64 0))
            clear hN hB hbl
            go_wp2_with fail
            obtain ⟨⟨d0, d1⟩, d2, d3⟩ := HZ.out.cells
            refine bodyPost_ret (v := .tuple #[lsV noneS, formE]) (by simp [results, Tryd.results74, go_sem, d0, d1, d2, d3, lsV, lsC, wds, formE, wd_none]) rfl ?_
            exact ⟨rfl, HZB.out⟩
          · rw [he2] at hP2
            have C2 := Lib.hid (elem_yes he2)
            have hu2 := elemP_pos he2
            rw [List.length_drop] at hu2
            simp only at hP2
            have hv0 : ((u2 : Int) == 0) = false := by simp; omega
            clear he2
            by_cases hhl : hi < lo
            · rw [if_pos hhl] at hP2
              subst hP2
              have hhl2 : decide (hi.toNat < lo.toNat) = true := by have := UInt8.lt_iff_toNat_lt.1 hhl; simp; omega
              have r0 := hN.cells
              have r1 := hN.free
              rw [wd_none, wd_none, wd_none, wd_none] at r0
              clear hhl
              go_wp2_with fail
              refine (C1.out wr).mono ?_
              rintro e w1 ⟨rfl, nd, rfl⟩
              go_wp2_with fail
              refine (C2.out (wr.drewN nd)).mono ?_
              rintro e w1 ⟨rfl, nd2, rfl⟩
              obtain ⟨⟨q0, q1⟩, q2, q3⟩ := r0
              obtain ⟨⟨p0, p1⟩, p2, p3⟩ := r1
              have HZ := Lib.hid (LBlk.zero (w := wr.drewN (nd + nd2)) (S := noneS) (g := w.heap.size) hN)
              have HZB := Lib.hid (below_all (below_drewN hbl (nd + nd2)) (Nat.le_refl w.heap.size) (.int .u64 0) (.int .u64 0) (.int .u64 0) (.int .u64 0))
              clear hN hB hbl
              go_wp2_with fail
              obtain ⟨⟨d0, d1⟩, d2, d3⟩ := HZ.out.cells
              refine bodyPost_ret (v := .tuple #[lsV noneS, formE]) (by simp [results, Tryd.results74, go_sem, d0, d1, d2, d3, lsV, lsC, wds, formE, wd_none]) rfl ?_
              exact ⟨rfl, HZB.out⟩
            · rw [if_neg hhl] at hP2
              have hle : lo.toNat ≤ hi.toNat := Nat.le_of_not_lt fun h => hhl (UInt8.lt_iff_toNat_lt.2 h)
              have hhl2 : decide (hi.toNat < lo.toNat) = false := by simp; omega
              rw [Nat.add_assoc (k + u) 1 u2] at hP2
              have HP := Lib.hid hP2
              clear hhl hP2
              go_wp2_with fail
              refine (C1.out wr).mono ?_
              rintro e w1 ⟨rfl, nd, rfl⟩
              go_wp2_with fail
              refine (C2.out (wr.drewN nd)).mono ?_
              rintro e w1 ⟨rfl, nd2, rfl⟩
              go_wp2_with fail
              obtain ⟨w2, hw2⟩ : ∃ w2, w2 = wr.drewN (nd + nd2) := ⟨_, rfl⟩
              have hB2 : LBlk w2 (w.heap.size + 1) S := by rw [hw2]; exact hB
              have hN2 : LBlk w2 w.heap.size noneS := by rw [hw2]; exact hN
              have hb2 : Below w.heap.size w w2 := by rw [hw2]; exact below_drewN hbl (nd + nd2)
              rw [← hw2]
              clear hw2 hB hN hbl
              obtain ⟨⟨c0, c1⟩, c2, c3⟩ := hB2.cells
              obtain ⟨⟨f0, f1⟩, f2, f3⟩ := hB2.free
              have hg : w.heap.size + 1 < w2.heap.size := Blk.lt hB2
              go_region_with (first | (go_at_call 83; refine (between_any lo.toNat hi.toNat _ hle (by have := hi.toNat_lt; omega)).mono ?_; rintro e w3 ⟨rfl, hb3⟩; have hB3 := Blk.below (Blk.drew hB2) hb3 hg; obtain ⟨⟨g0, g1⟩, g2, g3⟩ := LBlk.cells hB3; clear hB3) | (go_at_call 82; refine (union_any S (spanS lo.toNat hi.toNat) _).mono ?_; rintro e w4 ⟨he, hb4⟩; rw [lsV_eq] at he; subst he; have hB4 := Blk.below (Blk.below (Blk.drew hB2) hb3 hg) hb4 (by have := hb3.size; exact Nat.lt_of_lt_of_le hg this); obtain ⟨⟨d0, d1⟩, d2, d3⟩ := LBlk.cells hB4; obtain ⟨⟨e0, e1⟩, e2, e3⟩ := LBlk.free hB4; clear hB4))
              all_goals
                go_wp2_with fail
                go_roundg f
                case measure => omega
                case rel => exact ls_next (k' := k + u + (1 + u2)) (by omega) (by omega) HP hB2 hN2 hb2 hb3 hb4
        · rw [if_neg h45] at hP2
          have HP := Lib.hid hP2
          clear hP2
          rcases hc : t[k + u]? with _ | c
          · have hlt : decide ((k : Int) + u < t.length) = false := by have := List.getElem?_eq_none_iff.1 hc; simp; omega
            have hu0 : ((u : Int) == 0) = false := by simp; omega
            have HC := Lib.hid hc
            have H45 := Lib.hid h45
            clear hc h45
            go_wp2_with fail
            refine (C1.out wr).mono ?_
            rintro e w1 ⟨rfl, nd, rfl⟩
            go_wp2_with fail
            obtain ⟨w2, hw2⟩ : ∃ w2, w2 = wr.drewN nd := ⟨_, rfl⟩
            have hB2 : LBlk w2 (w.heap.size + 1) S := by rw [hw2]; exact hB
            have hN2 : LBlk w2 w.heap.size noneS := by rw [hw2]; exact hN
            have hb2 : Below w.heap.size w w2 := by rw [hw2]; exact below_drewN hbl nd
            rw [← hw2]
            clear hw2 hB hN hbl
            obtain ⟨⟨c0, c1⟩, c2, c3⟩ := hB2.cells
            obtain ⟨⟨f0, f1⟩, f2, f3⟩ := hB2.free
            have hg : w.heap.size + 1 < w2.heap.size := Blk.lt hB2
            go_region_with (first | (go_at_call 83; refine (between_any lo.toNat lo.toNat _ (Nat.le_refl _) (by have := lo.toNat_lt; omega)).mono ?_; rintro e w3 ⟨rfl, hb3⟩; have hB3 := Blk.below (Blk.drew hB2) hb3 hg; obtain ⟨⟨g0, g1⟩, g2, g3⟩ := LBlk.cells hB3; clear hB3) | (go_at_call 82; refine (union_any S (spanS lo.toNat lo.toNat) _).mono ?_; rintro e w4 ⟨he, hb4⟩; rw [lsV_eq] at he; subst he; have hB4 := Blk.below (Blk.below (Blk.drew hB2) hb3 hg) hb4 (by have := hb3.size; exact Nat.lt_of_lt_of_le hg this); obtain ⟨⟨d0, d1⟩, d2, d3⟩ := LBlk.cells hB4; obtain ⟨⟨e0, e1⟩, e2, e3⟩ := LBlk.free hB4; clear hB4))
            all_goals
              go_wp2_with fail
              go_roundg f
              case measure => omega
              case rel => exact ls_next (k' := k + u) (by omega) (by omega) HP hB2 hN2 hb2 hb3 hb4
            
          · have hl := at_lt hc
            have hlt : decide ((k : Int) + u < t.length) = true := by simp; omega
            have hu0 : ((u : Int) == 0) = false := by simp; omega
            have hix := idxT (P := Tryd.prog) Tryd.underlying9 hc
            have hix2 : ∀ w, (Instr.index 9 (.string ⟨t.toArray⟩) (.int .i64 ((k : Int) + u))).run Tryd.prog w = .ok (.int .u8 c.toNat) w := hix
            have hc45 : ((c.toNat : Int) == 45) = false := ne_lit (c := 45) (fun e => h45 (by rw [hc, e]))
            have HC := Lib.hid hc
            have H45 := Lib.hid h45
            clear hc h45 hix
            go_wp2_with fail
            refine (C1.out wr).mono ?_
            rintro e w1 ⟨rfl, nd, rfl⟩
            go_wp2_with fail
            obtain ⟨w2, hw2⟩ : ∃ w2, w2 = wr.drewN nd := ⟨_, rfl⟩
            have hB2 : LBlk w2 (w.heap.size + 1) S := by rw [hw2]; exact hB
            have hN2 : LBlk w2 w.heap.size noneS := by rw [hw2]; exact hN
            have hb2 : Below w.heap.size w w2 := by rw [hw2]; exact below_drewN hbl nd
            rw [← hw2]
            clear hw2 hB hN hbl
            obtain ⟨⟨c0, c1⟩, c2, c3⟩ := hB2.cells
            obtain ⟨⟨f0, f1⟩, f2, f3⟩ := hB2.free
            have hg : w.heap.size + 1 < w2.heap.size := Blk.lt hB2
            go_region_with (first | (go_at_call 83; refine (between_any lo.toNat lo.toNat _ (Nat.le_refl _) (by have := lo.toNat_lt; omega)).mono ?_; rintro e w3 ⟨rfl, hb3⟩; have hB3 := Blk.below (Blk.drew hB2) hb3 hg; obtain ⟨⟨g0, g1⟩, g2, g3⟩ := LBlk.cells hB3; clear hB3) | (go_at_call 82; refine (union_any S (spanS lo.toNat lo.toNat) _).mono ?_; rintro e w4 ⟨he, hb4⟩; rw [lsV_eq] at he; subst he; have hB4 := Blk.below (Blk.below (Blk.drew hB2) hb3 hg) hb4 (by have := hb3.size; exact Nat.lt_of_lt_of_le hg this); obtain ⟨⟨d0, d1⟩, d2, d3⟩ := LBlk.cells hB4; obtain ⟨⟨e0, e1⟩, e2, e3⟩ := LBlk.free hB4; clear hB4))
            all_goals
              go_wp2_with fail
              go_roundg f
              case measure => omega
              case rel => exact ls_next (k' := k + u) (by omega) (by omega) HP hB2 hN2 hb2 hb3 hb4
            
    · have hke : k = t.length := by omega
      have hP2 := hP.out
      rw [lsP_end t f k S (by omega)] at hP2
      subst hke
      subst hP2
      clear hP
      obtain ⟨⟨c0, c1⟩, c2, c3⟩ := hB.cells
      obtain ⟨⟨q0, q1⟩, q2, q3⟩ := hN.cells
      obtain ⟨⟨p0, p1⟩, p2, p3⟩ := hN.free
      have HZ := Lib.hid (hN.all S)
      have HZB := Lib.hid (below_all hbl (Nat.le_refl w.heap.size) (.int .u64 (wd S 0)) (.int .u64 (wd S 1)) (.int .u64 (wd S 2)) (.int .u64 (wd S 3)))
      clear hN hB hbl
      go_wp2_with fail
      obtain ⟨⟨d0, d1⟩, d2, d3⟩ := HZ.out.cells
      refine bodyPost_ret (v := .tuple #[lsV S, .nilIface]) (by simp [results, Tryd.results74, go_sem, d0, d1, d2, d3, lsV, lsC, wds]) rfl ?_
      exact ⟨rfl, HZB.out⟩
end Go.Proofs.YtpiagfmjekcncaaDoor
