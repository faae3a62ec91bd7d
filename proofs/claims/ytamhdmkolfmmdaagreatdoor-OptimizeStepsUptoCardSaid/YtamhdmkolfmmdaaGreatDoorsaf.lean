/- The walk of letterset's element, whole. Plain: the inside of a class, place by place; slices of a string. The walk of letterset.Parse. Blocks that hold a regular expression; the walks of regex.one, dot. -/
import Derived.Test.YtamhdmkolfmmdaaGreatDoorsac
import Derived.Test.YtamhdmkolfmmdaaGreatDoorsaa
import Derived.Test.YtamhdmkolfmmdaaGreatDoorsad
import Derived.Deep.LoopGhost
import Derived.Outline
import Derived.Deep.RegionWith
import Derived.Test.YtamhdmkolfmmdaaGreatDoorsae
set_option linter.unusedVariables false
set_option linter.unusedSimpArgs false
namespace Go.Proofs.YtamhdmkolfmmdaaGreatDoor
open Go.RowKit
theorem z12 {P : Prop} (h : P := by
 go_enter Tryz.func231, Tryz.ntmps231
 go_wp2_with fail
 go_quiet (first | (with_reducible exact Calls.quiet_of_same (c2 _)) | (with_reducible exact Calls.quiet_of_same (c3 _)))
 go_wp2_with fail
 go_ret2
 exact ⟨rfl, _, rfl⟩) : P := h
section
variable {l : List UInt8} (w : World)
theorem kh0 (b : UInt8) (x : Int) (hx : hexI b = x) (w : World) : Calls Tryz.prog 244 #[.int .u8 b.toNat] w fun e w' => e = .returned (.int .i64 x) ∧ w' = w := by
 subst hx
 exact (kkJ b w).mono fun _ _ h => ⟨h.1, h.2.symm⟩
theorem el_x (b2 b3 : UInt8) (x y : Int) (h : l[0]? = some 92) (h1 : l[1]? = some 120) (h2 : l[2]? = some b2) (h3 : l[3]? = some b3) (hx2 : hexI b2 = x) (hx3 : hexI b3 = y) (hr : (x < 0 ∨ y < 0) ∨ (0 ≤ x ∧ 0 ≤ y ∧ x < 16 ∧ y < 16)) :
  Calls Tryz.prog 231 #[.string ⟨l.toArray⟩] w fun e w' => e = .returned (if x < 0 ∨ y < 0 then elV none else .tuple #[.int .u8 (x * 16 + y), .int .i64 4]) ∧ ∃ n, w' = w.drewN n := by
 have hx := ix0 h
 have hy := ix1 h1
 have hz := ix2 h2
 have hu := ix3 h3
 have hn := kd4 h
 rw [show ((92 : UInt8).toNat : Int) = 92 from rfl] at hx
 rw [show ((120 : UInt8).toNat : Int) = 120 from rfl] at hy
 have hl2 := kaw h1
 have hl3 := kaw h3
 have hd : decide ((l.length : Int) < 2) = false := by simp; omega
 have hd4 : decide ((l.length : Int) < 4) = false := by simp; omega
 have c2 := kh0 b2 x hx2
 have c3 := kh0 b3 y hx3
 clear h h1 h2 h3 hl2 hl3 hx2 hx3
 rcases hr with hr | hr
 ·
  have HR := hD hr
  rw [if_pos hr]
  by_cases q1 : x < 0
  ·
   have q1' : decide (x < 0) = true := by simpa using q1
   clear hr
   exact z12
  ·
   have q1' : decide (x < 0) = false := by simpa using q1
   have q2 : decide (y < 0) = true := by simp; omega
   clear hr
   exact z12
 ·
  obtain ⟨p1, p2, p3, p4⟩ := hr
  rw [if_neg (by omega)]
  have q1 : decide (x < 0) = false := by simp; omega
  have q2 : decide (y < 0) = false := by simp; omega
  exact z12
end
def ElRes (w : World) (r : Option (UInt8 × Nat)) (e : Ending) (w' : World) : Prop := e = .returned (elV r) ∧ ∃ n, w' = w.drewN n
theorem ElEnd.res {w w' : World} {r : Option (UInt8 × Nat)} {e : Ending} (h : ElEnd w r e w') : ElRes w r e w' := ⟨h.1, 0, h.2.symm⟩
theorem kjG {b : UInt8} {d : Nat} (h : hexd b = some d) : d < 16 := keO (T := [b]) (k := 0) (k' := 1) (by unfold kaz; simp [h])
theorem kfU (b : UInt8) (t : List UInt8) : kbL (b :: t) = if b = 93 ∨ b = 45 then none else if b ≠ 92 then some (b, 1) else match escP (b :: t) 1 with
  | none => none
  | some (x, k) => some (x, k) := by
 have h : ∀ k, (b :: t)[k + 1]? = t[k]? := fun k => by simp
 have hd : ∀ k, kaz (b :: t) (k + 1) = (kaz t k).map fun p => (p.1, p.2 + 1) := fun k => by
  unfold kaz
  rw [h]
  rcases t[k]? with _ | c
  ·
   rfl
  ·
   simp only
   rcases hexd c with _ | d <;> rfl
 have he : escP (b :: t) 1 = (escP t 0).map fun p => (p.1, p.2 + 1) := by
  unfold escP
  rw [h 0]
  rcases t[0]? with _ | c
  ·
   rfl
  ·
   simp only
   split
   ·
    rfl
   split
   ·
    rfl
   split
   ·
    rfl
   split
   ·
    rw [hd]
    rcases kaz t (0 + 1) with _ | ⟨d, k⟩
    ·
     rfl
    ·
     simp only [Option.map_some]
     rw [hd]
     rcases kaz t k with _ | ⟨d, k⟩ <;> rfl
   split <;> rfl
 rw [show kbL (b :: t) = (if b = 93 ∨ b = 45 then none else if b ≠ 92 then some (b, 1) else match escP t 0 with
  | none => none
  | some (x, k) => some (x, k + 1)) from rfl]
 rw [he]
 split
 ·
  rfl
 split
 ·
  rfl
 rcases escP t 0 with _ | ⟨x, k⟩ <;> rfl
theorem kib (l : List UInt8) (w : World) : Calls Tryz.prog 231 #[.string ⟨l.toArray⟩] w (ElRes w (kbL l)) := by
 rcases l with _ | ⟨b, t⟩
 ·
  exact (el_nil w).mono fun _ _ h => h.res
 have h0 : (b :: t)[0]? = some b := rfl
 rw [kfU]
 by_cases h1 : b = 93 ∨ b = 45
 ·
  rw [if_pos h1]
  exact (el_stop w h0 h1).mono fun _ _ h => h.res
 rw [if_neg h1]
 by_cases h2 : b = 92
 ·
  rw [if_neg (by simpa using h2)]
  subst h2
  generalize hl : (92 :: t : List UInt8) = l at *
  clear h1
  rcases hc : l[1]? with _ | c
  ·
   have : escP l 1 = none := by unfold escP; rw [hc]
   rw [this]
   exact (el_one w h0 hc).mono fun _ _ h => h.res
  ·
   by_cases hx : c = 120
   ·
    subst hx
    have he : escP l 1 = match kaz l 2 with
      | none => none
      | some (h, k1) => match kaz l k1 with
       | none => none
       | some (l, k2) => some (UInt8.ofNat (16 * h + l), k2) := by
     unfold escP
     rw [hc]
     rfl
    rw [he]
    by_cases h4 : l.length < 4
    ·
     have : (match kaz l 2 with
      | none => none
      | some (h, k1) => match kaz l k1 with
       | none => none
       | some (l, k2) => some (UInt8.ofNat (16 * h + l), k2)) = none := by
      rcases hd : kaz l 2 with _ | ⟨d, k⟩
      ·
       rfl
      ·
       have := kem hd
       obtain ⟨rfl, _⟩ := this
       simp only
       have : kaz l (2 + 1) = none := by
        unfold kaz
        rw [List.getElem?_eq_none (by omega)]
       rw [this]
     rw [this]
     exact (el_x0 w h0 hc h4).mono fun _ _ h => h.res
    ·
     have g2 : l[2]? = some l[2] := List.getElem?_eq_getElem (by omega)
     have g3 : l[3]? = some l[3] := List.getElem?_eq_getElem (by omega)
     generalize l[2] = b2 at *
     generalize l[3] = b3 at *
     have e2 : kaz l 2 = (hexd b2).map fun d => (d, 3) := by
      unfold kaz
      rw [g2]
      simp only
      rcases hexd b2 with _ | d <;> rfl
     have e3 : kaz l 3 = (hexd b3).map fun d => (d, 4) := by
      unfold kaz
      rw [g3]
      simp only
      rcases hexd b3 with _ | d <;> rfl
     rw [e2]
     rcases k2 : hexd b2 with _ | d2
     ·
      refine (el_x w b2 b3 (-1) (hexI b3) h0 hc g2 g3 (by unfold hexI; rw [k2]) rfl (.inl (.inl (by omega)))).mono ?_
      rintro e w' ⟨rfl, hw⟩
      exact ⟨by rw [if_pos (.inl (by omega))]; rfl, hw⟩
     ·
      simp only [Option.map_some]
      rw [e3]
      rcases k3 : hexd b3 with _ | d3
      ·
       refine (el_x w b2 b3 d2 (-1) h0 hc g2 g3 (by unfold hexI; rw [k2]) (by unfold hexI; rw [k3]) (.inl (.inr (by omega)))).mono ?_
       rintro e w' ⟨rfl, hw⟩
       exact ⟨by rw [if_pos (.inr (by omega))]; rfl, hw⟩
      ·
       have l2 := kjG k2
       have l3 := kjG k3
       refine (el_x w b2 b3 d2 d3 h0 hc g2 g3 (by unfold hexI; rw [k2]) (by unfold hexI; rw [k3]) (.inr (by omega))).mono ?_
       rintro e w' ⟨rfl, hw⟩
       refine ⟨?_, hw⟩
       rw [if_neg (by omega)]
       simp only [Option.map_some, elV]
       have ev : (UInt8.ofNat (16 * d2 + d3)).toNat = 16 * d2 + d3 := by rw [UInt8.toNat_ofNat']; omega
       have : ((16 * d2 + d3 : Nat) : Int) = (d2 : Int) * 16 + d3 := by omega
       rw [ev, this]
       rfl
   ·
    have : (match escP l 1 with
      | none => none
      | some (x, k) => some (x, k)) = (escP l 1).map fun p => (p.1, 2) := by
     unfold escP
     rw [hc]
     simp only
     by_cases c1 : c = 110
     ·
      simp [c1]
     by_cases c2 : c = 116
     ·
      simp [c2]
     by_cases c3 : c = 114
     ·
      simp [c3]
     cases kcT c <;> simp [c1, c2, c3, hx]
    rw [this]
    exact (el_esc w c h0 hc hx).mono fun _ _ h => h.res
 ·
  rw [if_pos h2]
  exact (el_plain w h0 (fun e => h1 (.inl e)) (fun e => h1 (.inr e)) h2).mono fun _ _ h => h.res
theorem kgG {l : List UInt8} {b : UInt8} {u : Nat} (h : kbL l = some (b, u)) : 1 ≤ u ∧ u ≤ l.length := by
 rcases l with _ | ⟨c, t⟩
 ·
  cases h
 rw [kfU] at h
 split at h
 ·
  cases h
 split at h
 ·
  injection h with h; injection h with h1 h2; subst h2; simp
 split at h
 ·
  cases h
 ·
  rename_i x k e
  have := kh8 e
  injection h with h; injection h with h1 h2; omega
theorem lsP_step (t : List UInt8) (f k : Nat) (S : LS) (hk : k < t.length) : lsP (f + 1) (t.drop k) S = match kbL (t.drop k) with
  | none => none
  | some (lo, u) => if t[k + u]? = some 45 then (match kbL (t.drop (k + u + 1)) with
    | none => none
    | some (hi, u') => if hi < lo then none else lsP f (t.drop (k + u + 1 + u')) (orS S (kbw lo.toNat hi.toNat)))
   else lsP f (t.drop (k + u)) (orS S (kbw lo.toNat lo.toNat)) := by
 have hd : t.drop k = t[k] :: t.drop (k + 1) := by rw [List.drop_eq_getElem_cons hk]
 have h0 : lsP (f + 1) (t.drop k) S = match kbL (t.drop k) with
   | none => none
   | some (lo, u) => match (t.drop k).drop u with
    | 45 :: t' => match kbL t' with
     | none => none
     | some (hi, u') => if hi < lo then none else lsP f (t'.drop u') (orS S (kbw lo.toNat hi.toNat))
    | t' => lsP f t' (orS S (kbw lo.toNat lo.toNat)) := by
  rw [hd]
  rfl
 rw [h0]
 rcases kbL (t.drop k) with _ | ⟨lo, u⟩
 ·
  rfl
 simp only
 rw [List.drop_drop]
 rcases hc : t[k + u]? with _ | c
 ·
  have : t.drop (k + u) = [] := by
   have := List.getElem?_eq_none_iff.1 hc
   rw [List.drop_eq_nil_iff]; omega
  rw [this]
  rw [if_neg (by simp)]
 ·
  have hl := kaw hc
  have hg : t[k + u] = c := by rw [List.getElem?_eq_getElem hl] at hc; injection hc
  have hd2 : t.drop (k + u) = c :: t.drop (k + u + 1) := by rw [List.drop_eq_getElem_cons hl, hg]
  by_cases h45 : c = 45
  ·
   subst h45
   rw [if_pos rfl, hd2]
   simp only
   rcases kbL (t.drop (k + u + 1)) with _ | ⟨hi, u'⟩
   ·
    rfl
   simp only [List.drop_drop]
  ·
   rw [if_neg (by simpa using h45), hd2]
   split
   ·
    rename_i t' he
    injection he with he _
    exact absurd he h45
   ·
    rfl
theorem lsP_end (t : List UInt8) (f k : Nat) (S : LS) (hk : t.length ≤ k) : lsP (f + 1) (t.drop k) S = some S := by
 rw [List.drop_eq_nil_iff.2 hk]
 rfl
theorem sliceT (t : List UInt8) (k : Nat) (hk : k ≤ t.length) (w : World) : (Instr.slice 9 (.string ⟨t.toArray⟩) (some (.int .i64 k)) none none).run Tryz.prog w = .ok (.string ⟨(t.drop k).toArray⟩) w := by
 have hs : (ByteArray.mk t.toArray).size = t.length := by simp [ByteArray.size]
 have e : (ByteArray.mk t.toArray).extract k t.length = ⟨(t.drop k).toArray⟩ := by
  rw [ByteArray.extract_mk]
  congr 2
  exact List.take_of_length_le (by simp)
 have hi : 0 ≤ (k : Int) ∧ (k : Int) ≤ ((t.length : Nat) : Int) := ⟨by omega, by omega⟩
 simp [Instr.slice, Instr.sliceBounds, Instr.sliceBound, asIntOf, run_underlying Tryz.underlying9, hs, hi, e]
 intro hc
 omega
theorem sliceT2 (t : List UInt8) (i j : Nat) (hi : i ≤ j) (hj : j ≤ t.length) (w : World) : (Instr.slice 9 (.string ⟨t.toArray⟩) (some (.int .i64 i)) (some (.int .i64 j)) none).run Tryz.prog w = .ok (.string ⟨((t.drop i).take (j - i)).toArray⟩) w := by
 have hs : (ByteArray.mk t.toArray).size = t.length := by simp [ByteArray.size]
 rw [run_slice_string _ _ _ _ _ _ _ Tryz.underlying9 (by omega) (by omega) (by omega), ← ByteArray.extract_mk]
 rfl
set_option maxHeartbeats 2000000
theorem z25 {P : Prop} (h : P := by
 clear hN hB hbl
 go_wp2_with fail
 obtain ⟨⟨d0, d1⟩, d2, d3⟩ := HZ.out.cells
 refine bodyPost_ret (v := .tuple #[lsV kar, kbF]) (by simp [results, Tryz.results224, go_sem, d0, d1, d2, d3, lsV, lsC, wds, kbF, kaV]) rfl ?_
 exact ⟨rfl, HZB.out⟩) : P := h
theorem y54 {P : Prop} (h : P := by
 go_wp2_with fail
 refine (C1.out wr).mono ?_
 rintro e w1 ⟨rfl, nd, rfl⟩
 go_wp2_with fail
 obtain ⟨w2, hw2⟩ := xE (wr.drewN nd)
 have hB2 : LBlk w2 (w.heap.size + 1) S := by rw [hw2]; exact hB
 have hN2 : LBlk w2 w.heap.size kar := by rw [hw2]; exact hN
 have hb2 : Below w.heap.size w w2 := by rw [hw2]; exact kaf hbl nd
 rw [← hw2]
 clear hw2 hB hN hbl
 obtain ⟨⟨c0, c1⟩, c2, c3⟩ := hB2.cells
 obtain ⟨⟨f0, f1⟩, f2, f3⟩ := hB2.free
 have hg : w.heap.size + 1 < w2.heap.size := Blk.lt hB2
 go_region_with (first | (go_at_call 233; refine (kfl lo.toNat lo.toNat _ (Nat.le_refl _) (by have := lo.toNat_lt; omega)).mono ?_; rintro e w3 ⟨rfl, hb3⟩; have hB3 := Blk.below (Blk.drew hB2) hb3 hg; obtain ⟨⟨g0, g1⟩, g2, g3⟩ := LBlk.cells hB3; clear hB3) | (go_at_call 232; refine (kgo S (kbw lo.toNat lo.toNat) _).mono ?_; rintro e w4 ⟨he, hb4⟩; rw [kc1] at he; subst he; have hB4 := Blk.below (Blk.below (Blk.drew hB2) hb3 hg) hb4 (by have := hb3.size; exact Nat.lt_of_lt_of_le hg this); obtain ⟨⟨d0, d1⟩, d2, d3⟩ := LBlk.cells hB4; obtain ⟨⟨e0, e1⟩, e2, e3⟩ := LBlk.free hB4; clear hB4))
 all_goals
  go_wp2_with fail
  go_roundg f
  case measure => omega
  case rel => exact kjE (k' := k + u) (by omega) (by omega) HP hB2 hN2 hb2 hb3 hb4) : P := h
theorem y59 {P : Prop} (h : P := by
 go_wp2_with fail
 refine (C1.out wr).mono ?_
 rintro e w1 ⟨rfl, nd, rfl⟩
 go_wp2_with fail
 refine (C2.out (wr.drewN nd)).mono ?_
 rintro e w1 ⟨rfl, nd2, rfl⟩
 obtain ⟨⟨q0, q1⟩, q2, q3⟩ := r0
 obtain ⟨⟨p0, p1⟩, p2, p3⟩ := r1
 have HZ := hD (LBlk.zero (w := wr.drewN (nd + nd2)) (S := kar) (g := w.heap.size) hN)
 have HZB := hD (kdK (kaf hbl (nd + nd2)) (Nat.le_refl w.heap.size) (.int .u64 0) (.int .u64 0) (.int .u64 0) (.int .u64 0))
 exact z25) : P := h
def kbF : Value := .iface 66 (.int .i64 4)
def LsEnd (w : World) (r : Option LS) (e : Ending) (w' : World) : Prop := (match r with
 | some S => e = .returned (.tuple #[lsV S, .nilIface])
 | none => e = .returned (.tuple #[lsV kar, kbF])) ∧ Below w.heap.size w w'
theorem kia {l : List UInt8} {b : UInt8} {u : Nat} (h : kbL l = some (b, u)) (w : World) : Calls Tryz.prog 231 #[.string ⟨l.toArray⟩] w fun e w' => e = .returned (.tuple #[.int .u8 b.toNat, .int .i64 u]) ∧ ∃ n, w' = w.drewN n := by
 have := kib l w
 rw [h] at this
 exact this
theorem kjK {l : List UInt8} (h : kbL l = none) (w : World) : Calls Tryz.prog 231 #[.string ⟨l.toArray⟩] w fun e w' => e = .returned (.tuple #[.int .u8 0, .int .i64 0]) ∧ ∃ n, w' = w.drewN n := by
 have := kib l w
 rw [h] at this
 exact this
def LsRel (w : World) (t : List UInt8) (R : Option LS) (f : Nat) (i : Value) (wr : World) : Prop :=
 ∃ (k : Nat) (S : LS), i = .int .i64 k ∧ k ≤ t.length ∧ t.length - k < f ∧ Hid (lsP f (t.drop k) S = R) ∧ LBlk wr (w.heap.size + 1) S ∧ LBlk wr w.heap.size kar ∧ Below w.heap.size w wr
theorem LBlk.zero {w : World} {g : Nat} {S : LS} (h : LBlk w g S) : LBlk ((((w.setCell ⟨g, 0, none⟩ (.int .u64 0)).setCell ⟨g, 1, none⟩ (.int .u64 0)).setCell ⟨g, 2, none⟩ (.int .u64 0)).setCell ⟨g, 3, none⟩ (.int .u64 0)) g kar := by
 have := h.all kar
 rw [kaV, kaV, kaV, kaV] at this
 exact this
theorem kdK {B g : Nat} {w w' : World} (h : Below B w w') (hg : B ≤ g) (u0 u1 u2 u3 : Value) : Below B w ((((w'.setCell ⟨g, 0, none⟩ u0).setCell ⟨g, 1, none⟩ u1).setCell ⟨g, 2, none⟩ u2).setCell ⟨g, 3, none⟩ u3) :=
 (((h.setCell hg u0).setCell hg u1).setCell hg u2).setCell hg u3
theorem kjE {w w2 w3 w4 : World} {t : List UInt8} {R : Option LS} {f k' : Nat} {S S' : LS} (hk : k' ≤ t.length) (hf : t.length - k' < f) (HP : Hid (lsP f (t.drop k') S' = R)) (hB2 : LBlk w2 (w.heap.size + 1) S) (hN2 : LBlk w2 w.heap.size kar) (hb2 : Below w.heap.size w w2)
  (hb3 : Below w2.drew.heap.size w2.drew w3) (hb4 : Below w3.heap.size w3 w4) :
  LsRel w t R f (.int .i64 k') ((((w4.setCell ⟨w.heap.size + 1, 0, none⟩ (.int .u64 (wd S' 0))).setCell ⟨w.heap.size + 1, 1, none⟩ (.int .u64 (wd S' 1))).setCell ⟨w.heap.size + 1, 2, none⟩ (.int .u64 (wd S' 2))).setCell ⟨w.heap.size + 1, 3, none⟩ (.int .u64 (wd S' 3))) := by
 have hg : w.heap.size + 1 < w2.heap.size := Blk.lt hB2
 have hg3 : w.heap.size + 1 < w3.heap.size := Nat.lt_of_lt_of_le hg hb3.size
 have hB4 : LBlk w4 (w.heap.size + 1) S := Blk.below (Blk.below (Blk.drew hB2) hb3 hg) hb4 hg3
 have hN4 : LBlk w4 w.heap.size kar := Blk.below (Blk.below (Blk.drew hN2) hb3 (by show w.heap.size < w2.heap.size; omega)) hb4 (by omega)
 have hb : Below w.heap.size w w4 := (hb2.drew.trans (hb3.mono (by show _ ≤ w2.heap.size; omega))).trans (hb4.mono (by omega))
 exact ⟨k', S', rfl, hk, hf, HP, hB4.all S', (((hN4.far (by simp) _).far (by simp) _).far (by simp) _).far (by simp) _,
  (((hb.setCell (by simp) _).setCell (by simp) _).setCell (by simp) _).setCell (by simp) _⟩
theorem ki6 (t : List UInt8) (w : World) (ht : t.length ≤ 262144) : Calls Tryz.prog 224 #[.string ⟨t.toArray⟩] w (LsEnd w (lsP (t.length + 1) t kar)) := by
 have hsz : (ByteArray.mk t.toArray).size = t.length := by simp [ByteArray.size]
 obtain ⟨R, hR⟩ := xE (lsP (t.length + 1) t kar)
 rw [← hR]
 have HR := hD hR
 clear hR
 go_enter Tryz.func224, Tryz.ntmps224
 go_wp2_with fail
 go_loopg [5] (t.length + 1) (fun f i wr => LsRel w t R f i wr)
 case atStart =>
  refine ⟨0, kar, rfl, by omega, by omega, HR.out.symm, ?_, (LBlk.new w).alloc _, ((Below.refl _ _).alloc (Nat.le_refl _) _).alloc (by simp) _⟩
  exact LBlk.mk0 _ _ (by simp)
 case round =>
  obtain ⟨k, S, rfl, h1, h2, hP, hB, hN, hbl⟩ := hrel
  obtain ⟨f, rfl⟩ : ∃ f, gk = f + 1 := ⟨gk - 1, by omega⟩
  by_cases hk : k < t.length
  ·
   have hP2 := hP.out
   rw [lsP_step t f k S hk] at hP2
   have hsl := sliceT t k h1
   clear hP
   rcases he : kbL (t.drop k) with _ | ⟨lo, u⟩
   ·
    rw [he] at hP2
    subst hP2
    have C1 := hD (kjK he)
    clear he
    have r0 := hN.cells
    have r1 := hN.free
    rw [kaV, kaV, kaV, kaV] at r0
    go_wp2_with fail
    refine (C1.out wr).mono ?_
    rintro e w1 ⟨rfl, nd, rfl⟩
    obtain ⟨⟨q0, q1⟩, q2, q3⟩ := r0
    obtain ⟨⟨p0, p1⟩, p2, p3⟩ := r1
    have HZ := hD (LBlk.zero (w := wr.drewN nd) (S := kar) (g := w.heap.size) hN)
    have HZB := hD (kdK (kaf hbl nd) (Nat.le_refl w.heap.size) (.int .u64 0) (.int .u64 0) (.int .u64 0) (.int .u64 0))
    exact z25
   ·
    rw [he] at hP2
    have C1 := hD (kia he)
    have hu := kgG he
    rw [List.length_drop] at hu
    simp only at hP2
    clear he
    by_cases h45 : t[k + u]? = some 45
    ·
     rw [if_pos h45] at hP2
     have hl := kaw h45
     have hlt : decide ((k : Int) + u < t.length) = true := by simp; omega
     have hu0 : ((u : Int) == 0) = false := by simp; omega
     have hix2 : ∀ w, (Instr.index 9 (.string ⟨t.toArray⟩) (.int .i64 ((k : Int) + u))).run Tryz.prog w = .ok (.int .u8 45) w := idxT (P := Tryz.prog) Tryz.underlying9 h45
     have hsl2 : ∀ w, (Instr.slice 9 (.string ⟨t.toArray⟩) (some (.int .i64 ((k : Int) + u + 1))) none none).run Tryz.prog w = .ok (.string ⟨(t.drop (k + u + 1)).toArray⟩) w := sliceT t (k + u + 1) (by omega)
     clear h45
     rcases he2 : kbL (t.drop (k + u + 1)) with _ | ⟨hi, u2⟩
     ·
      rw [he2] at hP2
      subst hP2
      have C2 := hD (kjK he2)
      clear he2
      have r0 := hN.cells
      have r1 := hN.free
      rw [kaV, kaV, kaV, kaV] at r0
      exact y59
     ·
      rw [he2] at hP2
      have C2 := hD (kia he2)
      have hu2 := kgG he2
      rw [List.length_drop] at hu2
      simp only at hP2
      have hv0 : ((u2 : Int) == 0) = false := by simp; omega
      clear he2
      by_cases hhl : hi < lo
      ·
       rw [if_pos hhl] at hP2
       subst hP2
       have hhl2 : decide (hi.toNat < lo.toNat) = true := by have := UInt8.lt_iff_toNat_lt.1 hhl; simp; omega
       have r0 := hN.cells
       have r1 := hN.free
       rw [kaV, kaV, kaV, kaV] at r0
       clear hhl
       exact y59
      ·
       rw [if_neg hhl] at hP2
       have hle : lo.toNat ≤ hi.toNat := Nat.le_of_not_lt fun h => hhl (UInt8.lt_iff_toNat_lt.2 h)
       have hhl2 : decide (hi.toNat < lo.toNat) = false := by simp; omega
       rw [Nat.add_assoc (k + u) 1 u2] at hP2
       have HP := hD hP2
       clear hhl hP2
       go_wp2_with fail
       refine (C1.out wr).mono ?_
       rintro e w1 ⟨rfl, nd, rfl⟩
       go_wp2_with fail
       refine (C2.out (wr.drewN nd)).mono ?_
       rintro e w1 ⟨rfl, nd2, rfl⟩
       go_wp2_with fail
       obtain ⟨w2, hw2⟩ := xE (wr.drewN (nd + nd2))
       have hB2 : LBlk w2 (w.heap.size + 1) S := by rw [hw2]; exact hB
       have hN2 : LBlk w2 w.heap.size kar := by rw [hw2]; exact hN
       have hb2 : Below w.heap.size w w2 := by rw [hw2]; exact kaf hbl (nd + nd2)
       rw [← hw2]
       clear hw2 hB hN hbl
       obtain ⟨⟨c0, c1⟩, c2, c3⟩ := hB2.cells
       obtain ⟨⟨f0, f1⟩, f2, f3⟩ := hB2.free
       have hg : w.heap.size + 1 < w2.heap.size := Blk.lt hB2
       go_region_with (first | (go_at_call 233; refine (kfl lo.toNat hi.toNat _ hle (by have := hi.toNat_lt; omega)).mono ?_; rintro e w3 ⟨rfl, hb3⟩; have hB3 := Blk.below (Blk.drew hB2) hb3 hg; obtain ⟨⟨g0, g1⟩, g2, g3⟩ := LBlk.cells hB3; clear hB3) | (go_at_call 232; refine (kgo S (kbw lo.toNat hi.toNat) _).mono ?_; rintro e w4 ⟨he, hb4⟩; rw [kc1] at he; subst he; have hB4 := Blk.below (Blk.below (Blk.drew hB2) hb3 hg) hb4 (by have := hb3.size; exact Nat.lt_of_lt_of_le hg this); obtain ⟨⟨d0, d1⟩, d2, d3⟩ := LBlk.cells hB4; obtain ⟨⟨e0, e1⟩, e2, e3⟩ := LBlk.free hB4; clear hB4))
       all_goals
        go_wp2_with fail
        go_roundg f
        case measure => omega
        case rel => exact kjE (k' := k + u + (1 + u2)) (by omega) (by omega) HP hB2 hN2 hb2 hb3 hb4
    ·
     rw [if_neg h45] at hP2
     have HP := hD hP2
     clear hP2
     rcases hc : t[k + u]? with _ | c
     ·
      have hlt : decide ((k : Int) + u < t.length) = false := by have := List.getElem?_eq_none_iff.1 hc; simp; omega
      have hu0 : ((u : Int) == 0) = false := by simp; omega
      have HC := hD hc
      have H45 := hD h45
      clear hc h45
      exact y54
     ·
      have hl := kaw hc
      have hlt : decide ((k : Int) + u < t.length) = true := by simp; omega
      have hu0 : ((u : Int) == 0) = false := by simp; omega
      have hix := idxT (P := Tryz.prog) Tryz.underlying9 hc
      have hix2 : ∀ w, (Instr.index 9 (.string ⟨t.toArray⟩) (.int .i64 ((k : Int) + u))).run Tryz.prog w = .ok (.int .u8 c.toNat) w := hix
      have hc45 : ((c.toNat : Int) == 45) = false := kaT (c := 45) (fun e => h45 (by rw [hc, e]))
      have HC := hD hc
      have H45 := hD h45
      clear hc h45 hix
      exact y54
  ·
   have hke : k = t.length := by omega
   have hP2 := hP.out
   rw [lsP_end t f k S (by omega)] at hP2
   subst hke
   subst hP2
   clear hP
   obtain ⟨⟨c0, c1⟩, c2, c3⟩ := hB.cells
   obtain ⟨⟨q0, q1⟩, q2, q3⟩ := hN.cells
   obtain ⟨⟨p0, p1⟩, p2, p3⟩ := hN.free
   have HZ := hD (hN.all S)
   have HZB := hD (kdK hbl (Nat.le_refl w.heap.size) (.int .u64 (wd S 0)) (.int .u64 (wd S 1)) (.int .u64 (wd S 2)) (.int .u64 (wd S 3)))
   clear hN hB hbl
   go_wp2_with fail
   obtain ⟨⟨d0, d1⟩, d2, d3⟩ := HZ.out.cells
   refine bodyPost_ret (v := .tuple #[lsV S, .nilIface]) (by simp [results, Tryz.results224, go_sem, d0, d1, d2, d3, lsV, lsC, wds]) rfl ?_
   exact ⟨rfl, HZB.out⟩
def R8 (w : World) (g : Nat) (v0 v1 v2 v3 v4 v5 v6 v7 : Value) : Prop := Blk w g 105 #[v0, v1, v2, v3, v4, v5, v6, v7]
section
variable {w : World} {g : Nat} {v0 v1 v2 v3 v4 v5 v6 v7 : Value}
theorem R8.cells (h : R8 w g v0 v1 v2 v3 v4 v5 v6 v7) : ((w.cell? ⟨g, 0, none⟩ = some v0 ∧ w.cell? ⟨g, 1, none⟩ = some v1) ∧ (w.cell? ⟨g, 2, none⟩ = some v2 ∧ w.cell? ⟨g, 3, none⟩ = some v3)) ∧ ((w.cell? ⟨g, 4, none⟩ = some v4 ∧ w.cell? ⟨g, 5, none⟩ = some v5) ∧ (w.cell? ⟨g, 6, none⟩ = some v6 ∧ w.cell? ⟨g, 7, none⟩ = some v7)) :=
 ⟨⟨⟨Blk.cell h 0, Blk.cell h 1⟩, Blk.cell h 2, Blk.cell h 3⟩, ⟨Blk.cell h 4, Blk.cell h 5⟩, Blk.cell h 6, Blk.cell h 7⟩
theorem R8.free (h : R8 w g v0 v1 v2 v3 v4 v5 v6 v7) : ((w.frozen? ⟨g, 0, none⟩ = false ∧ w.frozen? ⟨g, 1, none⟩ = false) ∧ (w.frozen? ⟨g, 2, none⟩ = false ∧ w.frozen? ⟨g, 3, none⟩ = false)) ∧ ((w.frozen? ⟨g, 4, none⟩ = false ∧ w.frozen? ⟨g, 5, none⟩ = false) ∧ (w.frozen? ⟨g, 6, none⟩ = false ∧ w.frozen? ⟨g, 7, none⟩ = false)) :=
 ⟨⟨⟨Blk.frozen h 0, Blk.frozen h 1⟩, Blk.frozen h 2, Blk.frozen h 3⟩, ⟨Blk.frozen h 4, Blk.frozen h 5⟩, Blk.frozen h 6, Blk.frozen h 7⟩
def set8 (w : World) (g : Nat) (u0 u1 u2 u3 u4 u5 u6 u7 : Value) : World :=
 (((((((w.setCell ⟨g, 0, none⟩ u0).setCell ⟨g, 1, none⟩ u1).setCell ⟨g, 2, none⟩ u2).setCell ⟨g, 3, none⟩ u3).setCell ⟨g, 4, none⟩ u4).setCell ⟨g, 5, none⟩ u5).setCell ⟨g, 6, none⟩ u6).setCell ⟨g, 7, none⟩ u7
theorem R8.s0 (h : R8 w g v0 v1 v2 v3 v4 v5 v6 v7) (u : Value) : R8 (w.setCell ⟨g, 0, none⟩ u) g u v1 v2 v3 v4 v5 v6 v7 := Blk.set_ h 0 u
theorem R8.s1 (h : R8 w g v0 v1 v2 v3 v4 v5 v6 v7) (u : Value) : R8 (w.setCell ⟨g, 1, none⟩ u) g v0 u v2 v3 v4 v5 v6 v7 := Blk.set_ h 1 u
theorem R8.s2 (h : R8 w g v0 v1 v2 v3 v4 v5 v6 v7) (u : Value) : R8 (w.setCell ⟨g, 2, none⟩ u) g v0 v1 u v3 v4 v5 v6 v7 := Blk.set_ h 2 u
theorem R8.s3 (h : R8 w g v0 v1 v2 v3 v4 v5 v6 v7) (u : Value) : R8 (w.setCell ⟨g, 3, none⟩ u) g v0 v1 v2 u v4 v5 v6 v7 := Blk.set_ h 3 u
theorem R8.s4 (h : R8 w g v0 v1 v2 v3 v4 v5 v6 v7) (u : Value) : R8 (w.setCell ⟨g, 4, none⟩ u) g v0 v1 v2 v3 u v5 v6 v7 := Blk.set_ h 4 u
theorem R8.s5 (h : R8 w g v0 v1 v2 v3 v4 v5 v6 v7) (u : Value) : R8 (w.setCell ⟨g, 5, none⟩ u) g v0 v1 v2 v3 v4 u v6 v7 := Blk.set_ h 5 u
theorem R8.s6 (h : R8 w g v0 v1 v2 v3 v4 v5 v6 v7) (u : Value) : R8 (w.setCell ⟨g, 6, none⟩ u) g v0 v1 v2 v3 v4 v5 u v7 := Blk.set_ h 6 u
theorem R8.s7 (h : R8 w g v0 v1 v2 v3 v4 v5 v6 v7) (u : Value) : R8 (w.setCell ⟨g, 7, none⟩ u) g v0 v1 v2 v3 v4 v5 v6 u := Blk.set_ h 7 u
theorem R8.all (h : R8 w g v0 v1 v2 v3 v4 v5 v6 v7) (u0 u1 u2 u3 u4 u5 u6 u7 : Value) : R8 (set8 w g u0 u1 u2 u3 u4 u5 u6 u7) g u0 u1 u2 u3 u4 u5 u6 u7 :=
 (((((((h.s0 u0).s1 u1).s2 u2).s3 u3).s4 u4).s5 u5).s6 u6).s7 u7
theorem R8.below {B : Nat} {w' : World} (h : R8 w g v0 v1 v2 v3 v4 v5 v6 v7) (hb : Below B w w') (hg : g < B) : R8 w' g v0 v1 v2 v3 v4 v5 v6 v7 := Blk.below h hb hg
theorem R8.kept {F : Nat → Prop} {w' : World} (h : R8 w g v0 v1 v2 v3 v4 v5 v6 v7) (hb : Kept F w w') (hg : ¬ F g) : R8 w' g v0 v1 v2 v3 v4 v5 v6 v7 := Blk.kept h hb hg
theorem R8.alloc (h : R8 w g v0 v1 v2 v3 v4 v5 v6 v7) (o : Obj) : R8 (w.alloc o) g v0 v1 v2 v3 v4 v5 v6 v7 := Blk.alloc h o
theorem R8.lt (h : R8 w g v0 v1 v2 v3 v4 v5 v6 v7) : g < w.heap.size := Blk.lt h
theorem LBlk.below {B : Nat} {w' : World} {S : LS} (h : LBlk w g S) (hb : Below B w w') (hg : g < B) : LBlk w' g S := Blk.below h hb hg
theorem R8.mk0 (w : World) (g : Nat) (hg : g = w.heap.size) : R8 (w.alloc (.cells #[.int .i64 0, .int .u64 0, .int .u64 0, .int .u64 0, .int .u64 0, .int .i64 0, .int .i64 0, .slice none 0 0] 105)) g (.int .i64 0) (.int .u64 0) (.int .u64 0) (.int .u64 0) (.int .u64 0) (.int .i64 0) (.int .i64 0) (.slice none 0 0) := by subst hg; exact Blk.new _ _ _
theorem kdk {B : Nat} {w' : World} (h : Below B w w') (hg : B ≤ g) (u0 u1 u2 u3 u4 u5 u6 u7 : Value) : Below B w (set8 w' g u0 u1 u2 u3 u4 u5 u6 u7) :=
 (((((((h.setCell hg u0).setCell hg u1).setCell hg u2).setCell hg u3).setCell hg u4).setCell hg u5).setCell hg u6).setCell hg u7
theorem kaD {F : Nat → Prop} {w' : World} (h : Kept F w w') (hg : F g ∨ w.heap.size ≤ g) (u0 u1 u2 u3 u4 u5 u6 u7 : Value) : Kept F w (set8 w' g u0 u1 u2 u3 u4 u5 u6 u7) :=
 (((((((h.setCell (p := ⟨g, 0, none⟩) hg u0).setCell (p := ⟨g, 1, none⟩) hg u1).setCell (p := ⟨g, 2, none⟩) hg u2).setCell (p := ⟨g, 3, none⟩) hg u3).setCell (p := ⟨g, 4, none⟩) hg u4).setCell (p := ⟨g, 5, none⟩) hg u5).setCell (p := ⟨g, 6, none⟩) hg u6).setCell (p := ⟨g, 7, none⟩) hg u7
theorem Blk.set8 {g' : Nat} {t : TypeId} {cs : Array Value} (h : Blk w g' t cs) (hg : g' ≠ g) (u0 u1 u2 u3 u4 u5 u6 u7 : Value) : Blk (set8 w g u0 u1 u2 u3 u4 u5 u6 u7) g' t cs :=
 (((((((h.far hg u0).far hg u1).far hg u2).far hg u3).far hg u4).far hg u5).far hg u6).far hg u7
end
def setV (S : LS) : Value := .agg #[.int .i64 2, .int .u64 (wd S 0), .int .u64 (wd S 1), .int .u64 (wd S 2), .int .u64 (wd S 3), .int .i64 0, .int .i64 0, .slice none 0 0]
def OneEnd (w : World) (S : LS) (e : Ending) (w' : World) : Prop := e = .returned (setV S) ∧ Below w.heap.size w w'
theorem one_any (b : UInt8) (w : World) : Calls Tryz.prog 203 #[.int .u8 b.toNat] w (OneEnd w (oneS b.toNat)) := by
 go_enter Tryz.func203, Tryz.ntmps203
 go_wp2_with fail
 have hb0 : Below w.heap.size w ((w.alloc (.cells #[.int .i64 0, .int .u64 0, .int .u64 0, .int .u64 0, .int .u64 0, .int .i64 0, .int .i64 0, .slice none 0 0] 105)).alloc (.cells #[.int .u8 b.toNat] 5)) := ((Below.refl _ _).alloc (Nat.le_refl _) _).alloc (by simp) _
 have hR0 := (R8.mk0 w w.heap.size rfl).alloc (.cells #[.int .u8 b.toNat] 5)
 refine (of_any b (w.heap.size + 1) _ (by simp) (by simp)).mono ?_
 rintro e w1 ⟨he, hb1⟩
 rw [kc1] at he
 subst he
 have hR1 := hR0.below hb1 (by simp; omega)
 have hb : Below w.heap.size w w1 := hb0.trans (hb1.mono (by simp; omega))
 obtain ⟨⟨⟨c0, c1⟩, c2, c3⟩, ⟨c4, c5⟩, c6, c7⟩ := hR1.cells
 obtain ⟨⟨⟨f0, f1⟩, f2, f3⟩, ⟨f4, f5⟩, f6, f7⟩ := hR1.free
 have HF := hD (hR1.all (.int .i64 2) (.int .u64 (wd (oneS b.toNat) 0)) (.int .u64 (wd (oneS b.toNat) 1)) (.int .u64 (wd (oneS b.toNat) 2)) (.int .u64 (wd (oneS b.toNat) 3)) (.int .i64 0) (.int .i64 0) (.slice none 0 0))
 have HB := hD (kdk hb (Nat.le_refl w.heap.size) (.int .i64 2) (.int .u64 (wd (oneS b.toNat) 0)) (.int .u64 (wd (oneS b.toNat) 1)) (.int .u64 (wd (oneS b.toNat) 2)) (.int .u64 (wd (oneS b.toNat) 3)) (.int .i64 0) (.int .i64 0) (.slice none 0 0))
 clear hR0 hR1 hb hb0 hb1
 go_wp2_with fail
 obtain ⟨⟨⟨d0, d1⟩, d2, d3⟩, ⟨d4, d5⟩, d6, d7⟩ := HF.out.cells
 unfold set8 at d0 d1 d2 d3 d4 d5 d6 d7
 refine bodyPost_ret (v := setV (oneS b.toNat)) (by simp [results, Tryz.results203, go_sem, d0, d1, d2, d3, d4, d5, d6, d7, setV]) rfl ?_
 exact ⟨rfl, HB.out⟩
theorem of_ten (g : Nat) (w : World) (hg : g < w.heap.size) (hc : w.cell? ⟨g, 0, none⟩ = some (.int .u8 10)) : Calls Tryz.prog 220 #[.slice (some ⟨g, 0, none⟩) 1 1] w (LRes w (oneS 10)) := of_any 10 g w hg hc
theorem dot_any (w : World) : Calls Tryz.prog 205 #[] w (LRes w dotS) := by
 go_enter Tryz.func205, Tryz.ntmps205
 go_wp2_with fail
 have hb0 : Below w.heap.size w ((w.alloc (.cells #[.int .u64 0, .int .u64 0, .int .u64 0, .int .u64 0] 102)).alloc (.cells #[.int .u8 10] 5)) := ((Below.refl _ _).alloc (Nat.le_refl _) _).alloc (by simp) _
 have hR0 := (LBlk.mk0 w w.heap.size rfl).alloc (.cells #[.int .u8 10] 5)
 refine (of_ten (w.heap.size + 1) _ (by simp) (by simp)).mono ?_
 rintro e w1 ⟨he, hb1⟩
 subst he
 have hR1 := hR0.below hb1 (by simp; omega)
 have hb := hb0.trans (hb1.mono (by simp; omega))
 clear hR0 hb0 hb1
 go_wp2_with fail
 refine (kjD (oneS 10) w1).mono ?_
 rintro e w2 ⟨he, hb2⟩
 have hR2 := hR1.below hb2 (Blk.lt hR1)
 have hb' := hb.trans (hb2.mono hb.size)
 rw [kc1] at he
 subst he
 clear hR1 hb hb2
 obtain ⟨⟨c0, c1⟩, c2, c3⟩ := hR2.cells
 obtain ⟨⟨f0, f1⟩, f2, f3⟩ := hR2.free
 have HZ := hD (hR2.all (notS (oneS 10)))
 have HZB := hD (kdK hb' (Nat.le_refl w.heap.size) (.int .u64 (wd (notS (oneS 10)) 0)) (.int .u64 (wd (notS (oneS 10)) 1)) (.int .u64 (wd (notS (oneS 10)) 2)) (.int .u64 (wd (notS (oneS 10)) 3)))
 clear hR2 hb'
 go_wp2_with fail
 obtain ⟨⟨d0, d1⟩, d2, d3⟩ := HZ.out.cells
 refine bodyPost_ret (v := lsV dotS) (by simp [results, Tryz.results205, go_sem, d0, d1, d2, d3, lsV, lsC, wds, dotS]) rfl ?_
 exact ⟨rfl, HZB.out⟩
end Go.Proofs.YtamhdmkolfmmdaaGreatDoor
