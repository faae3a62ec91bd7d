/- Blocks that hold a regular expression; the walks of regex.one, dot. The walk of the parser's number. The walk of the parser's class. The walk of the parser's counter. -/
import Derived.Test.YtniefnjcimempaarRf
import Derived.Test.YtniefnjcimempaarShelf
import Derived.Test.YtniefnjcimempaarRc
import Derived.Deep.LoopGhost
import Derived.IntWalk
import Derived.Deep.DeepCutAuto
namespace Go.Proofs.Ytniefnjcimempaa
open Go.RowKit
def R8 (w : World) (g : Nat) (v0 v1 v2 v3 v4 v5 v6 v7 : Value) : Prop := Blk w g 108 #[v0, v1, v2, v3, v4, v5, v6, v7]
section
variable {w : World} {g : Nat} {v0 v1 v2 v3 v4 v5 v6 v7 : Value}
theorem R8.cells (h : R8 w g v0 v1 v2 v3 v4 v5 v6 v7) : ((w.cell? ⟨g, 0, none⟩ = some v0 ∧ w.cell? ⟨g, 1, none⟩ = some v1) ∧ (w.cell? ⟨g, 2, none⟩ = some v2 ∧ w.cell? ⟨g, 3, none⟩ = some v3)) ∧ ((w.cell? ⟨g, 4, none⟩ = some v4 ∧ w.cell? ⟨g, 5, none⟩ = some v5) ∧ (w.cell? ⟨g, 6, none⟩ = some v6 ∧ w.cell? ⟨g, 7, none⟩ = some v7)) :=
  ⟨⟨⟨Blk.cell h 0, Blk.cell h 1⟩, Blk.cell h 2, Blk.cell h 3⟩, ⟨Blk.cell h 4, Blk.cell h 5⟩, Blk.cell h 6, Blk.cell h 7⟩
theorem R8.free (h : R8 w g v0 v1 v2 v3 v4 v5 v6 v7) : ((w.frozen? ⟨g, 0, none⟩ = false ∧ w.frozen? ⟨g, 1, none⟩ = false) ∧ (w.frozen? ⟨g, 2, none⟩ = false ∧ w.frozen? ⟨g, 3, none⟩ = false)) ∧ ((w.frozen? ⟨g, 4, none⟩ = false ∧ w.frozen? ⟨g, 5, none⟩ = false) ∧ (w.frozen? ⟨g, 6, none⟩ = false ∧ w.frozen? ⟨g, 7, none⟩ = false)) :=
  ⟨⟨⟨Blk.frozen h 0, Blk.frozen h 1⟩, Blk.frozen h 2, Blk.frozen h 3⟩, ⟨Blk.frozen h 4, Blk.frozen h 5⟩, Blk.frozen h 6, Blk.frozen h 7⟩
def set8 (w : World) (g : Nat) (u0 u1 u2 u3 u4 u5 u6 u7 : Value) : World :=
  (((((((w.setCell ⟨g, 0, none⟩ u0).setCell ⟨g, 1, none⟩ u1).setCell ⟨g, 2, none⟩ u2).setCell ⟨g, 3, none⟩ u3).setCell ⟨g, 4, none⟩ u4).setCell ⟨g, 5, none⟩ u5).setCell ⟨g, 6, none⟩ u6).setCell ⟨g, 7, none⟩ u7
theorem R8.s0 (h : R8 w g v0 v1 v2 v3 v4 v5 v6 v7) (u : Value) : R8 (w.setCell ⟨g, 0, none⟩ u) g u v1 v2 v3 v4 v5 v6 v7 := Blk.set_ h 0 u
theorem R8.s1 (h : R8 w g v0 v1 v2 v3 v4 v5 v6 v7) (u : Value) : R8 (w.setCell ⟨g, 1, none⟩ u) g v0 u v2 v3 v4 v5 v6 v7 := Blk.set_ h 1 u
theorem R8.s2 (h : R8 w g v0 v1 v2 v3 v4 v5 v6 v7) (u : Value) : R8 (w.setCell ⟨g, 2, none⟩ u) g v0 v1 u v3 v4 v5 v6 v7 := Blk.set_ h 2 u
theorem R8.s3 (h : R8 w g v0 v1 v2 v3 v4 v5 v6 v7) (u : Value) : R8 (w.setCell ⟨g, 3, none⟩ u) g v0 v1 v2 u v4 v5 v6 v7 := Blk.set_ h 3 u
theorem R8.s4 (h : R8 w g v0 v1 v2 v3 v4 v5 v6 v7) (u : Value) : R8 (w.setCell ⟨g, 4, none⟩ u) g v0 v1 v2 v3 u v5 v6 v7 := Blk.set_ h 4 u
theorem R8.s5 (h : R8 w g v0 v1 v2 v3 v4 v5 v6 v7) (u : Value) : R8 (w.setCell ⟨g, 5, none⟩ u) g v0 v1 v2 v3 v4 u v6 v7 := Blk.set_ h 5 u
theorem R8.s6 (h : R8 w g v0 v1 v2 v3 v4 v5 v6 v7) (u : Value) : R8 (w.setCell ⟨g, 6, none⟩ u) g v0 v1 v2 v3 v4 v5 u v7 := Blk.set_ h 6 u
theorem R8.s7 (h : R8 w g v0 v1 v2 v3 v4 v5 v6 v7) (u : Value) : R8 (w.setCell ⟨g, 7, none⟩ u) g v0 v1 v2 v3 v4 v5 v6 u := Blk.set_ h 7 u
theorem R8.all (h : R8 w g v0 v1 v2 v3 v4 v5 v6 v7) (u0 u1 u2 u3 u4 u5 u6 u7 : Value) : R8 (set8 w g u0 u1 u2 u3 u4 u5 u6 u7) g u0 u1 u2 u3 u4 u5 u6 u7 :=
  (((((((h.s0 u0).s1 u1).s2 u2).s3 u3).s4 u4).s5 u5).s6 u6).s7 u7
theorem R8.below {B : Nat} {w' : World} (h : R8 w g v0 v1 v2 v3 v4 v5 v6 v7) (hb : Below B w w') (hg : g < B) : R8 w' g v0 v1 v2 v3 v4 v5 v6 v7 := Blk.below h hb hg
theorem R8.kept {F : Nat → Prop} {w' : World} (h : R8 w g v0 v1 v2 v3 v4 v5 v6 v7) (hb : Kept F w w') (hg : ¬ F g) : R8 w' g v0 v1 v2 v3 v4 v5 v6 v7 := Blk.kept h hb hg
theorem R8.alloc (h : R8 w g v0 v1 v2 v3 v4 v5 v6 v7) (o : Obj) : R8 (w.alloc o) g v0 v1 v2 v3 v4 v5 v6 v7 := Blk.alloc h o
theorem R8.lt (h : R8 w g v0 v1 v2 v3 v4 v5 v6 v7) : g < w.heap.size := Blk.lt h
theorem LBlk.below {B : Nat} {w' : World} {S : LS} (h : LBlk w g S) (hb : Below B w w') (hg : g < B) : LBlk w' g S := Blk.below h hb hg
theorem R8.mk0 (w : World) (g : Nat) (hg : g = w.heap.size) : R8 (w.alloc (.cells #[.int .i64 0, .int .u64 0, .int .u64 0, .int .u64 0, .int .u64 0, .int .i64 0, .int .i64 0, .slice none 0 0] 108)) g (.int .i64 0) (.int .u64 0) (.int .u64 0) (.int .u64 0) (.int .u64 0) (.int .i64 0) (.int .i64 0) (.slice none 0 0) := by subst hg; exact Blk.new _ _ _
theorem below_set8 {B : Nat} {w' : World} (h : Below B w w') (hg : B ≤ g) (u0 u1 u2 u3 u4 u5 u6 u7 : Value) : Below B w (set8 w' g u0 u1 u2 u3 u4 u5 u6 u7) :=
  (((((((h.setCell hg u0).setCell hg u1).setCell hg u2).setCell hg u3).setCell hg u4).setCell hg u5).setCell hg u6).setCell hg u7
theorem kept_set8 {F : Nat → Prop} {w' : World} (h : Kept F w w') (hg : F g ∨ w.heap.size ≤ g) (u0 u1 u2 u3 u4 u5 u6 u7 : Value) : Kept F w (set8 w' g u0 u1 u2 u3 u4 u5 u6 u7) :=
  (((((((h.setCell (p := ⟨g, 0, none⟩) hg u0).setCell (p := ⟨g, 1, none⟩) hg u1).setCell (p := ⟨g, 2, none⟩) hg u2).setCell (p := ⟨g, 3, none⟩) hg u3).setCell (p := ⟨g, 4, none⟩) hg u4).setCell (p := ⟨g, 5, none⟩) hg u5).setCell (p := ⟨g, 6, none⟩) hg u6).setCell (p := ⟨g, 7, none⟩) hg u7
theorem Blk.set8 {g' : Nat} {t : TypeId} {cs : Array Value} (h : Blk w g' t cs) (hg : g' ≠ g) (u0 u1 u2 u3 u4 u5 u6 u7 : Value) : Blk (set8 w g u0 u1 u2 u3 u4 u5 u6 u7) g' t cs :=
  (((((((h.far hg u0).far hg u1).far hg u2).far hg u3).far hg u4).far hg u5).far hg u6).far hg u7
end
def setV (S : LS) : Value := .agg #[.int .i64 2, .int .u64 (wd S 0), .int .u64 (wd S 1), .int .u64 (wd S 2), .int .u64 (wd S 3), .int .i64 0, .int .i64 0, .slice none 0 0]
def OneEnd (w : World) (S : LS) (e : Ending) (w' : World) : Prop := e = .returned (setV S) ∧ Below w.heap.size w w'
set_option maxHeartbeats 1000000 in
theorem one_any (b : UInt8) (w : World) : Calls Try.prog 111 #[.int .u8 b.toNat] w (OneEnd w (oneS b.toNat)) := by
  go_enter Try.func111, Try.ntmps111
  go_wp2_with fail
  have hb0 : Below w.heap.size w ((w.alloc (.cells #[.int .i64 0, .int .u64 0, .int .u64 0, .int .u64 0, .int .u64 0, .int .i64 0, .int .i64 0, .slice none 0 0] 108)).alloc (.cells #[.int .u8 b.toNat] 5)) := ((Below.refl _ _).alloc (Nat.le_refl _) _).alloc (by simp) _
  have hR0 := (R8.mk0 w w.heap.size rfl).alloc (.cells #[.int .u8 b.toNat] 5)
  refine (of_any b (w.heap.size + 1) _ (by simp) (by simp)).mono ?_
  rintro e w1 ⟨he, hb1⟩
  rw [lsV_eq] at he
  subst he
  have hR1 := hR0.below hb1 (by simp; omega)
  have hb : Below w.heap.size w w1 := hb0.trans (hb1.mono (by simp; omega))
  obtain ⟨⟨⟨c0, c1⟩, c2, c3⟩, ⟨c4, c5⟩, c6, c7⟩ := hR1.cells
  obtain ⟨⟨⟨f0, f1⟩, f2, f3⟩, ⟨f4, f5⟩, f6, f7⟩ := hR1.free
  have HF := Lib.hid (hR1.all (.int .i64 2) (.int .u64 (wd (oneS b.toNat) 0)) (.int .u64 (wd (oneS b.toNat) 1)) (.int .u64 (wd (oneS b.toNat) 2)) (.int .u64 (wd (oneS b.toNat) 3)) (.int .i64 0) (.int .i64 0) (.slice none 0 0))
  have HB := Lib.hid (below_set8 hb (Nat.le_refl w.heap.size) (.int .i64 2) (.int .u64 (wd (oneS b.toNat) 0)) (.int .u64 (wd (oneS b.toNat) 1)) (.int .u64 (wd (oneS b.toNat) 2)) (.int .u64 (wd (oneS b.toNat) 3)) (.int .i64 0) (.int .i64 0) (.slice none 0 0))
  clear hR0 hR1 hb hb0 hb1
  go_wp2_with fail
  obtain ⟨⟨⟨d0, d1⟩, d2, d3⟩, ⟨d4, d5⟩, d6, d7⟩ := HF.out.cells
  unfold set8 at d0 d1 d2 d3 d4 d5 d6 d7
  refine bodyPost_ret (v := setV (oneS b.toNat)) (by simp [results, Try.results111, go_sem, d0, d1, d2, d3, d4, d5, d6, d7, setV]) rfl ?_
  exact ⟨rfl, HB.out⟩
theorem of_ten (g : Nat) (w : World) (hg : g < w.heap.size) (hc : w.cell? ⟨g, 0, none⟩ = some (.int .u8 10)) : Calls Try.prog 120 #[.slice (some ⟨g, 0, none⟩) 1 1] w (LRes w (oneS 10)) := of_any 10 g w hg hc
set_option maxHeartbeats 1000000 in
theorem dot_any (w : World) : Calls Try.prog 113 #[] w (LRes w dotS) := by
  go_enter Try.func113, Try.ntmps113
  go_wp2_with fail
  have hb0 : Below w.heap.size w ((w.alloc (.cells #[.int .u64 0, .int .u64 0, .int .u64 0, .int .u64 0] 105)).alloc (.cells #[.int .u8 10] 5)) := ((Below.refl _ _).alloc (Nat.le_refl _) _).alloc (by simp) _
  have hR0 := (LBlk.mk0 w w.heap.size rfl).alloc (.cells #[.int .u8 10] 5)
  refine (of_ten (w.heap.size + 1) _ (by simp) (by simp)).mono ?_
  rintro e w1 ⟨he, hb1⟩
  subst he
  have hR1 := hR0.below hb1 (by simp; omega)
  have hb := hb0.trans (hb1.mono (by simp; omega))
  clear hR0 hb0 hb1
  go_wp2_with fail
  refine (not_any (oneS 10) w1).mono ?_
  rintro e w2 ⟨he, hb2⟩
  have hR2 := hR1.below hb2 (Blk.lt hR1)
  have hb' := hb.trans (hb2.mono hb.size)
  rw [lsV_eq] at he
  subst he
  clear hR1 hb hb2
  obtain ⟨⟨c0, c1⟩, c2, c3⟩ := hR2.cells
  obtain ⟨⟨f0, f1⟩, f2, f3⟩ := hR2.free
  have HZ := Lib.hid (hR2.all (notS (oneS 10)))
  have HZB := Lib.hid (below_all hb' (Nat.le_refl w.heap.size) (.int .u64 (wd (notS (oneS 10)) 0)) (.int .u64 (wd (notS (oneS 10)) 1)) (.int .u64 (wd (notS (oneS 10)) 2)) (.int .u64 (wd (notS (oneS 10)) 3)))
  clear hR2 hb'
  go_wp2_with fail
  obtain ⟨⟨d0, d1⟩, d2, d3⟩ := HZ.out.cells
  refine bodyPost_ret (v := lsV dotS) (by simp [results, Try.results113, go_sem, d0, d1, d2, d3, lsV, lsC, wds, dotS]) rfl ?_
  exact ⟨rfl, HZB.out⟩
end Go.Proofs.Ytniefnjcimempaa
namespace Go.Proofs.Ytniefnjcimempaa
open Go.RowKit
def nV (r : Option (Nat × Nat)) : Option (Value × Nat) := r.map fun p => (.int .i64 p.1, p.2)
theorem numP_eq (T : List UInt8) (k : Nat) : numP T k = match numL T (T.length + 1) k 0 with
  | none => none
  | some (n, e) => if e = k ∨ (T[k]? = some 48 ∧ k + 1 < e) then none else some (n, e) := rfl
def NumRel (T : List UInt8) (w : World) (g k0 : Nat) (R : Option (Nat × Nat)) (f : Nat) (v : Value) (wr : World) : Prop :=
  ∃ k n : Nat, v = .int .i64 n ∧ PS T wr g k ∧ k0 ≤ k ∧ n ≤ 64 ∧ T.length - k < f ∧ Hid (numL T f k n = R) ∧ Kept (isG g) w wr
set_option maxHeartbeats 4000000 in
theorem number_any {T : List UInt8} {g k0 : Nat} (w : World) (h : PS T w g k0) : Calls Try.prog 116 #[.pointer (some ⟨g, 0, none⟩)] w (PRes T w g (nV (numP T k0))) := by
  obtain ⟨R, hR⟩ : ∃ R, R = numL T (T.length + 1) k0 0 := ⟨_, rfl⟩
  obtain ⟨Z, hZ⟩ : ∃ Z, Z = numP T k0 := ⟨_, rfl⟩
  rw [← hZ]
  have HZ := Lib.hid hZ
  have HR := Lib.hid hR
  have H0 := Lib.hid h
  obtain ⟨c0, c1, q1⟩ := h.cells
  have hsz : (ByteArray.mk T.toArray).size = T.length := by simp [ByteArray.size]
  have hT := h.2.2
  have hk0 := h.2.1
  clear hR hZ h
  go_enter Try.func116, Try.ntmps116
  go_wp2_with fail
  go_loopg [4] (T.length + 1) (fun f v wr => NumRel T w g k0 R f v wr)
  case atStart => exact ⟨k0, 0, rfl, H0.out, by omega, by omega, by omega, HR.out.symm, Kept.refl _ _⟩
  case round =>
    clear c0 c1 q1
    obtain ⟨k, n, rfl, hp, h1, h2, h3, hP, hK⟩ := hrel
    obtain ⟨f, rfl⟩ : ∃ f, gk = f + 1 := ⟨gk - 1, by omega⟩
    obtain ⟨c0, c1, q1⟩ := hp.cells
    have H := Lib.hid hp
    have HK := Lib.hid hK
    have hP2 := hP.out
    have hke := hp.2.1
    clear hp hK hP
    rcases hb : T[k]? with _ | b
    · have hle : decide (k < T.length) = false := by have := List.getElem?_eq_none_iff.1 hb; simp; omega
      rw [numL, hb] at hP2
      have hR0 : some (n, k) = numL T (T.length + 1) k0 0 := hP2.trans HR.out
      clear hb hP2
      by_cases h0 : k = k0
      · subst h0
        have hz : Z = none := by rw [HZ.out, numP_eq, ← hR0]; exact if_pos (.inl rfl)
        subst hz
        have t1 : ((k : Int) == (k : Int)) = true := by simp
        go_wp2_with fail
        go_quiet (fail)
        go_wp2_with fail
        exact ⟨rfl, rfl, ⟨_, H.out.drewN _⟩, HK.out.drewN _⟩
      · have t1 : ((k : Int) == (k0 : Int)) = false := by simp; omega
        have hl0 : k0 < T.length := by have := H.out.2.1; omega
        obtain ⟨c, hc⟩ : ∃ c, T[k0]? = some c := ⟨T[k0], List.getElem?_eq_getElem hl0⟩
        have hixc := idxT (P := Try.prog) Try.underlying9 hc
        by_cases h48 : c = 48
        · subst h48
          rw [show ((48 : UInt8).toNat : Int) = 48 from rfl] at hixc
          by_cases hk1 : k0 + 1 < k
          · have t2 : decide ((k0 : Int) + 1 < (k : Int)) = true := by simp; omega
            have hz : Z = none := by rw [HZ.out, numP_eq, ← hR0]; exact if_pos (.inr ⟨hc, hk1⟩)
            subst hz
            have HC := Lib.hid hc
            clear hc hR0
            go_wp2_with fail
            go_quiet (fail)
            go_wp2_with fail
            exact ⟨rfl, rfl, ⟨_, H.out.drewN _⟩, HK.out.drewN _⟩
          · have t2 : decide ((k0 : Int) + 1 < (k : Int)) = false := by simp; omega
            have hz : Z = some (n, k) := by rw [HZ.out, numP_eq, ← hR0]; exact if_neg (by rintro (h | h); exact h0 h; exact hk1 h.2)
            subst hz
            have HC := Lib.hid hc
            clear hc hR0
            go_wp2_with fail
            go_quiet (fail)
            go_wp2_with fail
            go_ret
            exact ⟨rfl, H.out.drewN _, HK.out.drewN _⟩
        · have t2 : ((c.toNat : Int) == 48) = false := ne_lit (c := 48) h48
          have hz : Z = some (n, k) := by rw [HZ.out, numP_eq, ← hR0]; exact if_neg (by rintro (h | h); exact h0 h; rw [hc] at h; injection h.1 with h; exact h48 h)
          subst hz
          have HC := Lib.hid hc
          have H48 := Lib.hid h48
          clear hc hR0 h48
          go_wp2_with fail
          go_quiet (fail)
          go_wp2_with fail
          go_ret
          exact ⟨rfl, H.out.drewN _, HK.out.drewN _⟩
    · have hl := at_lt hb
      have hle : decide ((k : Int) < (T.length : Int)) = true := by simp; omega
      have hix := idxT (P := Try.prog) Try.underlying9 hb
      rw [numL_step hb] at hP2
      obtain ⟨hx0, hx1⟩ := u8b b
      by_cases hd : 48 ≤ b ∧ b ≤ 57
      · rw [if_pos hd] at hP2
        have hd1 : 48 ≤ (b.toNat : Int) ∧ (b.toNat : Int) ≤ 57 := by
          have e1 := UInt8.le_iff_toNat_le.1 hd.1
          have e2 := UInt8.le_iff_toNat_le.1 hd.2
          rw [show (48 : UInt8).toNat = 48 from rfl] at e1
          rw [show (57 : UInt8).toNat = 57 from rfl] at e2
          omega
        obtain ⟨hd1, hd2⟩ := hd1
        have g1 : decide (48 ≤ (b.toNat : Int)) = true := by simp; omega
        have g2 : decide ((b.toNat : Int) ≤ 57) = true := by simp; omega
        have HB := Lib.hid hb
        clear hd hb
        by_cases h64 : 64 < n * 10 + (b.toNat - 48)
        · rw [if_pos h64] at hP2
          have hz : Z = none := by rw [HZ.out, numP_eq, ← HR.out, ← hP2]
          subst hz
          have g3 : decide (64 < (n : Int) * 10 + ((b.toNat : Int) - 48)) = true := by simp; omega
          clear hP2
          go_wp2_with fail
          go_quiet (fail)
          go_wp2_with fail
          refine (next_some _ (H.out.drewN _) HB.out).mono ?_
          rintro e w1 ⟨rfl, hp1, hk1⟩
          go_wp2_with fail
          exact ⟨rfl, rfl, ⟨_, hp1⟩, (HK.out.drewN _).then_ hk1⟩
        · rw [if_neg h64] at hP2
          have HP := Lib.hid hP2
          have g3 : decide (64 < (n : Int) * 10 + ((b.toNat : Int) - 48)) = false := by simp; omega
          clear hP2
          go_wp2_with fail
          go_quiet (fail)
          go_wp2_with fail
          refine (next_some _ (H.out.drewN _) HB.out).mono ?_
          rintro e w1 ⟨rfl, hp1, hk1⟩
          go_wp2_with fail
          go_roundg f
          case measure => omega
          case rel => exact ⟨k + 1, n * 10 + (b.toNat - 48), by rw [show ((n * 10 + (b.toNat - 48) : Nat) : Int) = (n : Int) * 10 + ((b.toNat : Int) - 48) by omega], hp1, by omega, by omega, by omega, HP, (HK.out.drewN _).then_ hk1⟩
      · rw [if_neg hd] at hP2
        have hR0 : some (n, k) = numL T (T.length + 1) k0 0 := hP2.trans HR.out
        have hd1 : (b.toNat : Int) < 48 ∨ 57 < (b.toNat : Int) := by
          rw [UInt8.le_iff_toNat_le, UInt8.le_iff_toNat_le, show (48 : UInt8).toNat = 48 from rfl, show (57 : UInt8).toNat = 57 from rfl] at hd
          omega
        clear hd hb hP2
        rcases hd1 with hd1 | hd1
        · have g1 : decide (48 ≤ (b.toNat : Int)) = false := by simp; omega
          by_cases h0 : k = k0
          · subst h0
            have hz : Z = none := by rw [HZ.out, numP_eq, ← hR0]; exact if_pos (.inl rfl)
            subst hz
            have t1 : ((k : Int) == (k : Int)) = true := by simp
            go_wp2_with fail
            go_quiet (fail)
            go_wp2_with fail
            exact ⟨rfl, rfl, ⟨_, H.out.drewN _⟩, HK.out.drewN _⟩
          · have t1 : ((k : Int) == (k0 : Int)) = false := by simp; omega
            have hl0 : k0 < T.length := by have := H.out.2.1; omega
            obtain ⟨c, hc⟩ : ∃ c, T[k0]? = some c := ⟨T[k0], List.getElem?_eq_getElem hl0⟩
            have hixc := idxT (P := Try.prog) Try.underlying9 hc
            by_cases h48 : c = 48
            · subst h48
              rw [show ((48 : UInt8).toNat : Int) = 48 from rfl] at hixc
              by_cases hk1 : k0 + 1 < k
              · have t2 : decide ((k0 : Int) + 1 < (k : Int)) = true := by simp; omega
                have hz : Z = none := by rw [HZ.out, numP_eq, ← hR0]; exact if_pos (.inr ⟨hc, hk1⟩)
                subst hz
                have HC := Lib.hid hc
                clear hc hR0
                go_wp2_with fail
                go_quiet (fail)
                go_wp2_with fail
                exact ⟨rfl, rfl, ⟨_, H.out.drewN _⟩, HK.out.drewN _⟩
              · have t2 : decide ((k0 : Int) + 1 < (k : Int)) = false := by simp; omega
                have hz : Z = some (n, k) := by rw [HZ.out, numP_eq, ← hR0]; exact if_neg (by rintro (h | h); exact h0 h; exact hk1 h.2)
                subst hz
                have HC := Lib.hid hc
                clear hc hR0
                go_wp2_with fail
                go_quiet (fail)
                go_wp2_with fail
                go_ret
                exact ⟨rfl, H.out.drewN _, HK.out.drewN _⟩
            · have t2 : ((c.toNat : Int) == 48) = false := ne_lit (c := 48) h48
              have hz : Z = some (n, k) := by rw [HZ.out, numP_eq, ← hR0]; exact if_neg (by rintro (h | h); exact h0 h; rw [hc] at h; injection h.1 with h; exact h48 h)
              subst hz
              have HC := Lib.hid hc
              have H48 := Lib.hid h48
              clear hc hR0 h48
              go_wp2_with fail
              go_quiet (fail)
              go_wp2_with fail
              go_ret
              exact ⟨rfl, H.out.drewN _, HK.out.drewN _⟩
        · have g1 : decide (48 ≤ (b.toNat : Int)) = true := by simp; omega
          have g2 : decide ((b.toNat : Int) ≤ 57) = false := by simp; omega
          by_cases h0 : k = k0
          · subst h0
            have hz : Z = none := by rw [HZ.out, numP_eq, ← hR0]; exact if_pos (.inl rfl)
            subst hz
            have t1 : ((k : Int) == (k : Int)) = true := by simp
            go_wp2_with fail
            go_quiet (fail)
            go_wp2_with fail
            exact ⟨rfl, rfl, ⟨_, H.out.drewN _⟩, HK.out.drewN _⟩
          · have t1 : ((k : Int) == (k0 : Int)) = false := by simp; omega
            have hl0 : k0 < T.length := by have := H.out.2.1; omega
            obtain ⟨c, hc⟩ : ∃ c, T[k0]? = some c := ⟨T[k0], List.getElem?_eq_getElem hl0⟩
            have hixc := idxT (P := Try.prog) Try.underlying9 hc
            by_cases h48 : c = 48
            · subst h48
              rw [show ((48 : UInt8).toNat : Int) = 48 from rfl] at hixc
              by_cases hk1 : k0 + 1 < k
              · have t2 : decide ((k0 : Int) + 1 < (k : Int)) = true := by simp; omega
                have hz : Z = none := by rw [HZ.out, numP_eq, ← hR0]; exact if_pos (.inr ⟨hc, hk1⟩)
                subst hz
                have HC := Lib.hid hc
                clear hc hR0
                go_wp2_with fail
                go_quiet (fail)
                go_wp2_with fail
                exact ⟨rfl, rfl, ⟨_, H.out.drewN _⟩, HK.out.drewN _⟩
              · have t2 : decide ((k0 : Int) + 1 < (k : Int)) = false := by simp; omega
                have hz : Z = some (n, k) := by rw [HZ.out, numP_eq, ← hR0]; exact if_neg (by rintro (h | h); exact h0 h; exact hk1 h.2)
                subst hz
                have HC := Lib.hid hc
                clear hc hR0
                go_wp2_with fail
                go_quiet (fail)
                go_wp2_with fail
                go_ret
                exact ⟨rfl, H.out.drewN _, HK.out.drewN _⟩
            · have t2 : ((c.toNat : Int) == 48) = false := ne_lit (c := 48) h48
              have hz : Z = some (n, k) := by rw [HZ.out, numP_eq, ← hR0]; exact if_neg (by rintro (h | h); exact h0 h; rw [hc] at h; injection h.1 with h; exact h48 h)
              subst hz
              have HC := Lib.hid hc
              have H48 := Lib.hid h48
              clear hc hR0 h48
              go_wp2_with fail
              go_quiet (fail)
              go_wp2_with fail
              go_ret
              exact ⟨rfl, H.out.drewN _, HK.out.drewN _⟩
end Go.Proofs.Ytniefnjcimempaa
namespace Go.Proofs.Ytniefnjcimempaa
open Go.RowKit
def sV (r : Option (LS × Nat)) : Option (Value × Nat) := r.map fun p => (lsV p.1, p.2)
def ClsRel (T : List UInt8) (w : World) (g f0 : Nat) (R : Option Nat) (f : Nat) (wr : World) : Prop :=
  ∃ k : Nat, PS T wr g k ∧ f0 ≤ k ∧ T.length - k < f ∧ Hid (endP T f k = R) ∧ LBlk wr w.heap.size noneS ∧ Kept (isG g) w wr
theorem LBlk.kept {F : Nat → Prop} {w w' : World} {g : Nat} {S : LS} (h : LBlk w g S) (k : Kept F w w') (hg : ¬ F g) : LBlk w' g S := Blk.kept h k hg
theorem LBlk.drewN {w : World} {g : Nat} {S : LS} (h : LBlk w g S) (n : Nat) : LBlk (w.drewN n) g S := h
theorem endP_step {T : List UInt8} {f k : Nat} {b : UInt8} (hb : T[k]? = some b) : endP T (f + 1) k = if b = 93 then some (k + 1) else if b = 92 then (match T[k + 1]? with
        | none => none
        | some _ => endP T f (k + 2))
      else endP T f (k + 1) := by
  rw [endP, hb]
  rfl
theorem endP_none {T : List UInt8} {f k : Nat} (hb : T[k]? = none) : endP T (f + 1) k = none := by rw [endP, hb]
def clsS (nb : Bool) (e : Nat) (r : Option LS) : Option (LS × Nat) := match r with
  | none => none
  | some S => some (if nb then notS S else S, e)
def clsZ (T : List UInt8) (f0 : Nat) (nb : Bool) (r : Option Nat) : Option (LS × Nat) := match r with
  | none => none
  | some e => clsS nb e (lsP (e - 1 - f0 + 1) ((T.drop f0).take (e - 1 - f0)) noneS)
theorem PS.far4 {T : List UInt8} {w : World} {g k X : Nat} (h : PS T w g k) (hg : g ≠ X) (u0 u1 u2 u3 : Value) : PS T ((((w.setCell ⟨X, 0, none⟩ u0).setCell ⟨X, 1, none⟩ u1).setCell ⟨X, 2, none⟩ u2).setCell ⟨X, 3, none⟩ u3) g k :=
  ⟨(((h.1.far (p := ⟨X, 0, none⟩) hg u0).far (p := ⟨X, 1, none⟩) hg u1).far (p := ⟨X, 2, none⟩) hg u2).far (p := ⟨X, 3, none⟩) hg u3, h.2⟩
def ClsCut (T : List UInt8) (w : World) (g k : Nat) (S : LS) (er : Value) (a b : Value) (wc : World) : Prop :=
  ∃ X, a = .pointer (some ⟨X, 0, none⟩) ∧ b = er ∧ PS T wc g (k + 1) ∧ LBlk wc w.heap.size noneS ∧ LBlk wc X S ∧ Kept (isG g) w wc ∧ w.heap.size < X
theorem clsA {T : List UInt8} {w w2 w3 : World} {g k : Nat} {S : LS} {er : Value} (hp : PS T w2 g (k + 1)) (hL : LBlk w2 w.heap.size noneS) (hK : Kept (isG g) w w2) (hb : Below w2.drew.heap.size w2.drew w3) :
    ClsCut T w g k S er (.pointer (some ⟨w3.heap.size, 0, none⟩)) er (w3.alloc (.cells #[.int .u64 (wd S 0), .int .u64 (wd S 1), .int .u64 (wd S 2), .int .u64 (wd S 3)] 105)) :=
  ⟨_, rfl, rfl, (PS.kept hp.drew (Kept.of_below (F := fun _ => False) hb) id).alloc _, (LBlk.below (LBlk.drewN hL 1) hb (Blk.lt hL)).alloc _, LBlk.mk _ S _ rfl,
    (hK.drew.then_ (Kept.of_below hb)).alloc _, Nat.lt_of_lt_of_le (Blk.lt hL) hb.size⟩
theorem clsB {T : List UInt8} {w w2 w3 : World} {g k : Nat} {S : LS} {er : Value} (hp : PS T w2 g (k + 1)) (hL : LBlk w2 w.heap.size noneS) (hK : Kept (isG g) w w2)
    (hb : Below (w2.alloc (.cells #[.int .u64 0, .int .u64 0, .int .u64 0, .int .u64 0] 105)).drew.heap.size (w2.alloc (.cells #[.int .u64 0, .int .u64 0, .int .u64 0, .int .u64 0] 105)).drew w3) :
    ClsCut T w g k S er (.pointer (some ⟨w2.heap.size, 0, none⟩)) er ((((w3.setCell ⟨w2.heap.size, 0, none⟩ (.int .u64 (wd S 0))).setCell ⟨w2.heap.size, 1, none⟩ (.int .u64 (wd S 1))).setCell ⟨w2.heap.size, 2, none⟩ (.int .u64 (wd S 2))).setCell ⟨w2.heap.size, 3, none⟩ (.int .u64 (wd S 3))) := by
  have hg := hp.lt
  have hl : w.heap.size < w2.heap.size := Blk.lt hL
  have hs : w2.heap.size < w3.heap.size := by have := hb.size; simp at this; omega
  have h0 : LBlk w3 w2.heap.size noneS := LBlk.below (LBlk.drewN (LBlk.mk0 w2 _ rfl) 1) hb (by simp)
  have h1 : PS T w3 g (k + 1) := PS.kept (hp.alloc _).drew (Kept.of_below (F := fun _ => False) hb) id
  have h2 : LBlk w3 w.heap.size noneS := LBlk.below (LBlk.drewN (hL.alloc _) 1) hb (by simp; omega)
  have h3 : Kept (isG g) w w3 := (hK.alloc _).drew.then_ (Kept.of_below hb)
  have hsz := h3.size
  have hwl : w.heap.size ≤ w2.heap.size := hK.size
  exact ⟨_, rfl, rfl, ⟨(((h1.1.far (by show g ≠ w2.heap.size; omega) _).far (by show g ≠ w2.heap.size; omega) _).far (by show g ≠ w2.heap.size; omega) _).far (by show g ≠ w2.heap.size; omega) _, h1.2⟩,
    (((h2.far (by show w.heap.size ≠ w2.heap.size; omega) _).far (by show w.heap.size ≠ w2.heap.size; omega) _).far (by show w.heap.size ≠ w2.heap.size; omega) _).far (by show w.heap.size ≠ w2.heap.size; omega) _, h0.all S,
    (((h3.setCell (p := ⟨w2.heap.size, 0, none⟩) (.inr hwl) _).setCell (p := ⟨w2.heap.size, 1, none⟩) (.inr hwl) _).setCell (p := ⟨w2.heap.size, 2, none⟩) (.inr hwl) _).setCell (p := ⟨w2.heap.size, 3, none⟩) (.inr hwl) _, hl⟩
set_option maxHeartbeats 4000000 in
theorem class_gen {T : List UInt8} {g k0 f0 : Nat} {nb : Bool} (w : World) (h : PS T w g k0) (hS : ∀ w1, PS T w1 g k0 → Calls Try.prog 91 #[.pointer (some ⟨g, 0, none⟩), .int .u8 94] w1 (PStep T w1 g (.bool nb) f0))
    (hf0 : f0 ≤ T.length) (Z : Option (LS × Nat)) (R : Option Nat) (hR : R = endP T (T.length + 1) f0) (hZ : Z = clsZ T f0 nb R) : Calls Try.prog 114 #[.pointer (some ⟨g, 0, none⟩)] w (PRes T w g (sV Z)) := by
  have HZ := Lib.hid hZ
  have HR := Lib.hid hR
  have hsz : (ByteArray.mk T.toArray).size = T.length := by simp [ByteArray.size]
  have hT := h.2.2
  have hg := h.lt
  have HS := Lib.hid (hS _ (h.alloc (.cells #[.int .u64 0, .int .u64 0, .int .u64 0, .int .u64 0] 105)))
  have HK0 := Lib.hid ((Kept.refl (isG g) w).alloc (.cells #[.int .u64 0, .int .u64 0, .int .u64 0, .int .u64 0] 105))
  have HL0 := Lib.hid (LBlk.mk0 w w.heap.size rfl)
  clear hZ hR h hS
  go_enter Try.func114, Try.ntmps114
  go_wp2_with fail
  refine HS.out.mono ?_
  rintro e w1 ⟨rfl, hp1, hk1⟩
  have hne : ¬ isG g w.heap.size := fun e => absurd hg (by rw [show g = w.heap.size from e.symm]; omega)
  have hL1 : LBlk w1 w.heap.size noneS := HL0.out.kept hk1 hne
  have hK1 := HK0.out.then_ hk1
  obtain ⟨c0, c1, q1⟩ := hp1.cells
  clear HS HK0 HL0 hk1
  go_wp2_with fail
  go_loopg [] (T.length + 1) (fun f wr => ClsRel T w g f0 R f wr)
  case atStart => exact ⟨f0, hp1, by omega, by omega, HR.out.symm, hL1, hK1⟩
  case round =>
    clear c0 c1 q1 hp1 hL1 hK1
    obtain ⟨k, hp, h1, h2, hP, hL, hK⟩ := hrel
    obtain ⟨f, rfl⟩ : ∃ f, gk = f + 1 := ⟨gk - 1, by omega⟩
    have hP2 := hP.out
    clear hP
    rcases hb : T[k]? with _ | b
    · rw [endP_none hb] at hP2
      subst hP2
      have hz : Z = none := HZ.out
      subst hz
      have HN := Lib.hid (next_none wr hp hb)
      clear hb
      go_wp2_with fail
      refine HN.out.mono ?_
      rintro e w2 ⟨rfl, hp2, hk2⟩
      go_wp2_with fail
      exact ⟨rfl, rfl, hp2, hK.then_ hk2⟩
    · have HN := Lib.hid (next_some wr hp hb)
      have hl := at_lt hb
      have hix := idxT (P := Try.prog) Try.underlying9 hb
      rw [endP_step hb] at hP2
      clear hb
      by_cases h93 : b = 93
      · rw [if_pos h93] at hP2
        subst h93
        rw [show ((93 : UInt8).toNat : Int) = 93 from rfl] at HN hix
        subst hP2
        have hz : Z = clsS nb (k + 1) (lsP (k - f0 + 1) ((T.drop f0).take (k - f0)) noneS) := HZ.out
        have HZ := Lib.hid hz
        clear hz
        go_wp2_with fail
        refine HN.out.mono ?_
        rintro e w2 ⟨rfl, hp2, hk2⟩
        have hL2 := hL.kept hk2 hne
        have hK2 := hK.then_ hk2
        obtain ⟨c0, c1, q1⟩ := hp2.cells
        have hsl := sliceT2 T f0 k h1 (by omega)
        clear hp hL hK HN hk2
        have hC := lsparse_any ((T.drop f0).take (k - f0))
        have hlen : ((T.drop f0).take (k - f0)).length = k - f0 := by rw [List.length_take, List.length_drop]; omega
        rw [hlen] at hC
        have hC := fun w => hC w (by omega)
        clear hlen
        obtain ⟨S, er, hC, hcase⟩ : ∃ S er, (∀ w, Calls Try.prog 124 #[.string ⟨((T.drop f0).take (k - f0)).toArray⟩] w fun e w' => e = .returned (.tuple #[.agg #[.int .u64 (wd S 0), .int .u64 (wd S 1), .int .u64 (wd S 2), .int .u64 (wd S 3)], er]) ∧ Below w.heap.size w w') ∧
            Hid ((er = .nilIface ∧ Z = some (if nb then notS S else S, k + 1)) ∨ (er = formE ∧ Z = none)) := by
          rcases hls : lsP (k - f0 + 1) ((T.drop f0).take (k - f0)) noneS with _ | S
          · rw [hls] at hC
            exact ⟨noneS, formE, hC, .inr ⟨rfl, by rw [HZ.out, hls]; rfl⟩⟩
          · rw [hls] at hC
            exact ⟨S, .nilIface, hC, .inl ⟨rfl, by rw [HZ.out, hls]; rfl⟩⟩
        have hg2 : g < w2.heap.size := hp2.lt
        have hw1 : IntKind.i64.wrap ((k : Int) + 1 - 1) = (k : Int) := by rw [Int.add_sub_cancel]; exact IntWalk.i64_in _ (by omega)
        have hw2 : IntKind.i64.wrap (((k + 1 : Nat) : Int) - 1) = (k : Int) := hw1
        have hw3 : IntKind.i64.wrap (k : Int) = (k : Int) := IntWalk.i64_in _ (by omega)
        go_wp2_with fail
        go_cut [5, 6] (fun a b wc => ClsCut T w g k S er a b wc)
        case first =>
          go_region_with ((go_at_call 124; refine (hC _).mono ?_; rintro e w3 ⟨rfl, hb3⟩; try (have kz := LBlk.below (LBlk.mk0 w2.drew w2.heap.size rfl) hb3 (by simp); obtain ⟨⟨z0, z1⟩, z2, z3⟩ := kz.cells; obtain ⟨⟨y0, y1⟩, y2, y3⟩ := kz.free)))
          all_goals
            go_wp2_with fail
            go_meet
            case rel => first | ((with_reducible have hz := clsA (S := S) (er := er) hp2 hL2 hK2 hb3); exact hz) | ((with_reducible have hz := clsB (S := S) (er := er) hp2 hL2 hK2 hb3); exact hz)
        case rest =>
          clear c0 c1 q1 hw1 hw2 hw3 hC hsl hix hp2 hL2 hK2
          obtain ⟨X, rfl, rfl, hpc, hLc, hXc, hKc, hlt⟩ := hcut
          obtain ⟨⟨c0, c1⟩, c2, c3⟩ := hXc.cells
          obtain ⟨⟨r0, r1⟩, r2, r3⟩ := hLc.cells
          obtain ⟨⟨f0', f1'⟩, f2', f3'⟩ := hLc.free
          rcases hcase.out with ⟨rfl, rfl⟩ | ⟨rfl, rfl⟩
          · cases nb with
            | false =>
              have HZ1 := Lib.hid (hLc.all S)
              have HZ2 := Lib.hid (hpc.far4 (X := w.heap.size) (by omega) (.int .u64 (wd S 0)) (.int .u64 (wd S 1)) (.int .u64 (wd S 2)) (.int .u64 (wd S 3)))
              have HZ3 := Lib.hid ((((hKc.setCell (p := ⟨w.heap.size, 0, none⟩) (.inr (Nat.le_refl _)) (.int .u64 (wd S 0))).setCell (p := ⟨w.heap.size, 1, none⟩) (.inr (Nat.le_refl _)) (.int .u64 (wd S 1))).setCell (p := ⟨w.heap.size, 2, none⟩) (.inr (Nat.le_refl _)) (.int .u64 (wd S 2))).setCell (p := ⟨w.heap.size, 3, none⟩) (.inr (Nat.le_refl _)) (.int .u64 (wd S 3)))
              clear hLc hpc hKc hXc
              go_wp2_with fail
              obtain ⟨⟨d0, d1⟩, d2, d3⟩ := HZ1.out.cells
              refine bodyPost_ret (v := lsV S) (by simp [results, Try.results114, go_sem, d0, d1, d2, d3, lsV, lsC, wds]) rfl ?_
              exact ⟨rfl, HZ2.out, HZ3.out⟩
            | true =>
              go_wp2_with fail
              refine (not_any S wc).mono ?_
              rintro e w4 ⟨he, hb4⟩
              rw [lsV_eq] at he
              subst he
              have hL4 : LBlk w4 w.heap.size noneS := hLc.below hb4 (Blk.lt hLc)
              have hp4 : PS T w4 g (k + 1) := PS.kept hpc (Kept.of_below (F := fun _ => False) hb4) id
              have hK4 : Kept (isG g) w w4 := hKc.then_ (Kept.of_below hb4)
              clear c0 c1 c2 c3 r0 r1 r2 r3 f0' f1' f2' f3'
              obtain ⟨⟨r0, r1⟩, r2, r3⟩ := hL4.cells
              obtain ⟨⟨f0', f1'⟩, f2', f3'⟩ := hL4.free
              have HZ1 := Lib.hid (hL4.all (notS S))
              have HZ2 := Lib.hid (hp4.far4 (X := w.heap.size) (by omega) (.int .u64 (wd (notS S) 0)) (.int .u64 (wd (notS S) 1)) (.int .u64 (wd (notS S) 2)) (.int .u64 (wd (notS S) 3)))
              have HZ3 := Lib.hid ((((hK4.setCell (p := ⟨w.heap.size, 0, none⟩) (.inr (Nat.le_refl _)) (.int .u64 (wd (notS S) 0))).setCell (p := ⟨w.heap.size, 1, none⟩) (.inr (Nat.le_refl _)) (.int .u64 (wd (notS S) 1))).setCell (p := ⟨w.heap.size, 2, none⟩) (.inr (Nat.le_refl _)) (.int .u64 (wd (notS S) 2))).setCell (p := ⟨w.heap.size, 3, none⟩) (.inr (Nat.le_refl _)) (.int .u64 (wd (notS S) 3)))
              clear hLc hpc hKc hXc hL4 hp4 hK4 hb4
              go_wp2_with fail
              obtain ⟨⟨d0, d1⟩, d2, d3⟩ := HZ1.out.cells
              refine bodyPost_ret (v := lsV (notS S)) (by simp [results, Try.results114, go_sem, d0, d1, d2, d3, lsV, lsC, wds]) rfl ?_
              exact ⟨rfl, HZ2.out, HZ3.out⟩
          · unfold formE
            go_wp2_with fail
            exact ⟨rfl, rfl, ⟨_, hpc⟩, hKc⟩
      · rw [if_neg h93] at hP2
        have t1 : ((b.toNat : Int) == 93) = false := ne_lit (c := 93) h93
        have t2 : ((b.toNat : Int) != 93) = true := by simpa using t1
        clear h93
        by_cases h92 : b = 92
        · rw [if_pos h92] at hP2
          subst h92
          rw [show ((92 : UInt8).toNat : Int) = 92 from rfl] at HN hix t1 t2
          rcases hc : T[k + 1]? with _ | c
          · rw [hc] at hP2
            subst hP2
            have hz : Z = none := HZ.out
            subst hz
            go_wp2_with fail
            refine HN.out.mono ?_
            rintro e w2 ⟨rfl, hp2, hk2⟩
            obtain ⟨c0, c1, q1⟩ := hp2.cells
            have HN2 := Lib.hid fun n => next_none (w2.drewN n) (hp2.drewN n) hc
            have HP := Lib.hid hp2
            have HC := Lib.hid hc
            clear hc hp2
            go_wp2_with fail
            go_quiet (fail)
            go_wp2_with fail
            refine (HN2.out _).mono ?_
            rintro e w3 ⟨rfl, hp3, hk3⟩
            go_wp2_with fail
            exact ⟨rfl, rfl, hp3, ((hK.then_ hk2).drewN _).then_ hk3⟩
          · rw [hc] at hP2
            have HP2 := Lib.hid hP2
            clear hP2
            have hl1 := at_lt hc
            go_wp2_with fail
            refine HN.out.mono ?_
            rintro e w2 ⟨rfl, hp2, hk2⟩
            obtain ⟨c0, c1, q1⟩ := hp2.cells
            have HN2 := Lib.hid fun n => next_some (w2.drewN n) (hp2.drewN n) hc
            have HC := Lib.hid hc
            have HP := Lib.hid hp2
            clear hc hp2
            go_wp2_with fail
            go_quiet (fail)
            go_wp2_with fail
            refine (HN2.out _).mono ?_
            rintro e w3 ⟨rfl, hp3, hk3⟩
            go_wp2_with fail
            go_roundg f
            case measure => omega
            case rel => exact ⟨k + 2, hp3, by omega, by omega, HP2.out, ((hL.kept hk2 hne).drewN _).kept hk3 hne, ((hK.then_ hk2).drewN _).then_ hk3⟩
        · rw [if_neg h92] at hP2
          have t3 : ((b.toNat : Int) == 92) = false := ne_lit (c := 92) h92
          have HP2 := Lib.hid hP2
          clear hP2 h92
          go_wp2_with fail
          refine HN.out.mono ?_
          rintro e w2 ⟨rfl, hp2, hk2⟩
          obtain ⟨c0, c1, q1⟩ := hp2.cells
          have HP := Lib.hid hp2
          clear hp2
          go_wp2_with fail
          go_quiet (fail)
          go_wp2_with fail
          go_roundg f
          case measure => omega
          case rel => exact ⟨k + 1, HP.out.drewN _, by omega, by omega, HP2, (hL.kept hk2 hne).drewN _, (hK.then_ hk2).drewN _⟩
theorem class_any {T : List UInt8} {g k0 : Nat} (w : World) (h : PS T w g k0) : Calls Try.prog 114 #[.pointer (some ⟨g, 0, none⟩)] w (PRes T w g (sV (classP T k0))) := by
  by_cases hn : T[k0]? = some 94
  · refine class_gen (f0 := k0 + 1) (nb := true) w h (fun w1 h1 => skip_yes (b := 94) w1 h1 hn) (by have := at_lt hn; omega) _ _ rfl ?_
    unfold classP
    simp only [if_pos hn]
    rcases endP T (T.length + 1) (k0 + 1) with _ | e
    · rfl
    · simp only [clsZ]
      rcases lsP (e - 1 - (k0 + 1) + 1) ((T.drop (k0 + 1)).take (e - 1 - (k0 + 1))) noneS with _ | S <;> rfl
  · refine class_gen (f0 := k0) (nb := false) w h (fun w1 h1 => skip_no (b := 94) w1 h1 hn) h.2.1 _ _ rfl ?_
    unfold classP
    simp only [if_neg hn]
    rcases endP T (T.length + 1) k0 with _ | e
    · rfl
    · simp only [clsZ]
      rcases lsP (e - 1 - k0 + 1) ((T.drop k0).take (e - 1 - k0)) noneS with _ | S <;> rfl
end Go.Proofs.Ytniefnjcimempaa
namespace Go.Proofs.Ytniefnjcimempaa
open Go.RowKit
theorem skY (b : UInt8) (n : Int) (hn : (b.toNat : Int) = n) {T : List UInt8} {g k : Nat} (w : World) (h : PS T w g k) (hb : T[k]? = some b) : Calls Try.prog 91 #[.pointer (some ⟨g, 0, none⟩), .int .u8 n] w (PStep T w g (.bool true) (k + 1)) := by subst hn; exact skip_yes w h hb
theorem skN (b : UInt8) (n : Int) (hn : (b.toNat : Int) = n) {T : List UInt8} {g k : Nat} (w : World) (h : PS T w g k) (hb : ¬ T[k]? = some b) : Calls Try.prog 91 #[.pointer (some ⟨g, 0, none⟩), .int .u8 n] w (PStep T w g (.bool false) k) := by subst hn; exact skip_no w h hb
theorem num_yes {T : List UInt8} {g k n k' : Nat} (w : World) (h : PS T w g k) (hn : numP T k = some (n, k')) : Calls Try.prog 116 #[.pointer (some ⟨g, 0, none⟩)] w (PStep T w g (.int .i64 n) k') := by
  have := number_any w h
  rw [hn] at this
  exact this
theorem num_no {T : List UInt8} {g k : Nat} (w : World) (h : PS T w g k) (hn : numP T k = none) : Calls Try.prog 116 #[.pointer (some ⟨g, 0, none⟩)] w (PFail T w g) := by
  have := number_any w h
  rw [hn] at this
  exact this
def cntV (lo hi : Int) (ok : Bool) : Value := .tuple #[.int .i64 lo, .int .i64 hi, .bool ok]
def cV (r : Option (Option (Int × Int) × Nat)) : Option (Value × Nat) := match r with
  | none => none
  | some (none, k) => some (cntV 0 0 false, k)
  | some (some (lo, hi), k) => some (cntV lo hi true, k)
set_option maxHeartbeats 1000000
theorem cnt_star {T : List UInt8} {g k : Nat} (w : World) (h : PS T w g k) (e42 : T[k]? = some 42) : Calls Try.prog 100 #[.pointer (some ⟨g, 0, none⟩)] w (PStep T w g (cntV 0 (-1) true) (k + 1)) := by
  have E42 := Lib.hid e42
  clear e42
  go_enter Try.func100, Try.ntmps100
  go_wp2_with fail
  refine (skY 42 42 rfl w h E42.out).mono ?_
  rintro e w1 ⟨rfl, hp1, hk1⟩
  go_wp2_with fail
  go_ret3
  exact ⟨rfl, hp1, hk1⟩
theorem cnt_plus {T : List UInt8} {g k : Nat} (w : World) (h : PS T w g k) (n42 : ¬ T[k]? = some 42) (e43 : T[k]? = some 43) : Calls Try.prog 100 #[.pointer (some ⟨g, 0, none⟩)] w (PStep T w g (cntV 1 (-1) true) (k + 1)) := by
  have E43 := Lib.hid e43
  have N42 := Lib.hid n42
  clear e43 n42
  go_enter Try.func100, Try.ntmps100
  go_wp2_with fail
  refine (skN 42 42 rfl w h N42.out).mono ?_
  rintro e w2 ⟨rfl, hp2, hk2⟩
  go_wp2_with fail
  refine (skY 43 43 rfl w2 hp2 E43.out).mono ?_
  rintro e w3 ⟨rfl, hp3, hk3⟩
  go_wp2_with fail
  go_ret3
  exact ⟨rfl, hp3, (hk2).then_ hk3⟩
theorem cnt_opt {T : List UInt8} {g k : Nat} (w : World) (h : PS T w g k) (n42 : ¬ T[k]? = some 42) (n43 : ¬ T[k]? = some 43) (e63 : T[k]? = some 63) : Calls Try.prog 100 #[.pointer (some ⟨g, 0, none⟩)] w (PStep T w g (cntV 0 1 true) (k + 1)) := by
  have E63 := Lib.hid e63
  have N42 := Lib.hid n42
  have N43 := Lib.hid n43
  clear e63 n42 n43
  go_enter Try.func100, Try.ntmps100
  go_wp2_with fail
  refine (skN 42 42 rfl w h N42.out).mono ?_
  rintro e w4 ⟨rfl, hp4, hk4⟩
  go_wp2_with fail
  refine (skN 43 43 rfl w4 hp4 N43.out).mono ?_
  rintro e w5 ⟨rfl, hp5, hk5⟩
  go_wp2_with fail
  refine (skY 63 63 rfl w5 hp5 E63.out).mono ?_
  rintro e w6 ⟨rfl, hp6, hk6⟩
  go_wp2_with fail
  go_ret3
  exact ⟨rfl, hp6, ((hk4).then_ hk5).then_ hk6⟩
theorem cnt_not {T : List UInt8} {g k : Nat} (w : World) (h : PS T w g k) (n42 : ¬ T[k]? = some 42) (n43 : ¬ T[k]? = some 43) (n63 : ¬ T[k]? = some 63) (n123 : ¬ T[k]? = some 123) : Calls Try.prog 100 #[.pointer (some ⟨g, 0, none⟩)] w (PStep T w g (cntV 0 0 false) k) := by
  have N63 := Lib.hid n63
  have N42 := Lib.hid n42
  have N43 := Lib.hid n43
  have N123 := Lib.hid n123
  clear n63 n42 n43 n123
  go_enter Try.func100, Try.ntmps100
  go_wp2_with fail
  refine (skN 42 42 rfl w h N42.out).mono ?_
  rintro e w7 ⟨rfl, hp7, hk7⟩
  go_wp2_with fail
  refine (skN 43 43 rfl w7 hp7 N43.out).mono ?_
  rintro e w8 ⟨rfl, hp8, hk8⟩
  go_wp2_with fail
  refine (skN 63 63 rfl w8 hp8 N63.out).mono ?_
  rintro e w9 ⟨rfl, hp9, hk9⟩
  go_wp2_with fail
  refine (skN 123 123 rfl w9 hp9 N123.out).mono ?_
  rintro e w10 ⟨rfl, hp10, hk10⟩
  go_wp2_with fail
  go_ret3
  exact ⟨rfl, hp10, (((hk7).then_ hk8).then_ hk9).then_ hk10⟩
theorem cnt_b0 {T : List UInt8} {g k : Nat} (w : World) (h : PS T w g k) (e123 : T[k]? = some 123) (a : numP T (k + 1) = none) : Calls Try.prog 100 #[.pointer (some ⟨g, 0, none⟩)] w (PFail T w g) := by
  have N63 := Lib.hid (show ¬ T[k]? = some 63 by rw [e123]; decide)
  have N42 := Lib.hid (show ¬ T[k]? = some 42 by rw [e123]; decide)
  have N43 := Lib.hid (show ¬ T[k]? = some 43 by rw [e123]; decide)
  have E123 := Lib.hid e123
  clear e123
  have A := Lib.hid a
  clear a
  go_enter Try.func100, Try.ntmps100
  go_wp2_with fail
  refine (skN 42 42 rfl w h N42.out).mono ?_
  rintro e w11 ⟨rfl, hp11, hk11⟩
  go_wp2_with fail
  refine (skN 43 43 rfl w11 hp11 N43.out).mono ?_
  rintro e w12 ⟨rfl, hp12, hk12⟩
  go_wp2_with fail
  refine (skN 63 63 rfl w12 hp12 N63.out).mono ?_
  rintro e w13 ⟨rfl, hp13, hk13⟩
  go_wp2_with fail
  refine (skY 123 123 rfl w13 hp13 E123.out).mono ?_
  rintro e w14 ⟨rfl, hp14, hk14⟩
  go_wp2_with fail
  refine (num_no w14 hp14 A.out).mono ?_
  rintro e w15 ⟨rfl, hp15, hk15⟩
  go_wp2_with fail
  exact ⟨rfl, rfl, hp15, ((((hk11).then_ hk12).then_ hk13).then_ hk14).then_ hk15⟩
theorem cnt_b1 {T : List UInt8} {g k : Nat} (w : World) (h : PS T w g k) {lo k1 : Nat} (e123 : T[k]? = some 123) (a : numP T (k + 1) = some (lo, k1)) (b : ¬ T[k1]? = some 44) (c : T[k1]? = some 125) : Calls Try.prog 100 #[.pointer (some ⟨g, 0, none⟩)] w (PStep T w g (cntV lo lo true) (k1 + 1)) := by
  have hlo : 0 ≤ (lo : Int) := by omega
  have b1 : decide (0 ≤ (lo : Int)) = true := by simp
  have b2 : decide ((lo : Int) < (lo : Int)) = false := by simp
  have b3 : decide (lo < lo) = false := by simp
  have N63 := Lib.hid (show ¬ T[k]? = some 63 by rw [e123]; decide)
  have N42 := Lib.hid (show ¬ T[k]? = some 42 by rw [e123]; decide)
  have N43 := Lib.hid (show ¬ T[k]? = some 43 by rw [e123]; decide)
  have E123 := Lib.hid e123
  clear e123
  have A := Lib.hid a
  have B := Lib.hid b
  have C := Lib.hid c
  clear a b c
  go_enter Try.func100, Try.ntmps100
  go_wp2_with fail
  refine (skN 42 42 rfl w h N42.out).mono ?_
  rintro e w16 ⟨rfl, hp16, hk16⟩
  go_wp2_with fail
  refine (skN 43 43 rfl w16 hp16 N43.out).mono ?_
  rintro e w17 ⟨rfl, hp17, hk17⟩
  go_wp2_with fail
  refine (skN 63 63 rfl w17 hp17 N63.out).mono ?_
  rintro e w18 ⟨rfl, hp18, hk18⟩
  go_wp2_with fail
  refine (skY 123 123 rfl w18 hp18 E123.out).mono ?_
  rintro e w19 ⟨rfl, hp19, hk19⟩
  go_wp2_with fail
  refine (num_yes w19 hp19 A.out).mono ?_
  rintro e w20 ⟨rfl, hp20, hk20⟩
  go_wp2_with fail
  refine (skN 44 44 rfl w20 hp20 B.out).mono ?_
  rintro e w21 ⟨rfl, hp21, hk21⟩
  go_wp2_with fail
  refine (skY 125 125 rfl w21 hp21 C.out).mono ?_
  rintro e w22 ⟨rfl, hp22, hk22⟩
  go_wp2_with fail
  go_ret3
  exact ⟨rfl, hp22, ((((((hk16).then_ hk17).then_ hk18).then_ hk19).then_ hk20).then_ hk21).then_ hk22⟩
theorem cnt_b2 {T : List UInt8} {g k : Nat} (w : World) (h : PS T w g k) {lo k1 : Nat} (e123 : T[k]? = some 123) (a : numP T (k + 1) = some (lo, k1)) (b : ¬ T[k1]? = some 44) (c : ¬ T[k1]? = some 125) : Calls Try.prog 100 #[.pointer (some ⟨g, 0, none⟩)] w (PFail T w g) := by
  have hlo : 0 ≤ (lo : Int) := by omega
  have b1 : decide (0 ≤ (lo : Int)) = true := by simp
  have b2 : decide ((lo : Int) < (lo : Int)) = false := by simp
  have b3 : decide (lo < lo) = false := by simp
  have N63 := Lib.hid (show ¬ T[k]? = some 63 by rw [e123]; decide)
  have N42 := Lib.hid (show ¬ T[k]? = some 42 by rw [e123]; decide)
  have N43 := Lib.hid (show ¬ T[k]? = some 43 by rw [e123]; decide)
  have E123 := Lib.hid e123
  clear e123
  have A := Lib.hid a
  have B := Lib.hid b
  have C := Lib.hid c
  clear a b c
  go_enter Try.func100, Try.ntmps100
  go_wp2_with fail
  refine (skN 42 42 rfl w h N42.out).mono ?_
  rintro e w23 ⟨rfl, hp23, hk23⟩
  go_wp2_with fail
  refine (skN 43 43 rfl w23 hp23 N43.out).mono ?_
  rintro e w24 ⟨rfl, hp24, hk24⟩
  go_wp2_with fail
  refine (skN 63 63 rfl w24 hp24 N63.out).mono ?_
  rintro e w25 ⟨rfl, hp25, hk25⟩
  go_wp2_with fail
  refine (skY 123 123 rfl w25 hp25 E123.out).mono ?_
  rintro e w26 ⟨rfl, hp26, hk26⟩
  go_wp2_with fail
  refine (num_yes w26 hp26 A.out).mono ?_
  rintro e w27 ⟨rfl, hp27, hk27⟩
  go_wp2_with fail
  refine (skN 44 44 rfl w27 hp27 B.out).mono ?_
  rintro e w28 ⟨rfl, hp28, hk28⟩
  go_wp2_with fail
  refine (skN 125 125 rfl w28 hp28 C.out).mono ?_
  rintro e w29 ⟨rfl, hp29, hk29⟩
  go_wp2_with fail
  exact ⟨rfl, rfl, ⟨_, hp29⟩, ((((((hk23).then_ hk24).then_ hk25).then_ hk26).then_ hk27).then_ hk28).then_ hk29⟩
theorem cnt_c1 {T : List UInt8} {g k : Nat} (w : World) (h : PS T w g k) {lo k1 : Nat} (e123 : T[k]? = some 123) (a : numP T (k + 1) = some (lo, k1)) (b : T[k1]? = some 44) (c : T[k1 + 1]? = some 125) : Calls Try.prog 100 #[.pointer (some ⟨g, 0, none⟩)] w (PStep T w g (cntV lo (-1) true) (k1 + 2)) := by
  have hsz : (ByteArray.mk T.toArray).size = T.length := by simp [ByteArray.size]
  have hT := h.2.2
  have hl := at_lt c
  have hix : ∀ w, (Instr.index 9 (.string ⟨T.toArray⟩) (.int .i64 ((k1 : Int) + 1))).run Try.prog w = .ok (.int .u8 125) w := idxT (P := Try.prog) Try.underlying9 c
  have hle : decide ((k1 : Int) + 1 < (T.length : Int)) = true := by simp; omega
  have N63 := Lib.hid (show ¬ T[k]? = some 63 by rw [e123]; decide)
  have N42 := Lib.hid (show ¬ T[k]? = some 42 by rw [e123]; decide)
  have N43 := Lib.hid (show ¬ T[k]? = some 43 by rw [e123]; decide)
  have E123 := Lib.hid e123
  clear e123
  have A := Lib.hid a
  have B := Lib.hid b
  have C := Lib.hid c
  clear a b c
  go_enter Try.func100, Try.ntmps100
  go_wp2_with fail
  refine (skN 42 42 rfl w h N42.out).mono ?_
  rintro e w30 ⟨rfl, hp30, hk30⟩
  go_wp2_with fail
  refine (skN 43 43 rfl w30 hp30 N43.out).mono ?_
  rintro e w31 ⟨rfl, hp31, hk31⟩
  go_wp2_with fail
  refine (skN 63 63 rfl w31 hp31 N63.out).mono ?_
  rintro e w32 ⟨rfl, hp32, hk32⟩
  go_wp2_with fail
  refine (skY 123 123 rfl w32 hp32 E123.out).mono ?_
  rintro e w33 ⟨rfl, hp33, hk33⟩
  go_wp2_with fail
  refine (num_yes w33 hp33 A.out).mono ?_
  rintro e w34 ⟨rfl, hp34, hk34⟩
  go_wp2_with fail
  refine (skY 44 44 rfl w34 hp34 B.out).mono ?_
  rintro e w35 ⟨rfl, hp35, hk35⟩
  obtain ⟨c0, c1, q1⟩ := hp35.cells
  have HPQ := Lib.hid hp35
  clear hp35
  go_wp2_with fail
  go_quiet (fail)
  go_wp2_with fail
  clear c0 c1 q1
  refine (skY 125 125 rfl _ (HPQ.out.drewN _) C.out).mono ?_
  rintro e w36 ⟨rfl, hp36, hk36⟩
  go_wp2_with fail
  go_ret3
  exact ⟨rfl, hp36, (((((((hk30).then_ hk31).then_ hk32).then_ hk33).then_ hk34).then_ hk35).drewN _).then_ hk36⟩
theorem cnt_c2 {T : List UInt8} {g k : Nat} (w : World) (h : PS T w g k) {lo k1 : Nat} (e123 : T[k]? = some 123) (a : numP T (k + 1) = some (lo, k1)) (b : T[k1]? = some 44) (c : T.length ≤ k1 + 1) : Calls Try.prog 100 #[.pointer (some ⟨g, 0, none⟩)] w (PFail T w g) := by
  have hsz : (ByteArray.mk T.toArray).size = T.length := by simp [ByteArray.size]
  have hT := h.2.2
  have hle : decide ((k1 : Int) + 1 < (T.length : Int)) = false := by simp; omega
  have nn : ¬ T[k1 + 1]? = some 125 := by rw [List.getElem?_eq_none (by omega)]; exact fun e => by cases e
  have N63 := Lib.hid (show ¬ T[k]? = some 63 by rw [e123]; decide)
  have N42 := Lib.hid (show ¬ T[k]? = some 42 by rw [e123]; decide)
  have N43 := Lib.hid (show ¬ T[k]? = some 43 by rw [e123]; decide)
  have E123 := Lib.hid e123
  clear e123
  have A := Lib.hid a
  have B := Lib.hid b
  have NN := Lib.hid nn
  clear a b nn
  go_enter Try.func100, Try.ntmps100
  go_wp2_with fail
  refine (skN 42 42 rfl w h N42.out).mono ?_
  rintro e w37 ⟨rfl, hp37, hk37⟩
  go_wp2_with fail
  refine (skN 43 43 rfl w37 hp37 N43.out).mono ?_
  rintro e w38 ⟨rfl, hp38, hk38⟩
  go_wp2_with fail
  refine (skN 63 63 rfl w38 hp38 N63.out).mono ?_
  rintro e w39 ⟨rfl, hp39, hk39⟩
  go_wp2_with fail
  refine (skY 123 123 rfl w39 hp39 E123.out).mono ?_
  rintro e w40 ⟨rfl, hp40, hk40⟩
  go_wp2_with fail
  refine (num_yes w40 hp40 A.out).mono ?_
  rintro e w41 ⟨rfl, hp41, hk41⟩
  go_wp2_with fail
  refine (skY 44 44 rfl w41 hp41 B.out).mono ?_
  rintro e w42 ⟨rfl, hp42, hk42⟩
  obtain ⟨c0, c1, q1⟩ := hp42.cells
  have HPQ := Lib.hid hp42
  clear hp42
  go_wp2_with fail
  go_quiet (fail)
  go_wp2_with fail
  clear c0 c1 q1
  refine (skN 125 125 rfl _ (HPQ.out.drewN _) NN.out).mono ?_
  rintro e w43 ⟨rfl, hp43, hk43⟩
  go_wp2_with fail
  exact ⟨rfl, rfl, ⟨_, hp43⟩, (((((((hk37).then_ hk38).then_ hk39).then_ hk40).then_ hk41).then_ hk42).drewN _).then_ hk43⟩
theorem cnt_d0 {T : List UInt8} {g k : Nat} (w : World) (h : PS T w g k) {lo k1 : Nat} {x : UInt8} (e123 : T[k]? = some 123) (a : numP T (k + 1) = some (lo, k1)) (b : T[k1]? = some 44) (c : T[k1 + 1]? = some x) (hx : x ≠ 125) (d : numP T (k1 + 1) = none) : Calls Try.prog 100 #[.pointer (some ⟨g, 0, none⟩)] w (PFail T w g) := by
  have hsz : (ByteArray.mk T.toArray).size = T.length := by simp [ByteArray.size]
  have hT := h.2.2
  have hl := at_lt c
  have hix : ∀ w, (Instr.index 9 (.string ⟨T.toArray⟩) (.int .i64 ((k1 : Int) + 1))).run Try.prog w = .ok (.int .u8 x.toNat) w := idxT (P := Try.prog) Try.underlying9 c
  have hle : decide ((k1 : Int) + 1 < (T.length : Int)) = true := by simp; omega
  have x1 : ((x.toNat : Int) == 125) = false := ne_lit (c := 125) hx
  have x2 : ((x.toNat : Int) != 125) = true := by simpa using x1
  clear hx
  have N63 := Lib.hid (show ¬ T[k]? = some 63 by rw [e123]; decide)
  have N42 := Lib.hid (show ¬ T[k]? = some 42 by rw [e123]; decide)
  have N43 := Lib.hid (show ¬ T[k]? = some 43 by rw [e123]; decide)
  have E123 := Lib.hid e123
  clear e123
  have A := Lib.hid a
  have B := Lib.hid b
  have C := Lib.hid c
  have D := Lib.hid d
  clear a b c d
  go_enter Try.func100, Try.ntmps100
  go_wp2_with fail
  refine (skN 42 42 rfl w h N42.out).mono ?_
  rintro e w44 ⟨rfl, hp44, hk44⟩
  go_wp2_with fail
  refine (skN 43 43 rfl w44 hp44 N43.out).mono ?_
  rintro e w45 ⟨rfl, hp45, hk45⟩
  go_wp2_with fail
  refine (skN 63 63 rfl w45 hp45 N63.out).mono ?_
  rintro e w46 ⟨rfl, hp46, hk46⟩
  go_wp2_with fail
  refine (skY 123 123 rfl w46 hp46 E123.out).mono ?_
  rintro e w47 ⟨rfl, hp47, hk47⟩
  go_wp2_with fail
  refine (num_yes w47 hp47 A.out).mono ?_
  rintro e w48 ⟨rfl, hp48, hk48⟩
  go_wp2_with fail
  refine (skY 44 44 rfl w48 hp48 B.out).mono ?_
  rintro e w49 ⟨rfl, hp49, hk49⟩
  obtain ⟨c0, c1, q1⟩ := hp49.cells
  have HPQ := Lib.hid hp49
  clear hp49
  go_wp2_with fail
  go_quiet (fail)
  go_wp2_with fail
  clear c0 c1 q1
  refine (num_no _ (HPQ.out.drewN _) D.out).mono ?_
  rintro e w50 ⟨rfl, hp50, hk50⟩
  go_wp2_with fail
  exact ⟨rfl, rfl, hp50, (((((((hk44).then_ hk45).then_ hk46).then_ hk47).then_ hk48).then_ hk49).drewN _).then_ hk50⟩
theorem cnt_d1 {T : List UInt8} {g k : Nat} (w : World) (h : PS T w g k) {lo k1 : Nat} {x : UInt8} (e123 : T[k]? = some 123) (a : numP T (k + 1) = some (lo, k1)) (b : T[k1]? = some 44) (c : T[k1 + 1]? = some x) (hx : x ≠ 125) {hi k2 : Nat} (d : numP T (k1 + 1) = some (hi, k2)) (f : ¬ T[k2]? = some 125) : Calls Try.prog 100 #[.pointer (some ⟨g, 0, none⟩)] w (PFail T w g) := by
  have hsz : (ByteArray.mk T.toArray).size = T.length := by simp [ByteArray.size]
  have hT := h.2.2
  have hl := at_lt c
  have hix : ∀ w, (Instr.index 9 (.string ⟨T.toArray⟩) (.int .i64 ((k1 : Int) + 1))).run Try.prog w = .ok (.int .u8 x.toNat) w := idxT (P := Try.prog) Try.underlying9 c
  have hle : decide ((k1 : Int) + 1 < (T.length : Int)) = true := by simp; omega
  have x1 : ((x.toNat : Int) == 125) = false := ne_lit (c := 125) hx
  have x2 : ((x.toNat : Int) != 125) = true := by simpa using x1
  clear hx
  have N63 := Lib.hid (show ¬ T[k]? = some 63 by rw [e123]; decide)
  have N42 := Lib.hid (show ¬ T[k]? = some 42 by rw [e123]; decide)
  have N43 := Lib.hid (show ¬ T[k]? = some 43 by rw [e123]; decide)
  have E123 := Lib.hid e123
  clear e123
  have A := Lib.hid a
  have B := Lib.hid b
  have C := Lib.hid c
  have D := Lib.hid d
  have F := Lib.hid f
  clear a b c d f
  go_enter Try.func100, Try.ntmps100
  go_wp2_with fail
  refine (skN 42 42 rfl w h N42.out).mono ?_
  rintro e w51 ⟨rfl, hp51, hk51⟩
  go_wp2_with fail
  refine (skN 43 43 rfl w51 hp51 N43.out).mono ?_
  rintro e w52 ⟨rfl, hp52, hk52⟩
  go_wp2_with fail
  refine (skN 63 63 rfl w52 hp52 N63.out).mono ?_
  rintro e w53 ⟨rfl, hp53, hk53⟩
  go_wp2_with fail
  refine (skY 123 123 rfl w53 hp53 E123.out).mono ?_
  rintro e w54 ⟨rfl, hp54, hk54⟩
  go_wp2_with fail
  refine (num_yes w54 hp54 A.out).mono ?_
  rintro e w55 ⟨rfl, hp55, hk55⟩
  go_wp2_with fail
  refine (skY 44 44 rfl w55 hp55 B.out).mono ?_
  rintro e w56 ⟨rfl, hp56, hk56⟩
  obtain ⟨c0, c1, q1⟩ := hp56.cells
  have HPQ := Lib.hid hp56
  clear hp56
  go_wp2_with fail
  go_quiet (fail)
  go_wp2_with fail
  clear c0 c1 q1
  refine (num_yes _ (HPQ.out.drewN _) D.out).mono ?_
  rintro e w57 ⟨rfl, hp57, hk57⟩
  go_wp2_with fail
  refine (skN 125 125 rfl w57 hp57 F.out).mono ?_
  rintro e w58 ⟨rfl, hp58, hk58⟩
  go_wp2_with fail
  exact ⟨rfl, rfl, ⟨_, hp58⟩, ((((((((hk51).then_ hk52).then_ hk53).then_ hk54).then_ hk55).then_ hk56).drewN _).then_ hk57).then_ hk58⟩
theorem cnt_d2 {T : List UInt8} {g k : Nat} (w : World) (h : PS T w g k) {lo k1 : Nat} {x : UInt8} (e123 : T[k]? = some 123) (a : numP T (k + 1) = some (lo, k1)) (b : T[k1]? = some 44) (c : T[k1 + 1]? = some x) (hx : x ≠ 125) {hi k2 : Nat} (d : numP T (k1 + 1) = some (hi, k2)) (f : T[k2]? = some 125) (q : hi < lo) : Calls Try.prog 100 #[.pointer (some ⟨g, 0, none⟩)] w (PFail T w g) := by
  have hsz : (ByteArray.mk T.toArray).size = T.length := by simp [ByteArray.size]
  have hT := h.2.2
  have hl := at_lt c
  have hix : ∀ w, (Instr.index 9 (.string ⟨T.toArray⟩) (.int .i64 ((k1 : Int) + 1))).run Try.prog w = .ok (.int .u8 x.toNat) w := idxT (P := Try.prog) Try.underlying9 c
  have hle : decide ((k1 : Int) + 1 < (T.length : Int)) = true := by simp; omega
  have x1 : ((x.toNat : Int) == 125) = false := ne_lit (c := 125) hx
  have x2 : ((x.toNat : Int) != 125) = true := by simpa using x1
  clear hx
  have b1 : decide (0 ≤ (hi : Int)) = true := by simp
  have b2 : decide (hi < lo) = true := by simp; omega
  clear q
  have N63 := Lib.hid (show ¬ T[k]? = some 63 by rw [e123]; decide)
  have N42 := Lib.hid (show ¬ T[k]? = some 42 by rw [e123]; decide)
  have N43 := Lib.hid (show ¬ T[k]? = some 43 by rw [e123]; decide)
  have E123 := Lib.hid e123
  clear e123
  have A := Lib.hid a
  have B := Lib.hid b
  have C := Lib.hid c
  have D := Lib.hid d
  have F := Lib.hid f
  clear a b c d f
  go_enter Try.func100, Try.ntmps100
  go_wp2_with fail
  refine (skN 42 42 rfl w h N42.out).mono ?_
  rintro e w59 ⟨rfl, hp59, hk59⟩
  go_wp2_with fail
  refine (skN 43 43 rfl w59 hp59 N43.out).mono ?_
  rintro e w60 ⟨rfl, hp60, hk60⟩
  go_wp2_with fail
  refine (skN 63 63 rfl w60 hp60 N63.out).mono ?_
  rintro e w61 ⟨rfl, hp61, hk61⟩
  go_wp2_with fail
  refine (skY 123 123 rfl w61 hp61 E123.out).mono ?_
  rintro e w62 ⟨rfl, hp62, hk62⟩
  go_wp2_with fail
  refine (num_yes w62 hp62 A.out).mono ?_
  rintro e w63 ⟨rfl, hp63, hk63⟩
  go_wp2_with fail
  refine (skY 44 44 rfl w63 hp63 B.out).mono ?_
  rintro e w64 ⟨rfl, hp64, hk64⟩
  obtain ⟨c0, c1, q1⟩ := hp64.cells
  have HPQ := Lib.hid hp64
  clear hp64
  go_wp2_with fail
  go_quiet (fail)
  go_wp2_with fail
  clear c0 c1 q1
  refine (num_yes _ (HPQ.out.drewN _) D.out).mono ?_
  rintro e w65 ⟨rfl, hp65, hk65⟩
  go_wp2_with fail
  refine (skY 125 125 rfl w65 hp65 F.out).mono ?_
  rintro e w66 ⟨rfl, hp66, hk66⟩
  go_wp2_with fail
  exact ⟨rfl, rfl, ⟨_, hp66⟩, ((((((((hk59).then_ hk60).then_ hk61).then_ hk62).then_ hk63).then_ hk64).drewN _).then_ hk65).then_ hk66⟩
theorem cnt_d3 {T : List UInt8} {g k : Nat} (w : World) (h : PS T w g k) {lo k1 : Nat} {x : UInt8} (e123 : T[k]? = some 123) (a : numP T (k + 1) = some (lo, k1)) (b : T[k1]? = some 44) (c : T[k1 + 1]? = some x) (hx : x ≠ 125) {hi k2 : Nat} (d : numP T (k1 + 1) = some (hi, k2)) (f : T[k2]? = some 125) (q : lo ≤ hi) : Calls Try.prog 100 #[.pointer (some ⟨g, 0, none⟩)] w (PStep T w g (cntV lo hi true) (k2 + 1)) := by
  have hsz : (ByteArray.mk T.toArray).size = T.length := by simp [ByteArray.size]
  have hT := h.2.2
  have hl := at_lt c
  have hix : ∀ w, (Instr.index 9 (.string ⟨T.toArray⟩) (.int .i64 ((k1 : Int) + 1))).run Try.prog w = .ok (.int .u8 x.toNat) w := idxT (P := Try.prog) Try.underlying9 c
  have hle : decide ((k1 : Int) + 1 < (T.length : Int)) = true := by simp; omega
  have x1 : ((x.toNat : Int) == 125) = false := ne_lit (c := 125) hx
  have x2 : ((x.toNat : Int) != 125) = true := by simpa using x1
  clear hx
  have b1 : decide (0 ≤ (hi : Int)) = true := by simp
  have b2 : decide (hi < lo) = false := by simp; omega
  clear q
  have N63 := Lib.hid (show ¬ T[k]? = some 63 by rw [e123]; decide)
  have N42 := Lib.hid (show ¬ T[k]? = some 42 by rw [e123]; decide)
  have N43 := Lib.hid (show ¬ T[k]? = some 43 by rw [e123]; decide)
  have E123 := Lib.hid e123
  clear e123
  have A := Lib.hid a
  have B := Lib.hid b
  have C := Lib.hid c
  have D := Lib.hid d
  have F := Lib.hid f
  clear a b c d f
  go_enter Try.func100, Try.ntmps100
  go_wp2_with fail
  refine (skN 42 42 rfl w h N42.out).mono ?_
  rintro e w67 ⟨rfl, hp67, hk67⟩
  go_wp2_with fail
  refine (skN 43 43 rfl w67 hp67 N43.out).mono ?_
  rintro e w68 ⟨rfl, hp68, hk68⟩
  go_wp2_with fail
  refine (skN 63 63 rfl w68 hp68 N63.out).mono ?_
  rintro e w69 ⟨rfl, hp69, hk69⟩
  go_wp2_with fail
  refine (skY 123 123 rfl w69 hp69 E123.out).mono ?_
  rintro e w70 ⟨rfl, hp70, hk70⟩
  go_wp2_with fail
  refine (num_yes w70 hp70 A.out).mono ?_
  rintro e w71 ⟨rfl, hp71, hk71⟩
  go_wp2_with fail
  refine (skY 44 44 rfl w71 hp71 B.out).mono ?_
  rintro e w72 ⟨rfl, hp72, hk72⟩
  obtain ⟨c0, c1, q1⟩ := hp72.cells
  have HPQ := Lib.hid hp72
  clear hp72
  go_wp2_with fail
  go_quiet (fail)
  go_wp2_with fail
  clear c0 c1 q1
  refine (num_yes _ (HPQ.out.drewN _) D.out).mono ?_
  rintro e w73 ⟨rfl, hp73, hk73⟩
  go_wp2_with fail
  refine (skY 125 125 rfl w73 hp73 F.out).mono ?_
  rintro e w74 ⟨rfl, hp74, hk74⟩
  go_wp2_with fail
  go_ret3
  exact ⟨rfl, hp74, ((((((((hk67).then_ hk68).then_ hk69).then_ hk70).then_ hk71).then_ hk72).drewN _).then_ hk73).then_ hk74⟩
theorem counter_any {T : List UInt8} {g k : Nat} (w : World) (h : PS T w g k) : Calls Try.prog 100 #[.pointer (some ⟨g, 0, none⟩)] w (PRes T w g (cV (cntP T k))) := by
  unfold cntP
  by_cases e42 : T[k]? = some 42
  · rw [if_pos e42]; exact cnt_star w h e42
  rw [if_neg e42]
  by_cases e43 : T[k]? = some 43
  · rw [if_pos e43]; exact cnt_plus w h e42 e43
  rw [if_neg e43]
  by_cases e63 : T[k]? = some 63
  · rw [if_pos e63]; exact cnt_opt w h e42 e43 e63
  rw [if_neg e63]
  by_cases e123 : T[k]? = some 123
  · rw [if_pos e123]
    rcases a : numP T (k + 1) with _ | ⟨lo, k1⟩
    · exact cnt_b0 w h e123 a
    simp only
    by_cases b : T[k1]? = some 44
    · rw [if_pos b]
      have hb := at_lt b
      by_cases hc : k1 + 1 < T.length ∧ T[k1 + 1]? ≠ some 125
      · rw [if_pos hc]
        obtain ⟨x, c⟩ : ∃ x, T[k1 + 1]? = some x := ⟨_, List.getElem?_eq_getElem hc.1⟩
        have hx : x ≠ 125 := fun e => hc.2 (by rw [c, e])
        rcases d : numP T (k1 + 1) with _ | ⟨hi, k2⟩
        · exact cnt_d0 w h e123 a b c hx d
        simp only
        by_cases f : T[k2]? = some 125
        · by_cases q : lo ≤ hi
          · rw [if_pos ⟨f, q⟩]; exact cnt_d3 w h e123 a b c hx d f q
          · rw [if_neg (fun e => q e.2)]; exact cnt_d2 w h e123 a b c hx d f (by omega)
        · rw [if_neg (fun e => f e.1)]; exact cnt_d1 w h e123 a b c hx d f
      · rw [if_neg hc]
        by_cases c : T[k1 + 1]? = some 125
        · rw [if_pos c]; exact cnt_c1 w h e123 a b c
        · rw [if_neg c]
          refine cnt_c2 w h e123 a b ?_
          rcases Nat.lt_or_ge (k1 + 1) T.length with h1 | h1
          · exact absurd ⟨h1, c⟩ hc
          · exact h1
    · rw [if_neg b]
      by_cases c : T[k1]? = some 125
      · rw [if_pos c]; exact cnt_b1 w h e123 a b c
      · rw [if_neg c]; exact cnt_b2 w h e123 a b c
  · rw [if_neg e123]; exact cnt_not w h e42 e43 e63 e123
end Go.Proofs.Ytniefnjcimempaa
