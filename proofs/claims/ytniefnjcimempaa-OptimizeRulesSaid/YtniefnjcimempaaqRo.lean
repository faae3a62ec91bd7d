/- Blocks that hold a regular expression; the walks of regex.one, dot. The walk of the parser's number. -/
import Derived.Test.YtniefnjcimempaaqRf
import Derived.Test.YtniefnjcimempaaqShelf
import Derived.Test.YtniefnjcimempaaqRc
import Derived.Deep.LoopGhost
namespace Go.Proofs.Ytniefnjcimempaa
open Go.RowKit
/-- Block g holds eight cells of a regular expression. -/
def R8 (w : World) (g : Nat) (v0 v1 v2 v3 v4 v5 v6 v7 : Value) : Prop := Blk w g 108 #[v0, v1, v2, v3, v4, v5, v6, v7]
section
variable {w : World} {g : Nat} {v0 v1 v2 v3 v4 v5 v6 v7 : Value}
theorem R8.cells (h : R8 w g v0 v1 v2 v3 v4 v5 v6 v7) : ((w.cell? ⟨g, 0, none⟩ = some v0 ∧ w.cell? ⟨g, 1, none⟩ = some v1) ∧ (w.cell? ⟨g, 2, none⟩ = some v2 ∧ w.cell? ⟨g, 3, none⟩ = some v3)) ∧ ((w.cell? ⟨g, 4, none⟩ = some v4 ∧ w.cell? ⟨g, 5, none⟩ = some v5) ∧ (w.cell? ⟨g, 6, none⟩ = some v6 ∧ w.cell? ⟨g, 7, none⟩ = some v7)) :=
  ⟨⟨⟨Blk.cell h 0, Blk.cell h 1⟩, Blk.cell h 2, Blk.cell h 3⟩, ⟨Blk.cell h 4, Blk.cell h 5⟩, Blk.cell h 6, Blk.cell h 7⟩
theorem R8.free (h : R8 w g v0 v1 v2 v3 v4 v5 v6 v7) : ((w.frozen? ⟨g, 0, none⟩ = false ∧ w.frozen? ⟨g, 1, none⟩ = false) ∧ (w.frozen? ⟨g, 2, none⟩ = false ∧ w.frozen? ⟨g, 3, none⟩ = false)) ∧ ((w.frozen? ⟨g, 4, none⟩ = false ∧ w.frozen? ⟨g, 5, none⟩ = false) ∧ (w.frozen? ⟨g, 6, none⟩ = false ∧ w.frozen? ⟨g, 7, none⟩ = false)) :=
  ⟨⟨⟨Blk.frozen h 0, Blk.frozen h 1⟩, Blk.frozen h 2, Blk.frozen h 3⟩, ⟨Blk.frozen h 4, Blk.frozen h 5⟩, Blk.frozen h 6, Blk.frozen h 7⟩
/-- Eight stores. -/
def set8 (w : World) (g : Nat) (u0 u1 u2 u3 u4 u5 u6 u7 : Value) : World :=
  (((((((w.setCell ⟨g, 0, none⟩ u0).setCell ⟨g, 1, none⟩ u1).setCell ⟨g, 2, none⟩ u2).setCell ⟨g, 3, none⟩ u3).setCell ⟨g, 4, none⟩ u4).setCell ⟨g, 5, none⟩ u5).setCell ⟨g, 6, none⟩ u6).setCell ⟨g, 7, none⟩ u7
theorem R8.s0 (h : R8 w g v0 v1 v2 v3 v4 v5 v6 v7) (u : Value) : R8 (w.setCell ⟨g, 0, none⟩ u) g u v1 v2 v3 v4 v5 v6 v7 := Blk.set_ h 0 u
theorem R8.s1 (h : R8 w g v0 v1 v2 v3 v4 v5 v6 v7) (u : Value) : R8 (w.setCell ⟨g, 1, none⟩ u) g v0 u v2 v3 v4 v5 v6 v7 := Blk.set_ h 1 u
theorem R8.s2 (h : R8 w g v0 v1 v2 v3 v4 v5 v6 v7) (u : Value) : R8 (w.setCell ⟨g, 2, none⟩ u) g v0 v1 u v3 v4 v5 v6 v7 := Blk.set_ h 2 u
theorem R8.s3 (h : R8 w g v0 v1 v2 v3 v4 v5 v6 v7) (u : Value) : R8 (w.setCell ⟨g, 3, none⟩ u) g v0 v1 v2 u v4 v5 v6 v7 := Blk.set_ h 3 u
theorem R8.s4 (h : R8 w g v0 v1 v2 v3 v4 v5 v6 v7) (u : Value) : R8 (w.setCell ⟨g, 4, none⟩ u) g v0 v1 v2 v3 u v5 v6 v7 := Blk.set_ h 4 u
theorem R8.s5 (h : R8 w g v0 v1 v2 v3 v4 v5 v6 v7) (u : Value) : R8 (w.setCell ⟨g, 5, none⟩ u) g v0 v1 v2 v3 v4 u v6 v7 := Blk.set_ h 5 u
theorem R8.s6 (h : R8 w g v0 v1 v2 v3 v4 v5 v6 v7) (u : Value) : R8 (w.setCell ⟨g, 6, none⟩ u) g v0 v1 v2 v3 v4 v5 u v7 := Blk.set_ h 6 u
theorem R8.s7 (h : R8 w g v0 v1 v2 v3 v4 v5 v6 v7) (u : Value) : R8 (w.setCell ⟨g, 7, none⟩ u) g v0 v1 v2 v3 v4 v5 v6 u := Blk.set_ h 7 u
theorem R8.all (h : R8 w g v0 v1 v2 v3 v4 v5 v6 v7) (u0 u1 u2 u3 u4 u5 u6 u7 : Value) : R8 (set8 w g u0 u1 u2 u3 u4 u5 u6 u7) g u0 u1 u2 u3 u4 u5 u6 u7 :=
  (((((((h.s0 u0).s1 u1).s2 u2).s3 u3).s4 u4).s5 u5).s6 u6).s7 u7
theorem R8.below {B : Nat} {w' : World} (h : R8 w g v0 v1 v2 v3 v4 v5 v6 v7) (hb : Below B w w') (hg : g < B) : R8 w' g v0 v1 v2 v3 v4 v5 v6 v7 := Blk.below h hb hg
theorem R8.kept {F : Nat → Prop} {w' : World} (h : R8 w g v0 v1 v2 v3 v4 v5 v6 v7) (hb : Kept F w w') (hg : ¬ F g) : R8 w' g v0 v1 v2 v3 v4 v5 v6 v7 := Blk.kept h hb hg
theorem R8.alloc (h : R8 w g v0 v1 v2 v3 v4 v5 v6 v7) (o : Obj) : R8 (w.alloc o) g v0 v1 v2 v3 v4 v5 v6 v7 := Blk.alloc h o
theorem R8.lt (h : R8 w g v0 v1 v2 v3 v4 v5 v6 v7) : g < w.heap.size := Blk.lt h
theorem LBlk.below {B : Nat} {w' : World} {S : LS} (h : LBlk w g S) (hb : Below B w w') (hg : g < B) : LBlk w' g S := Blk.below h hb hg
theorem R8.mk0 (w : World) (g : Nat) (hg : g = w.heap.size) : R8 (w.alloc (.cells #[.int .i64 0, .int .u64 0, .int .u64 0, .int .u64 0, .int .u64 0, .int .i64 0, .int .i64 0, .slice none 0 0] 108)) g (.int .i64 0) (.int .u64 0) (.int .u64 0) (.int .u64 0) (.int .u64 0) (.int .i64 0) (.int .i64 0) (.slice none 0 0) := by subst hg; exact Blk.new _ _ _
theorem below_set8 {B : Nat} {w' : World} (h : Below B w w') (hg : B ≤ g) (u0 u1 u2 u3 u4 u5 u6 u7 : Value) : Below B w (set8 w' g u0 u1 u2 u3 u4 u5 u6 u7) :=
  (((((((h.setCell hg u0).setCell hg u1).setCell hg u2).setCell hg u3).setCell hg u4).setCell hg u5).setCell hg u6).setCell hg u7
theorem kept_set8 {F : Nat → Prop} {w' : World} (h : Kept F w w') (hg : F g ∨ w.heap.size ≤ g) (u0 u1 u2 u3 u4 u5 u6 u7 : Value) : Kept F w (set8 w' g u0 u1 u2 u3 u4 u5 u6 u7) :=
  (((((((h.setCell (p := ⟨g, 0, none⟩) hg u0).setCell (p := ⟨g, 1, none⟩) hg u1).setCell (p := ⟨g, 2, none⟩) hg u2).setCell (p := ⟨g, 3, none⟩) hg u3).setCell (p := ⟨g, 4, none⟩) hg u4).setCell (p := ⟨g, 5, none⟩) hg u5).setCell (p := ⟨g, 6, none⟩) hg u6).setCell (p := ⟨g, 7, none⟩) hg u7
theorem Blk.set8 {g' : Nat} {t : TypeId} {cs : Array Value} (h : Blk w g' t cs) (hg : g' ≠ g) (u0 u1 u2 u3 u4 u5 u6 u7 : Value) : Blk (set8 w g u0 u1 u2 u3 u4 u5 u6 u7) g' t cs :=
  (((((((h.far hg u0).far hg u1).far hg u2).far hg u3).far hg u4).far hg u5).far hg u6).far hg u7
end
/-- A set by value. -/
def setV (S : LS) : Value := .agg #[.int .i64 2, .int .u64 (wd S 0), .int .u64 (wd S 1), .int .u64 (wd S 2), .int .u64 (wd S 3), .int .i64 0, .int .i64 0, .slice none 0 0]
def OneEnd (w : World) (S : LS) (e : Ending) (w' : World) : Prop := e = .returned (setV S) ∧ Below w.heap.size w w'
set_option maxHeartbeats 1000000 in
theorem one_any (b : UInt8) (w : World) : Calls Try.prog 111 #[.int .u8 b.toNat] w (OneEnd w (oneS b.toNat)) := by
  go_enter Try.func111, Try.ntmps111
  go_wp2_with fail
  have hb0 : Below w.heap.size w ((w.alloc (.cells #[.int .i64 0, .int .u64 0, .int .u64 0, .int .u64 0, .int .u64 0, .int .i64 0, .int .i64 0, .slice none 0 0] 108)).alloc (.cells #[.int .u8 b.toNat] 5)) := ((Below.refl _ _).alloc (Nat.le_refl _) _).alloc (by simp) _
  have hR0 := (R8.mk0 w w.heap.size rfl).alloc (.cells #[.int .u8 b.toNat] 5)
  refine (of_any b (w.heap.size + 1) _ (by simp) (by simp)).mono ?_
  rintro e w1 ⟨he, hb1⟩
  rw [lsV_eq] at he
  subst he
  have hR1 := hR0.below hb1 (by simp; omega)
  have hb : Below w.heap.size w w1 := hb0.trans (hb1.mono (by simp; omega))
  obtain ⟨⟨⟨c0, c1⟩, c2, c3⟩, ⟨c4, c5⟩, c6, c7⟩ := hR1.cells
  obtain ⟨⟨⟨f0, f1⟩, f2, f3⟩, ⟨f4, f5⟩, f6, f7⟩ := hR1.free
  have HF := Lib.hid (hR1.all (.int .i64 2) (.int .u64 (wd (oneS b.toNat) 0)) (.int .u64 (wd (oneS b.toNat) 1)) (.int .u64 (wd (oneS b.toNat) 2)) (.int .u64 (wd (oneS b.toNat) 3)) (.int .i64 0) (.int .i64 0) (.slice none 0 0))
  have HB := Lib.hid (below_set8 hb (Nat.le_refl w.heap.size) (.int .i64 2) (.int .u64 (wd (oneS b.toNat) 0)) (.int .u64 (wd (oneS b.toNat) 1)) (.int .u64 (wd (oneS b.toNat) 2)) (.int .u64 (wd (oneS b.toNat) 3)) (.int .i64 0) (.int .i64 0) (.slice none 0 0))
  clear hR0 hR1 hb hb0 hb1
  go_wp2_with fail
  obtain ⟨⟨⟨d0, d1⟩, d2, d3⟩, ⟨d4, d5⟩, d6, d7⟩ := HF.out.cells
  unfold set8 at d0 d1 d2 d3 d4 d5 d6 d7
  refine bodyPost_ret (v := setV (oneS b.toNat)) (by simp [results, Try.results111, go_sem, d0, d1, d2, d3, d4, d5, d6, d7, setV]) rfl ?_
  exact ⟨rfl, HB.out⟩
theorem of_ten (g : Nat) (w : World) (hg : g < w.heap.size) (hc : w.cell? ⟨g, 0, none⟩ = some (.int .u8 10)) : Calls Try.prog 120 #[.slice (some ⟨g, 0, none⟩) 1 1] w (LRes w (oneS 10)) := of_any 10 g w hg hc
set_option maxHeartbeats 1000000 in
theorem dot_any (w : World) : Calls Try.prog 113 #[] w (LRes w dotS) := by
  go_enter Try.func113, Try.ntmps113
  go_wp2_with fail
  have hb0 : Below w.heap.size w ((w.alloc (.cells #[.int .u64 0, .int .u64 0, .int .u64 0, .int .u64 0] 105)).alloc (.cells #[.int .u8 10] 5)) := ((Below.refl _ _).alloc (Nat.le_refl _) _).alloc (by simp) _
  have hR0 := (LBlk.mk0 w w.heap.size rfl).alloc (.cells #[.int .u8 10] 5)
  refine (of_ten (w.heap.size + 1) _ (by simp) (by simp)).mono ?_
  rintro e w1 ⟨he, hb1⟩
  subst he
  have hR1 := hR0.below hb1 (by simp; omega)
  have hb := hb0.trans (hb1.mono (by simp; omega))
  clear hR0 hb0 hb1
  go_wp2_with fail
  refine (not_any (oneS 10) w1).mono ?_
  rintro e w2 ⟨he, hb2⟩
  have hR2 := hR1.below hb2 (Blk.lt hR1)
  have hb' := hb.trans (hb2.mono hb.size)
  rw [lsV_eq] at he
  subst he
  clear hR1 hb hb2
  obtain ⟨⟨c0, c1⟩, c2, c3⟩ := hR2.cells
  obtain ⟨⟨f0, f1⟩, f2, f3⟩ := hR2.free
  have HZ := Lib.hid (hR2.all (notS (oneS 10)))
  have HZB := Lib.hid (below_all hb' (Nat.le_refl w.heap.size) (.int .u64 (wd (notS (oneS 10)) 0)) (.int .u64 (wd (notS (oneS 10)) 1)) (.int .u64 (wd (notS (oneS 10)) 2)) (.int .u64 (wd (notS (oneS 10)) 3)))
  clear hR2 hb'
  go_wp2_with fail
  obtain ⟨⟨d0, d1⟩, d2, d3⟩ := HZ.out.cells
  refine bodyPost_ret (v := lsV dotS) (by simp [results, Try.results113, go_sem, d0, d1, d2, d3, lsV, lsC, wds, dotS]) rfl ?_
  exact ⟨rfl, HZB.out⟩
end Go.Proofs.Ytniefnjcimempaa
namespace Go.Proofs.Ytniefnjcimempaa
open Go.RowKit
def nV (r : Option (Nat × Nat)) : Option (Value × Nat) := r.map fun p => (.int .i64 p.1, p.2)
theorem numP_eq (T : List UInt8) (k : Nat) : numP T k = match numL T (T.length + 1) k 0 with
  | none => none
  | some (n, e) => if e = k ∨ (T[k]? = some 48 ∧ k + 1 < e) then none else some (n, e) := rfl
def NumRel (T : List UInt8) (w : World) (g k0 : Nat) (R : Option (Nat × Nat)) (f : Nat) (v : Value) (wr : World) : Prop :=
  ∃ k n : Nat, v = .int .i64 n ∧ PS T wr g k ∧ k0 ≤ k ∧ n ≤ 64 ∧ T.length - k < f ∧ Hid (numL T f k n = R) ∧ Kept (isG g) w wr
set_option maxHeartbeats 4000000 in
theorem number_any {T : List UInt8} {g k0 : Nat} (w : World) (h : PS T w g k0) : Calls Try.prog 116 #[.pointer (some ⟨g, 0, none⟩)] w (PRes T w g (nV (numP T k0))) := by
  obtain ⟨R, hR⟩ : ∃ R, R = numL T (T.length + 1) k0 0 := ⟨_, rfl⟩
  obtain ⟨Z, hZ⟩ : ∃ Z, Z = numP T k0 := ⟨_, rfl⟩
  rw [← hZ]
  have HZ := Lib.hid hZ
  have HR := Lib.hid hR
  have H0 := Lib.hid h
  obtain ⟨c0, c1, q1⟩ := h.cells
  have hsz : (ByteArray.mk T.toArray).size = T.length := by simp [ByteArray.size]
  have hT := h.2.2
  have hk0 := h.2.1
  clear hR hZ h
  go_enter Try.func116, Try.ntmps116
  go_wp2_with fail
  go_loopg [4] (T.length + 1) (fun f v wr => NumRel T w g k0 R f v wr)
  case atStart => exact ⟨k0, 0, rfl, H0.out, by omega, by omega, by omega, HR.out.symm, Kept.refl _ _⟩
  case round =>
    clear c0 c1 q1
    obtain ⟨k, n, rfl, hp, h1, h2, h3, hP, hK⟩ := hrel
    obtain ⟨f, rfl⟩ : ∃ f, gk = f + 1 := ⟨gk - 1, by omega⟩
    obtain ⟨c0, c1, q1⟩ := hp.cells
    have H := Lib.hid hp
    have HK := Lib.hid hK
    have hP2 := hP.out
    have hke := hp.2.1
    clear hp hK hP
    rcases hb : T[k]? with _ | b
    · have hle : decide (k < T.length) = false := by have := List.getElem?_eq_none_iff.1 hb; simp; omega
      rw [numL, hb] at hP2
      have hR0 : some (n, k) = numL T (T.length + 1) k0 0 := hP2.trans HR.out
      clear hb hP2
      by_cases h0 : k = k0
      · subst h0
        have hz : Z = none := by rw [HZ.out, numP_eq, ← hR0]; exact if_pos (.inl rfl)
        subst hz
        have t1 : ((k : Int) == (k : Int)) = true := by simp
        go_wp2_with fail
        go_quiet (fail)
        go_wp2_with fail
        exact ⟨rfl, rfl, ⟨_, H.out.drewN _⟩, HK.out.drewN _⟩
      · have t1 : ((k : Int) == (k0 : Int)) = false := by simp; omega
        have hl0 : k0 < T.length := by have := H.out.2.1; omega
        obtain ⟨c, hc⟩ : ∃ c, T[k0]? = some c := ⟨T[k0], List.getElem?_eq_getElem hl0⟩
        have hixc := idxT (P := Try.prog) Try.underlying9 hc
        by_cases h48 : c = 48
        · subst h48
          rw [show ((48 : UInt8).toNat : Int) = 48 from rfl] at hixc
          by_cases hk1 : k0 + 1 < k
          · have t2 : decide ((k0 : Int) + 1 < (k : Int)) = true := by simp; omega
            have hz : Z = none := by rw [HZ.out, numP_eq, ← hR0]; exact if_pos (.inr ⟨hc, hk1⟩)
            subst hz
            have HC := Lib.hid hc
            clear hc hR0
            go_wp2_with fail
            go_quiet (fail)
            go_wp2_with fail
            exact ⟨rfl, rfl, ⟨_, H.out.drewN _⟩, HK.out.drewN _⟩
          · have t2 : decide ((k0 : Int) + 1 < (k : Int)) = false := by simp; omega
            have hz : Z = some (n, k) := by rw [HZ.out, numP_eq, ← hR0]; exact if_neg (by rintro (h | h); exact h0 h; exact hk1 h.2)
            subst hz
            have HC := Lib.hid hc
            clear hc hR0
            go_wp2_with fail
            go_quiet (fail)
            go_wp2_with fail
            go_ret
            exact ⟨rfl, H.out.drewN _, HK.out.drewN _⟩
        · have t2 : ((c.toNat : Int) == 48) = false := ne_lit (c := 48) h48
          have hz : Z = some (n, k) := by rw [HZ.out, numP_eq, ← hR0]; exact if_neg (by rintro (h | h); exact h0 h; rw [hc] at h; injection h.1 with h; exact h48 h)
          subst hz
          have HC := Lib.hid hc
          have H48 := Lib.hid h48
          clear hc hR0 h48
          go_wp2_with fail
          go_quiet (fail)
          go_wp2_with fail
          go_ret
          exact ⟨rfl, H.out.drewN _, HK.out.drewN _⟩
    · have hl := at_lt hb
      have hle : decide ((k : Int) < (T.length : Int)) = true := by simp; omega
      have hix := idxT (P := Try.prog) Try.underlying9 hb
      rw [numL_step hb] at hP2
      obtain ⟨hx0, hx1⟩ := u8b b
      by_cases hd : 48 ≤ b ∧ b ≤ 57
      · rw [if_pos hd] at hP2
        have hd1 : 48 ≤ (b.toNat : Int) ∧ (b.toNat : Int) ≤ 57 := by
          have e1 := UInt8.le_iff_toNat_le.1 hd.1
          have e2 := UInt8.le_iff_toNat_le.1 hd.2
          rw [show (48 : UInt8).toNat = 48 from rfl] at e1
          rw [show (57 : UInt8).toNat = 57 from rfl] at e2
          omega
        obtain ⟨hd1, hd2⟩ := hd1
        have g1 : decide (48 ≤ (b.toNat : Int)) = true := by simp; omega
        have g2 : decide ((b.toNat : Int) ≤ 57) = true := by simp; omega
        have HB := Lib.hid hb
        clear hd hb
        by_cases h64 : 64 < n * 10 + (b.toNat - 48)
        · rw [if_pos h64] at hP2
          have hz : Z = none := by rw [HZ.out, numP_eq, ← HR.out, ← hP2]
          subst hz
          have g3 : decide (64 < (n : Int) * 10 + ((b.toNat : Int) - 48)) = true := by simp; omega
          clear hP2
          go_wp2_with fail
          go_quiet (fail)
          go_wp2_with fail
          refine (next_some _ (H.out.drewN _) HB.out).mono ?_
          rintro e w1 ⟨rfl, hp1, hk1⟩
          go_wp2_with fail
          exact ⟨rfl, rfl, ⟨_, hp1⟩, (HK.out.drewN _).then_ hk1⟩
        · rw [if_neg h64] at hP2
          have HP := Lib.hid hP2
          have g3 : decide (64 < (n : Int) * 10 + ((b.toNat : Int) - 48)) = false := by simp; omega
          clear hP2
          go_wp2_with fail
          go_quiet (fail)
          go_wp2_with fail
          refine (next_some _ (H.out.drewN _) HB.out).mono ?_
          rintro e w1 ⟨rfl, hp1, hk1⟩
          go_wp2_with fail
          go_roundg f
          case measure => omega
          case rel => exact ⟨k + 1, n * 10 + (b.toNat - 48), by rw [show ((n * 10 + (b.toNat - 48) : Nat) : Int) = (n : Int) * 10 + ((b.toNat : Int) - 48) by omega], hp1, by omega, by omega, by omega, HP, (HK.out.drewN _).then_ hk1⟩
      · rw [if_neg hd] at hP2
        have hR0 : some (n, k) = numL T (T.length + 1) k0 0 := hP2.trans HR.out
        have hd1 : (b.toNat : Int) < 48 ∨ 57 < (b.toNat : Int) := by
          rw [UInt8.le_iff_toNat_le, UInt8.le_iff_toNat_le, show (48 : UInt8).toNat = 48 from rfl, show (57 : UInt8).toNat = 57 from rfl] at hd
          omega
        clear hd hb hP2
        rcases hd1 with hd1 | hd1
        · have g1 : decide (48 ≤ (b.toNat : Int)) = false := by simp; omega
          by_cases h0 : k = k0
          · subst h0
            have hz : Z = none := by rw [HZ.out, numP_eq, ← hR0]; exact if_pos (.inl rfl)
            subst hz
            have t1 : ((k : Int) == (k : Int)) = true := by simp
            go_wp2_with fail
            go_quiet (fail)
            go_wp2_with fail
            exact ⟨rfl, rfl, ⟨_, H.out.drewN _⟩, HK.out.drewN _⟩
          · have t1 : ((k : Int) == (k0 : Int)) = false := by simp; omega
            have hl0 : k0 < T.length := by have := H.out.2.1; omega
            obtain ⟨c, hc⟩ : ∃ c, T[k0]? = some c := ⟨T[k0], List.getElem?_eq_getElem hl0⟩
            have hixc := idxT (P := Try.prog) Try.underlying9 hc
            by_cases h48 : c = 48
            · subst h48
              rw [show ((48 : UInt8).toNat : Int) = 48 from rfl] at hixc
              by_cases hk1 : k0 + 1 < k
              · have t2 : decide ((k0 : Int) + 1 < (k : Int)) = true := by simp; omega
                have hz : Z = none := by rw [HZ.out, numP_eq, ← hR0]; exact if_pos (.inr ⟨hc, hk1⟩)
                subst hz
                have HC := Lib.hid hc
                clear hc hR0
                go_wp2_with fail
                go_quiet (fail)
                go_wp2_with fail
                exact ⟨rfl, rfl, ⟨_, H.out.drewN _⟩, HK.out.drewN _⟩
              · have t2 : decide ((k0 : Int) + 1 < (k : Int)) = false := by simp; omega
                have hz : Z = some (n, k) := by rw [HZ.out, numP_eq, ← hR0]; exact if_neg (by rintro (h | h); exact h0 h; exact hk1 h.2)
                subst hz
                have HC := Lib.hid hc
                clear hc hR0
                go_wp2_with fail
                go_quiet (fail)
                go_wp2_with fail
                go_ret
                exact ⟨rfl, H.out.drewN _, HK.out.drewN _⟩
            · have t2 : ((c.toNat : Int) == 48) = false := ne_lit (c := 48) h48
              have hz : Z = some (n, k) := by rw [HZ.out, numP_eq, ← hR0]; exact if_neg (by rintro (h | h); exact h0 h; rw [hc] at h; injection h.1 with h; exact h48 h)
              subst hz
              have HC := Lib.hid hc
              have H48 := Lib.hid h48
              clear hc hR0 h48
              go_wp2_with fail
              go_quiet (fail)
              go_wp2_with fail
              go_ret
              exact ⟨rfl, H.out.drewN _, HK.out.drewN _⟩
        · have g1 : decide (48 ≤ (b.toNat : Int)) = true := by simp; omega
          have g2 : decide ((b.toNat : Int) ≤ 57) = false := by simp; omega
          by_cases h0 : k = k0
          · subst h0
            have hz : Z = none := by rw [HZ.out, numP_eq, ← hR0]; exact if_pos (.inl rfl)
            subst hz
            have t1 : ((k : Int) == (k : Int)) = true := by simp
            go_wp2_with fail
            go_quiet (fail)
            go_wp2_with fail
            exact ⟨rfl, rfl, ⟨_, H.out.drewN _⟩, HK.out.drewN _⟩
          · have t1 : ((k : Int) == (k0 : Int)) = false := by simp; omega
            have hl0 : k0 < T.length := by have := H.out.2.1; omega
            obtain ⟨c, hc⟩ : ∃ c, T[k0]? = some c := ⟨T[k0], List.getElem?_eq_getElem hl0⟩
            have hixc := idxT (P := Try.prog) Try.underlying9 hc
            by_cases h48 : c = 48
            · subst h48
              rw [show ((48 : UInt8).toNat : Int) = 48 from rfl] at hixc
              by_cases hk1 : k0 + 1 < k
              · have t2 : decide ((k0 : Int) + 1 < (k : Int)) = true := by simp; omega
                have hz : Z = none := by rw [HZ.out, numP_eq, ← hR0]; exact if_pos (.inr ⟨hc, hk1⟩)
                subst hz
                have HC := Lib.hid hc
                clear hc hR0
                go_wp2_with fail
                go_quiet (fail)
                go_wp2_with fail
                exact ⟨rfl, rfl, ⟨_, H.out.drewN _⟩, HK.out.drewN _⟩
              · have t2 : decide ((k0 : Int) + 1 < (k : Int)) = false := by simp; omega
                have hz : Z = some (n, k) := by rw [HZ.out, numP_eq, ← hR0]; exact if_neg (by rintro (h | h); exact h0 h; exact hk1 h.2)
                subst hz
                have HC := Lib.hid hc
                clear hc hR0
                go_wp2_with fail
                go_quiet (fail)
                go_wp2_with fail
                go_ret
                exact ⟨rfl, H.out.drewN _, HK.out.drewN _⟩
            · have t2 : ((c.toNat : Int) == 48) = false := ne_lit (c := 48) h48
              have hz : Z = some (n, k) := by rw [HZ.out, numP_eq, ← hR0]; exact if_neg (by rintro (h | h); exact h0 h; rw [hc] at h; injection h.1 with h; exact h48 h)
              subst hz
              have HC := Lib.hid hc
              have H48 := Lib.hid h48
              clear hc hR0 h48
              go_wp2_with fail
              go_quiet (fail)
              go_wp2_with fail
              go_ret
              exact ⟨rfl, H.out.drewN _, HK.out.drewN _⟩
end Go.Proofs.Ytniefnjcimempaa
