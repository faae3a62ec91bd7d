/- The walks of letterset's Of (one letter), Between, Union, Not. -/
import Derived.Test.YtpiagfmjekcncaaDoorjPar
import Derived.Laws.BitsAllLaws
import Derived.RegionTactic
import Derived.ChangeAlike
import Derived.StillTailTactics
import Derived.Lib.Zigzag
set_option linter.unusedVariables false
set_option linter.unusedSimpArgs false
set_option linter.unusedSectionVars false
namespace Go.Proofs.YtpiagfmjekcncaaDoor
open Go.RowKit
def lsC (S : LS) : List Value := (wds S).map fun n : Nat => Value.int .u64 (n : Int)
def lsV (S : LS) : Value := .agg (lsC S).toArray
def LRes (w : World) (S : LS) (e : Ending) (w' : World) : Prop := e = .returned (lsV S) ∧ Below w.heap.size w w'
theorem lsC_get (S : LS) {i : Nat} (h : i < 4) : (lsC S)[i]? = some (.int .u64 (wd S i)) := by
  unfold lsC
  rw [List.getElem?_map, wds_get S h]
  rfl
def LBlk (w : World) (g : Nat) (S : LS) : Prop := Blk w g 24 (lsC S).toArray
theorem LBlk.at_ {w : World} {g : Nat} {S : LS} (h : LBlk w g S) {i : Nat} (hi : i < 4) : w.cell? ⟨g, i, none⟩ = some (.int .u64 (wd S i)) := by
  rw [Blk.cell h]
  simpa using lsC_get S hi
theorem lsC_none : lsC noneS = [.int .u64 0, .int .u64 0, .int .u64 0, .int .u64 0] := by simp [lsC, wds, wd_none]
theorem LBlk.new (w : World) : LBlk (w.alloc (.cells #[.int .u64 0, .int .u64 0, .int .u64 0, .int .u64 0] 24)) w.heap.size noneS := by
  unfold LBlk
  rw [lsC_none]
  exact Blk.new _ _ _
theorem LBlk.put {w : World} {g : Nat} {S : LS} (h : LBlk w g S) (b : Nat) (hb : b < 256) {x : Int} (hx : x = ((wd S (b / 64) ||| 2 ^ (b % 64) : Nat) : Int)) : LBlk (w.setCell ⟨g, b / 64, none⟩ (.int .u64 x)) g (orS S (oneS b)) := by
  subst hx
  unfold LBlk lsC at *
  rw [wds_set S b hb]
  have := Blk.set_ h (b / 64) (.int .u64 ((wd S (b / 64) ||| 2 ^ (b % 64) : Nat) : Int))
  rw [List.setIfInBounds_toArray, ← List.map_set] at this
  exact this
theorem or_word (S : LS) (i j : Nat) (hj : j < 64) : bits BinOp.or IntKind.u64 (wd S i : Int) (IntKind.u64.wrap (2 ^ j)) = ((wd S i ||| 2 ^ j : Nat) : Int) := by
  have h1 : (2 : Nat) ^ j < 2 ^ 64 := Nat.pow_lt_pow_right (by omega) hj
  have h2 := wd_lt S i
  have e : IntKind.u64.wrap (2 ^ j) = ((2 ^ j : Nat) : Int) := by
    rw [IntKind.wrap_u64]
    have e0 : ((2 ^ j : Nat) : Int) = 2 ^ j := by simp
    rw [← e0]
    generalize 2 ^ j = z at *
    omega
  rw [e]
  exact u64_or_nat _ _ h2 h1
theorem LBlk.far {w : World} {g : Nat} {S : LS} (h : LBlk w g S) {p : Addr} (hp : g ≠ p.block) (u : Value) : LBlk (w.setCell p u) g S := Blk.far h hp u
theorem LBlk.all {w : World} {g : Nat} {S : LS} (h : LBlk w g S) (R : LS) : LBlk ((((w.setCell ⟨g, 0, none⟩ (.int .u64 (wd R 0))).setCell ⟨g, 1, none⟩ (.int .u64 (wd R 1))).setCell ⟨g, 2, none⟩ (.int .u64 (wd R 2))).setCell ⟨g, 3, none⟩ (.int .u64 (wd R 3))) g R :=
  Blk.set_ (Blk.set_ (Blk.set_ (Blk.set_ h 0 _) 1 _) 2 _) 3 _
theorem LBlk.cells {w : World} {g : Nat} {S : LS} (h : LBlk w g S) : (w.cell? ⟨g, 0, none⟩ = some (.int .u64 (wd S 0)) ∧ w.cell? ⟨g, 1, none⟩ = some (.int .u64 (wd S 1))) ∧ (w.cell? ⟨g, 2, none⟩ = some (.int .u64 (wd S 2)) ∧ w.cell? ⟨g, 3, none⟩ = some (.int .u64 (wd S 3))) :=
  ⟨⟨h.at_ (by omega), h.at_ (by omega)⟩, h.at_ (by omega), h.at_ (by omega)⟩
theorem LBlk.free {w : World} {g : Nat} {S : LS} (h : LBlk w g S) : (w.frozen? ⟨g, 0, none⟩ = false ∧ w.frozen? ⟨g, 1, none⟩ = false) ∧ (w.frozen? ⟨g, 2, none⟩ = false ∧ w.frozen? ⟨g, 3, none⟩ = false) :=
  ⟨⟨Blk.frozen h _, Blk.frozen h _⟩, Blk.frozen h _, Blk.frozen h _⟩
def OfRel (w : World) (b : UInt8) (i : Value) (wr : World) : Prop := ∃ k : Nat, k ≤ 1 ∧ i = .int .i64 k ∧ LBlk wr (w.heap.size + 1) (if k = 0 then noneS else oneS b.toNat) ∧ LBlk wr w.heap.size noneS ∧ Below w.heap.size w wr
set_option maxHeartbeats 1000000 in
theorem of_any (b : UInt8) (g : Nat) (w : World) (hg : g < w.heap.size) (hc : w.cell? ⟨g, 0, none⟩ = some (.int .u8 b.toNat)) : Calls Tryd.prog 42 #[.slice (some ⟨g, 0, none⟩) 1 1] w (LRes w (oneS b.toNat)) := by
  obtain ⟨hx0, hx1⟩ := u8b b
  have HG := Lib.hid hg
  have HC := Lib.hid hc
  clear hg hc
  go_enter Tryd.func42, Tryd.ntmps42
  go_wp2_with fail
  go_loopw [5, 8] (fun _ i wr => OfRel w b i wr) (fun _ i _ => 1 - (intOf i).toNat)
  case atStart =>
    refine ⟨0, by omega, rfl, ?_, ?_, ?_⟩
    · have := LBlk.new (w.alloc (.cells #[.int .u64 0, .int .u64 0, .int .u64 0, .int .u64 0] 24))
      simpa using this
    · exact (LBlk.new w).alloc _
    · exact ((Below.refl _ _).alloc (Nat.le_refl _) _).alloc (by simp) _
  case round =>
    obtain ⟨k, hk, rfl, hB, hR, hb⟩ := hrel
    by_cases h0 : k = 0
    · subst h0
      rw [if_pos rfl] at hB
      have e0 := (hb.cell (p := ⟨g, 0, none⟩) HG.out).trans HC.out
      have hq : b.toNat / 64 < 4 := by have := b.toNat_lt; omega
      have e1 := hB.at_ hq
      have e2 : wr.frozen? ⟨w.heap.size + 1, b.toNat / 64, none⟩ = false := Blk.frozen hB _
      have hN := hB.put b.toNat (by have := b.toNat_lt; omega) (or_word noneS (b.toNat / 64) (b.toNat % 64) (Nat.mod_lt _ (by omega)))
      have hN2 := hR.far (p := ⟨w.heap.size + 1, b.toNat / 64, none⟩) (by simp) (.int .u64 (bits BinOp.or IntKind.u64 (wd noneS (b.toNat / 64) : Int) (IntKind.u64.wrap (2 ^ (b.toNat % 64)))))
      have hN3 := hb.setCell (p := ⟨w.heap.size + 1, b.toNat / 64, none⟩) (by simp) (.int .u64 (bits BinOp.or IntKind.u64 (wd noneS (b.toNat / 64) : Int) (IntKind.u64.wrap (2 ^ (b.toNat % 64)))))
      have e3 : wds (orS noneS (oneS b.toNat)) = wds (oneS b.toNat) := wds_congr fun n _ => by simp [orS, noneS]
      unfold LBlk lsC at hN
      rw [e3] at hN
      have HN := Lib.hid hN
      have HN2 := Lib.hid hN2
      have HN3 := Lib.hid hN3
      clear hN hN2 hN3 e3 hB hR hb
      go_wp2_with fail
      exact ⟨⟨1, by omega, rfl, by rw [if_neg (by omega)]; exact HN.out, HN2.out, HN3.out⟩, by simp [intOf]⟩
    · have : k = 1 := by omega
      subst this
      rw [if_neg h0] at hB
      obtain ⟨⟨c0, c1⟩, c2, c3⟩ := hB.cells
      obtain ⟨⟨f0, f1⟩, f2, f3⟩ := hR.free
      obtain ⟨⟨r0, r1⟩, r2, r3⟩ := hR.cells
      have hF := hR.all (oneS b.toNat)
      have hF2 := (((hb.setCell (p := ⟨w.heap.size, 0, none⟩) (by simp) (.int .u64 (wd (oneS b.toNat) 0))).setCell (p := ⟨w.heap.size, 1, none⟩) (by simp) (.int .u64 (wd (oneS b.toNat) 1))).setCell (p := ⟨w.heap.size, 2, none⟩) (by simp) (.int .u64 (wd (oneS b.toNat) 2))).setCell (p := ⟨w.heap.size, 3, none⟩) (by simp) (.int .u64 (wd (oneS b.toNat) 3))
      have HF := Lib.hid hF
      have HF2 := Lib.hid hF2
      clear hF hF2 hB hR hb
      go_wp2_with fail
      obtain ⟨⟨d0, d1⟩, d2, d3⟩ := HF.out.cells
      refine bodyPost_ret (v := lsV (oneS b.toNat)) (by simp [results, Tryd.results42, go_sem, d0, d1, d2, d3, lsV, lsC, wds]) rfl ?_
      exact ⟨rfl, HF2.out⟩
end Go.Proofs.YtpiagfmjekcncaaDoor
namespace Go.Proofs.YtpiagfmjekcncaaDoor
open Go.RowKit
def upS (a k : Nat) : LS := fun n => decide (a ≤ n) && decide (n < k)
theorem upS_start (a : Nat) : wds (upS a a) = wds noneS := wds_congr fun n _ => by simp [upS, noneS]
theorem upS_step {a k : Nat} (h : a ≤ k) : wds (orS (upS a k) (oneS k)) = wds (upS a (k + 1)) := wds_congr fun n _ => by
  unfold orS upS oneS
  rw [Bool.eq_iff_iff]
  simp
  omega
theorem upS_end (a b : Nat) : wds (upS a (b + 1)) = wds (spanS a b) := wds_congr fun n _ => by
  unfold upS spanS
  rw [Bool.eq_iff_iff]
  simp
  omega
theorem set4 (f g : Nat → Nat) (x : Nat) : ∀ k, k < 4 → f k = x → (∀ i, i ≠ k → f i = g i) → [f 0, f 1, f 2, f 3] = [g 0, g 1, g 2, g 3].set k x
  | 0, _, h2, h1 => by rw [h2, h1 1 (by omega), h1 2 (by omega), h1 3 (by omega)]; rfl
  | 1, _, h2, h1 => by rw [h2, h1 0 (by omega), h1 2 (by omega), h1 3 (by omega)]; rfl
  | 2, _, h2, h1 => by rw [h2, h1 0 (by omega), h1 1 (by omega), h1 3 (by omega)]; rfl
  | 3, _, h2, h1 => by rw [h2, h1 0 (by omega), h1 1 (by omega), h1 2 (by omega)]; rfl
theorem LBlk.congr {w : World} {g : Nat} {S R : LS} (h : LBlk w g S) (e : wds S = wds R) : LBlk w g R := by
  unfold LBlk lsC at *
  rw [← e]
  exact h
theorem LBlk.alloc {w : World} {g : Nat} {S : LS} (h : LBlk w g S) (o : Obj) : LBlk (w.alloc o) g S := Blk.alloc h o
theorem LBlk.mk (w : World) (S : LS) (g : Nat) (hg : g = w.heap.size) : LBlk (w.alloc (.cells (lsC S).toArray 24)) g S := by subst hg; exact Blk.new _ _ _
theorem LBlk.mk0 (w : World) (g : Nat) (hg : g = w.heap.size) : LBlk (w.alloc (.cells #[.int .u64 0, .int .u64 0, .int .u64 0, .int .u64 0] 24)) g noneS := by subst hg; exact LBlk.new _
def cplN (x : Nat) : Nat := 2 ^ 64 - 1 - x
theorem wd_cpl (S : LS) (i : Nat) : wd (notS S) i = cplN (wd S i) := wd_not S i
theorem cpl_word {x : Nat} (hx : x < 2 ^ 64) : bits BinOp.xor IntKind.u64 (if IntKind.u64.signed = true then -1 else IntKind.u64.max) (x : Int) = ((cplN x : Nat) : Int) := by
  rw [if_neg (by decide), show IntKind.u64.max = ((2 ^ 64 - 1 : Nat) : Int) by decide, u64_xor_nat _ _ (by decide) hx, Lib.xor_ones64 _ hx]
  rfl
def BetRel (w : World) (a b : Nat) (i : Value) (wr : World) : Prop := ∃ k : Nat, a ≤ k ∧ k ≤ b + 1 ∧ i = .int .i64 k ∧ LBlk wr (w.heap.size + 1) (upS a k) ∧ LBlk wr w.heap.size noneS ∧ Below w.heap.size w wr
theorem between_any (a b : Nat) (w : World) (hab : a ≤ b) (hb : b ≤ 255) : Calls Tryd.prog 83 #[.int .u8 a, .int .u8 b] w (LRes w (spanS a b)) := by
  go_enter Tryd.func83, Tryd.ntmps83
  go_wp2_with fail
  go_loopw [6] (fun i wr => BetRel w a b i wr) (fun i _ => 256 - (intOf i).toNat)
  case atStart =>
    refine ⟨a, by omega, by omega, rfl, ?_, (LBlk.new w).alloc _, ((Below.refl _ _).alloc (Nat.le_refl _) _).alloc (by simp) _⟩
    have := LBlk.new (w.alloc (.cells #[.int .u64 0, .int .u64 0, .int .u64 0, .int .u64 0] 24))
    refine LBlk.congr ?_ (upS_start a).symm
    simpa using this
  case round =>
    obtain ⟨k, h1, h2, rfl, hB, hR, hbl⟩ := hrel
    by_cases hk : k ≤ b
    · have hq : k / 64 < 4 := by omega
      have e1 := hB.at_ hq
      have e2 : wr.frozen? ⟨w.heap.size + 1, k / 64, none⟩ = false := Blk.frozen hB _
      have hN := (hB.put k (by omega) (or_word (upS a k) (k / 64) (k % 64) (Nat.mod_lt _ (by omega)))).congr (upS_step h1)
      have hN2 := hR.far (p := ⟨w.heap.size + 1, k / 64, none⟩) (by simp) (.int .u64 (bits BinOp.or IntKind.u64 (wd (upS a k) (k / 64) : Int) (IntKind.u64.wrap (2 ^ (k % 64)))))
      have hN3 := hbl.setCell (p := ⟨w.heap.size + 1, k / 64, none⟩) (by simp) (.int .u64 (bits BinOp.or IntKind.u64 (wd (upS a k) (k / 64) : Int) (IntKind.u64.wrap (2 ^ (k % 64)))))
      have HN := Lib.hid hN
      have HN2 := Lib.hid hN2
      have HN3 := Lib.hid hN3
      clear hN hN2 hN3 hB hR hbl
      go_wp2_with fail
      go_region
      go_wp2_with fail
      exact ⟨⟨k + 1, by omega, by omega, rfl, HN.out, HN2.out, HN3.out.drew⟩, by simp [intOf]; omega⟩
    · have : k = b + 1 := by omega
      subst this
      have hB := hB.congr (upS_end a b)
      obtain ⟨⟨c0, c1⟩, c2, c3⟩ := hB.cells
      obtain ⟨⟨f0, f1⟩, f2, f3⟩ := hR.free
      obtain ⟨⟨r0, r1⟩, r2, r3⟩ := hR.cells
      have hF := hR.all (spanS a b)
      have hF2 := (((hbl.setCell (p := ⟨w.heap.size, 0, none⟩) (by simp) (.int .u64 (wd (spanS a b) 0))).setCell (p := ⟨w.heap.size, 1, none⟩) (by simp) (.int .u64 (wd (spanS a b) 1))).setCell (p := ⟨w.heap.size, 2, none⟩) (by simp) (.int .u64 (wd (spanS a b) 2))).setCell (p := ⟨w.heap.size, 3, none⟩) (by simp) (.int .u64 (wd (spanS a b) 3))
      have HF := Lib.hid hF
      have HF2 := Lib.hid hF2
      clear hF hF2 hB hR hbl
      go_wp2_with fail
      obtain ⟨⟨d0, d1⟩, d2, d3⟩ := HF.out.cells
      refine bodyPost_ret (v := lsV (spanS a b)) (by simp [results, Tryd.results83, go_sem, d0, d1, d2, d3, lsV, lsC, wds]) rfl ?_
      exact ⟨rfl, HF2.out⟩
def UniRel (S R : LS) (k : Nat) : LS := fun n => S n || (R n && decide (n < 64 * k))
theorem uni_get (S R : LS) (k : Nat) : wd (UniRel S R k) k = wd S k := wd_congr fun j hj => by
  unfold UniRel
  rw [decide_eq_false (by omega)]
  simp
theorem bits_u64 {x y : Nat} (hx : x < 2 ^ 64) (hy : y < 2 ^ 64) : bits BinOp.or IntKind.u64 (x : Int) (y : Int) = ((x ||| y : Nat) : Int) := u64_or_nat _ _ hx hy
theorem uni_step (S R : LS) (k : Nat) (hk : k < 4) : wds (UniRel S R (k + 1)) = (wds (UniRel S R k)).set k (wd S k ||| wd R k) := by
  have h1 : ∀ i, i ≠ k → wd (UniRel S R (k + 1)) i = wd (UniRel S R k) i := fun i hi => wd_congr fun j hj => by
    unfold UniRel
    rcases Nat.lt_or_ge i k with h | h
    · rw [decide_eq_true (by omega), decide_eq_true (by omega)]
    · rw [decide_eq_false (by omega), decide_eq_false (by omega)]
  have h2 : wd (UniRel S R (k + 1)) k = wd S k ||| wd R k := by
    rw [← wd_or]
    exact wd_congr fun j hj => by
      unfold UniRel orS
      rw [decide_eq_true (by omega)]
      simp
  exact set4 (wd (UniRel S R (k + 1))) (wd (UniRel S R k)) _ k hk h2 h1
theorem uni_start (S R : LS) : wds S = wds (UniRel S R 0) := wds_congr fun n _ => by simp [UniRel]
theorem uni_end (S R : LS) : wds (UniRel S R 4) = wds (orS S R) := wds_congr fun n hn => by
  unfold UniRel orS
  rw [decide_eq_true (by omega)]
  simp
theorem LBlk.step {w : World} {g : Nat} {S R : LS} {k : Nat} (h : LBlk w g S) (x : Nat) (e : wds R = (wds S).set k x) : LBlk (w.setCell ⟨g, k, none⟩ (.int .u64 x)) g R := by
  unfold LBlk lsC at *
  rw [e, List.map_set]
  have := Blk.set_ h k (.int .u64 (x : Int))
  rw [List.setIfInBounds_toArray] at this
  exact this
theorem lsV_eq (S : LS) : lsV S = .agg #[.int .u64 (wd S 0), .int .u64 (wd S 1), .int .u64 (wd S 2), .int .u64 (wd S 3)] := rfl
def UniR (w : World) (S R : LS) (i : Value) (wr : World) : Prop := ∃ k : Nat, k ≤ 4 ∧ i = .int .i64 k ∧ LBlk wr w.heap.size (UniRel S R k) ∧ LBlk wr (w.heap.size + 1) R ∧ LBlk wr (w.heap.size + 1 + 1) noneS ∧ Below w.heap.size w wr
set_option maxHeartbeats 1000000 in
theorem union_any (S R : LS) (w : World) : Calls Tryd.prog 82 #[lsV S, lsV R] w (LRes w (orS S R)) := by
  rw [lsV_eq, lsV_eq]
  go_enter Tryd.func82, Tryd.ntmps82
  go_wp2_with fail
  go_loopw [5, 6] (fun _ i wr => UniR w S R i wr) (fun _ i _ => 4 - (intOf i).toNat)
  case atStart =>
    exact ⟨0, by omega, rfl, (((LBlk.mk w S _ rfl).alloc _).alloc _).congr (uni_start S R), (LBlk.mk _ R _ (by simp)).alloc _, LBlk.mk0 _ _ (by simp), (((Below.refl _ _).alloc (Nat.le_refl _) _).alloc (by simp) _).alloc (by simp; omega) _⟩
  case round =>
    obtain ⟨k, h1, rfl, hS, hR, hT, hbl⟩ := hrel
    by_cases hk : k < 4
    · have e1 := hS.at_ hk
      rw [uni_get] at e1
      have e2 := hR.at_ hk
      have e3 : wr.frozen? ⟨w.heap.size, k, none⟩ = false := Blk.frozen hS _
      have eb := bits_u64 (wd_lt S k) (wd_lt R k)
      have hN := hS.step _ (uni_step S R k hk)
      have hN1 := hR.far (p := ⟨w.heap.size, k, none⟩) (by simp) (.int .u64 ((wd S k ||| wd R k : Nat) : Int))
      have hN2 := hT.far (p := ⟨w.heap.size, k, none⟩) (by simp; omega) (.int .u64 ((wd S k ||| wd R k : Nat) : Int))
      have hN3 := hbl.setCell (p := ⟨w.heap.size, k, none⟩) (by simp) (.int .u64 ((wd S k ||| wd R k : Nat) : Int))
      have HN := Lib.hid hN
      have HN1 := Lib.hid hN1
      have HN2 := Lib.hid hN2
      have HN3 := Lib.hid hN3
      clear hN hN1 hN2 hN3 hS hR hT hbl
      go_wp2_with fail
      go_region
      go_wp2_with fail
      exact ⟨⟨k + 1, by omega, rfl, HN.out, HN1.out, HN2.out, HN3.out.drew⟩, by simp [intOf]; omega⟩
    · have : k = 4 := by omega
      subst this
      have hB := hS.congr (uni_end S R)
      obtain ⟨⟨c0, c1⟩, c2, c3⟩ := hB.cells
      obtain ⟨⟨f0, f1⟩, f2, f3⟩ := hT.free
      obtain ⟨⟨r0, r1⟩, r2, r3⟩ := hT.cells
      have hF := hT.all (orS S R)
      have hF2 := (((hbl.setCell (p := ⟨w.heap.size + 1 + 1, 0, none⟩) (by simp; omega) (.int .u64 (wd (orS S R) 0))).setCell (p := ⟨w.heap.size + 1 + 1, 1, none⟩) (by simp; omega) (.int .u64 (wd (orS S R) 1))).setCell (p := ⟨w.heap.size + 1 + 1, 2, none⟩) (by simp; omega) (.int .u64 (wd (orS S R) 2))).setCell (p := ⟨w.heap.size + 1 + 1, 3, none⟩) (by simp; omega) (.int .u64 (wd (orS S R) 3))
      have HF := Lib.hid hF
      have HF2 := Lib.hid hF2
      clear hF hF2 hB hS hR hT hbl
      go_wp2_with fail
      obtain ⟨⟨d0, d1⟩, d2, d3⟩ := HF.out.cells
      refine bodyPost_ret (v := lsV (orS S R)) (by simp [results, Tryd.results82, go_sem, d0, d1, d2, d3, lsV, lsC, wds]) rfl ?_
      exact ⟨rfl, HF2.out⟩
def NotRel (S : LS) (k : Nat) : LS := fun n => if n < 64 * k then !S n else S n
theorem not_get (S : LS) (k : Nat) : wd (NotRel S k) k = wd S k := wd_congr fun j hj => by
  unfold NotRel
  rw [if_neg (by omega)]
theorem not_step (S : LS) (k : Nat) (hk : k < 4) : wds (NotRel S (k + 1)) = (wds (NotRel S k)).set k (cplN (wd S k)) := by
  have h1 : ∀ i, i ≠ k → wd (NotRel S (k + 1)) i = wd (NotRel S k) i := fun i hi => wd_congr fun j hj => by
    unfold NotRel
    rcases Nat.lt_or_ge i k with h | h
    · rw [if_pos (by omega), if_pos (by omega)]
    · rw [if_neg (by omega), if_neg (by omega)]
  have h2 : wd (NotRel S (k + 1)) k = cplN (wd S k) := by
    rw [← wd_cpl]
    exact wd_congr fun j hj => by
      unfold NotRel notS
      rw [if_pos (by omega)]
  exact set4 (wd (NotRel S (k + 1))) (wd (NotRel S k)) _ k hk h2 h1
theorem not_start (S : LS) : wds S = wds (NotRel S 0) := wds_congr fun n _ => by simp [NotRel]
theorem not_end (S : LS) : wds (NotRel S 4) = wds (notS S) := wds_congr fun n hn => by
  unfold NotRel notS
  rw [if_pos (by omega)]
def NotR (w : World) (S : LS) (i : Value) (wr : World) : Prop := ∃ k : Nat, k ≤ 4 ∧ i = .int .i64 k ∧ LBlk wr w.heap.size (NotRel S k) ∧ LBlk wr (w.heap.size + 1) noneS ∧ Below w.heap.size w wr
set_option maxHeartbeats 1000000 in
theorem not_any (S : LS) (w : World) : Calls Tryd.prog 73 #[lsV S] w (LRes w (notS S)) := by
  rw [lsV_eq]
  go_enter Tryd.func73, Tryd.ntmps73
  go_wp2_with fail
  go_loopw [3, 4] (fun _ i wr => NotR w S i wr) (fun _ i _ => 4 - (intOf i).toNat)
  case atStart =>
    exact ⟨0, by omega, rfl, ((LBlk.mk w S _ rfl).alloc _).congr (not_start S), LBlk.mk0 _ _ (by simp), ((Below.refl _ _).alloc (Nat.le_refl _) _).alloc (by simp) _⟩
  case round =>
    obtain ⟨k, h1, rfl, hS, hT, hbl⟩ := hrel
    by_cases hk : k < 4
    · have e1 := hS.at_ hk
      rw [not_get] at e1
      have e3 : wr.frozen? ⟨w.heap.size, k, none⟩ = false := Blk.frozen hS _
      have hlt := wd_lt S k
      have hN := hS.step _ (not_step S k hk)
      have hN2 := hT.far (p := ⟨w.heap.size, k, none⟩) (by simp) (.int .u64 ((cplN (wd S k) : Nat) : Int))
      have hN3 := hbl.setCell (p := ⟨w.heap.size, k, none⟩) (by simp) (.int .u64 ((cplN (wd S k) : Nat) : Int))
      have ec := cpl_word hlt
      rw [← ec] at hN hN2 hN3
      have HN := Lib.hid hN
      have HN2 := Lib.hid hN2
      have HN3 := Lib.hid hN3
      clear ec hN hN2 hN3 hS hT hbl
      go_wp2_with fail
      exact ⟨⟨k + 1, by omega, rfl, HN.out, HN2.out, HN3.out⟩, by simp [intOf]; omega⟩
    · have : k = 4 := by omega
      subst this
      have hB := hS.congr (not_end S)
      obtain ⟨⟨c0, c1⟩, c2, c3⟩ := hB.cells
      obtain ⟨⟨f0, f1⟩, f2, f3⟩ := hT.free
      obtain ⟨⟨r0, r1⟩, r2, r3⟩ := hT.cells
      have hF := hT.all (notS S)
      have hF2 := (((hbl.setCell (p := ⟨w.heap.size + 1, 0, none⟩) (by simp) (.int .u64 (wd (notS S) 0))).setCell (p := ⟨w.heap.size + 1, 1, none⟩) (by simp) (.int .u64 (wd (notS S) 1))).setCell (p := ⟨w.heap.size + 1, 2, none⟩) (by simp) (.int .u64 (wd (notS S) 2))).setCell (p := ⟨w.heap.size + 1, 3, none⟩) (by simp) (.int .u64 (wd (notS S) 3))
      have HF := Lib.hid hF
      have HF2 := Lib.hid hF2
      clear hF hF2 hB hS hT hbl
      go_wp2_with fail
      obtain ⟨⟨d0, d1⟩, d2, d3⟩ := HF.out.cells
      refine bodyPost_ret (v := lsV (notS S)) (by simp [results, Tryd.results73, go_sem, d0, d1, d2, d3, lsV, lsC, wds]) rfl ?_
      exact ⟨rfl, HF2.out⟩
end Go.Proofs.YtpiagfmjekcncaaDoor
