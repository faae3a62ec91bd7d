/- Weights: the walks of weight.Unit, Letter, Valid. -/
import Derived.Test.YtphpfkhpihlalaaDig
import Derived.Test.YtphpfkhpihlalaaLen
namespace Go.Proofs.Ytphpfkhpihlalaa
open Go.RowKit
/-- A row of cells set, from one place on. -/
def setL (w : World) (g k : Nat) : List Value → World
  | [] => w
  | v :: vs => setL (w.setCell ⟨g, k, none⟩ v) g (k + 1) vs
def setA (cs : Array Value) (k : Nat) : List Value → Array Value
  | [] => cs
  | v :: vs => setA (cs.setIfInBounds k v) (k + 1) vs
theorem setL_blk {w : World} {g : Nat} {t : TypeId} {cs : Array Value} (h : Blk w g t cs) (k : Nat) (vs : List Value) : Blk (setL w g k vs) g t (setA cs k vs) := by
  induction vs generalizing w cs k with
  | nil => exact h
  | cons v vs ih => exact ih (h.set_ k v) (k + 1)
theorem setL_below {a w : World} {B g : Nat} (h : Below B a w) (hg : B ≤ g) (k : Nat) (vs : List Value) : Below B a (setL w g k vs) := by
  induction vs generalizing w k with
  | nil => exact h
  | cons v vs ih => exact ih (h.setCell hg v) (k + 1)
/-- A weight. -/
structure Wt where
  len : Int
  lines : Int
  head : Int
  tail : Int
  dig : Dig
def Wt.val (x : Wt) : Value := .agg #[.int .i64 x.len, .int .i64 x.lines, .int .i64 x.head, .int .i64 x.tail, .int .u64 x.dig.v, .int .u64 x.dig.s]
def Wt.unit : Wt := ⟨0, 0, 0, 0, Dig.unit⟩
def Wt.letter (b : UInt8) : Wt := if b = 10 then ⟨1, 1, 0, 0, Dig.letter b⟩ else ⟨1, 0, 1, 1, Dig.letter b⟩
theorem wunit_any (w : World) : Calls Try.prog 70 #[] w fun e w' => e = .returned Wt.unit.val ∧ Below w.heap.size w w' := by
  have hu := fun W => dunit_any W
  have hv : Wt.unit.val = .agg #[.int .i64 0, .int .i64 0, .int .i64 0, .int .i64 0, .int .u64 0, .int .u64 1] := rfl
  rw [hv]
  clear hv
  go_enter Try.func70, Try.ntmps70
  go_upto_region 1 with (fail)
  obtain ⟨w1, hw1⟩ : ∃ w1, w1 = w.alloc (.cells #[.int .i64 0, .int .i64 0, .int .i64 0, .int .i64 0, .int .u64 0, .int .u64 0] 38) := ⟨_, rfl⟩
  have k1 : Blk w1 w.heap.size 38 #[.int .i64 0, .int .i64 0, .int .i64 0, .int .i64 0, .int .u64 0, .int .u64 0] := by rw [hw1]; exact Blk.new _ _ _
  have hq1 : Below w.heap.size w w1 := by rw [hw1]; exact (Below.refl _ _).alloc (Nat.le_refl _) _
  rw [← hw1]
  clear hw1
  go_wp2_with fail
  refine (hu _).mono ?_
  rintro e w2 ⟨rfl, hb2⟩
  have k2 := k1.below hb2 k1.lt
  have hq2 := hq1.trans (hb2.mono hq1.size)
  have z0 := k2.cell 0
  have z1 := k2.cell 1
  have z2 := k2.cell 2
  have z3 := k2.cell 3
  have z4 := k2.cell 4
  have z5 := k2.cell 5
  have q0 := k2.frozen 0
  have q1 := k2.frozen 1
  have q2 := k2.frozen 2
  have q3 := k2.frozen 3
  have q4 := k2.frozen 4
  have q5 := k2.frozen 5
  simp only [List.getElem?_toArray, List.getElem?_cons_zero, List.getElem?_cons_succ] at z0 z1 z2 z3 z4 z5
  unfold Dig.val Dig.unit
  clear hu
  go_wp2_with fail
  obtain ⟨wF, hwF⟩ : ∃ wF, wF = (setL w2 (w.heap.size) 0 [.int .i64 0, .int .i64 0, .int .i64 0, .int .i64 0, .int .u64 0, .int .u64 1]) := ⟨_, rfl⟩
  have kwF : Blk wF (w.heap.size) 38 #[.int .i64 0, .int .i64 0, .int .i64 0, .int .i64 0, .int .u64 0, .int .u64 1] := by rw [hwF]; exact (setL_blk k2 0 _)
  have bwF : Below w.heap.size w wF := by rw [hwF]; exact (setL_below hq2 (Nat.le_refl _) 0 _)
  simp only [setL, Nat.zero_add, Nat.reduceAdd] at hwF
  rw [← hwF]
  clear hwF
  have f0 := kwF.cell 0
  have f1 := kwF.cell 1
  have f2 := kwF.cell 2
  have f3 := kwF.cell 3
  have f4 := kwF.cell 4
  have f5 := kwF.cell 5
  simp only [List.getElem?_toArray, List.getElem?_cons_zero, List.getElem?_cons_succ] at f0 f1 f2 f3 f4 f5
  refine bodyPost_ret (v := .agg #[.int .i64 0, .int .i64 0, .int .i64 0, .int .i64 0, .int .u64 0, .int .u64 1]) (by simp [results, Try.results70, go_sem, f0, f1, f2, f3, f4, f5]) rfl ?_
  exact ⟨rfl, bwF⟩
end Go.Proofs.Ytphpfkhpihlalaa
