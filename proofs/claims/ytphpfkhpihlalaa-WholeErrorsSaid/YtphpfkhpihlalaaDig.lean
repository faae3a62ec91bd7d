/- The walks of digest.Unit, Letter, Join. -/
import Derived.Test.YtphpfkhpihlalaaPow
import Derived.StillTailTactics
import Derived.Deep.Cut
namespace Go.Proofs.Ytphpfkhpihlalaa
open Go.RowKit
/-- A digest. -/
structure Dig where
  v : Nat
  s : Nat
def Dig.val (d : Dig) : Value := .agg #[.int .u64 d.v, .int .u64 d.s]
def Dig.small (d : Dig) : Prop := d.v < 2305843009213693951 ∧ d.s < 2305843009213693951
def Dig.unit : Dig := ⟨0, 1⟩
def Dig.letter (b : UInt8) : Dig := ⟨b.toNat + 1, 1103515245⟩
def Dig.join (a b : Dig) : Dig := ⟨(a.v * b.s % mP + b.v) % mP, a.s * b.s % mP⟩
theorem dunit_any (w : World) : Calls Try.prog 82 #[] w fun e w' => e = .returned Dig.unit.val ∧ Below w.heap.size w w' := by
  go_enter Try.func82, Try.ntmps82
  go_wp2_with fail
  refine bodyPost_ret (v := .agg #[.int .u64 0, .int .u64 1]) (by simp [results, Try.results82, go_sem]) rfl ?_
  exact ⟨rfl, (Below.refl _ _).alloc (Nat.le_refl _) _⟩
set_option maxRecDepth 100000 in
theorem djoin_any (a b : Dig) (w : World) (ha : a.small) (hb : b.small) : Calls Try.prog 19 #[a.val, b.val] w fun e w' => e = .returned (a.join b).val ∧ Below w.heap.size w w' := by
  have m1 := fun W => mmul_any a.v b.s W (by have := ha.1; omega) (by have := hb.2; omega)
  have m2 := fun W => madd_any (a.v * b.s % mP) b.v W (by have := mP_lt (a.v * b.s); omega) (by have := hb.1; omega)
  have m3 := fun W => mmul_any a.s b.s W (by have := ha.2; omega) (by have := hb.2; omega)
  clear ha hb
  unfold Dig.join Dig.val
  generalize (((a.v * b.s % mP + b.v) % mP : Nat) : Int) = X at *
  generalize ((a.v * b.s % mP : Nat) : Int) = Y at *
  generalize ((a.s * b.s % mP : Nat) : Int) = Z at *
  generalize (a.v : Int) = av at *
  generalize (a.s : Int) = sa at *
  generalize (b.v : Int) = bv at *
  generalize (b.s : Int) = bs at *
  go_enter Try.func19, Try.ntmps19
  go_upto_region 1 with (fail)
  obtain ⟨w1, hw1⟩ : ∃ w1, w1 = ((w.alloc (.cells #[.int .u64 av, .int .u64 sa] 36)).alloc (.cells #[.int .u64 bv, .int .u64 bs] 36)).alloc (.cells #[.int .u64 0, .int .u64 0] 36) := ⟨_, rfl⟩
  have k0 : Blk w1 w.heap.size 36 #[.int .u64 av, .int .u64 sa] := by rw [hw1]; exact ((Blk.new _ _ _).alloc _).alloc _
  have k1 : Blk w1 (w.heap.size + 1) 36 #[.int .u64 bv, .int .u64 bs] := by rw [hw1]; exact Blk.alloc (by have := Blk.new (w.alloc (.cells #[.int .u64 av, .int .u64 sa] 36)) 36 #[.int .u64 bv, .int .u64 bs]; simpa using this) _
  have k2 : Blk w1 (w.heap.size + 1 + 1) 36 #[.int .u64 0, .int .u64 0] := by rw [hw1]; have := Blk.new ((w.alloc (.cells #[.int .u64 av, .int .u64 sa] 36)).alloc (.cells #[.int .u64 bv, .int .u64 bs] 36)) 36 #[.int .u64 0, .int .u64 0]; simpa using this
  have hq1 : Below w.heap.size w w1 := by rw [hw1]; exact (((Below.refl _ _).alloc (Nat.le_refl _) _).alloc (by simp) _).alloc (by simp; omega) _
  rw [← hw1]
  clear hw1
  have x0 := k0.cell 0
  have x1 := k0.cell 1
  have y0 := k1.cell 0
  have y1 := k1.cell 1
  have z0 := k2.cell 0
  have z1 := k2.cell 1
  have q0 := k2.frozen 0
  have q1 := k2.frozen 1
  simp only [List.getElem?_toArray, List.getElem?_cons_zero, List.getElem?_cons_succ] at x0 x1 y0 y1 z0 z1
  refine wp_region_still_tail 14 (by kernel_rfl) (by kernel_rfl) ?_
  simp only [List.take_succ_cons, List.take_zero, List.drop_succ_cons, List.drop_zero]
  iterate 4 still_step
  still_call m1 _
  iterate 2 still_step
  still_call m2 _
  iterate 4 still_step
  still_call m3 _
  still_step
  try refine wpStill_nil ?_
  go_wp2_with fail
  obtain ⟨wF, hwF⟩ : ∃ wF, wF = ((w1.setCell ⟨w.heap.size + 1 + 1, 0, none⟩ (.int .u64 X)).setCell ⟨w.heap.size + 1 + 1, 1, none⟩ (.int .u64 Z)).drew := ⟨_, rfl⟩
  have kF : Blk wF (w.heap.size + 1 + 1) 36 #[.int .u64 X, .int .u64 Z] := by rw [hwF]; exact ((k2.set_ 0 _).set_ 1 _).drew
  have hqF : Below w.heap.size w wF := by rw [hwF]; exact ((hq1.setCell (by simp; omega) _).setCell (by simp; omega) _).drew
  rw [← hwF]
  clear hwF
  have f0 := kF.cell 0
  have f1 := kF.cell 1
  simp only [List.getElem?_toArray, List.getElem?_cons_zero, List.getElem?_cons_succ] at f0 f1
  refine bodyPost_ret (v := .agg #[.int .u64 X, .int .u64 Z]) (by simp [results, Try.results19, go_sem, f0, f1]) rfl ?_
  exact ⟨rfl, hqF⟩
theorem dletter_any (b : UInt8) (w : World) : Calls Try.prog 83 #[.int .u8 b.toNat] w fun e w' => e = .returned (Dig.letter b).val ∧ Below w.heap.size w w' := by
  have hb : (b.toNat : Int) < 256 := by have := b.toNat_lt; omega
  have e1 : IntKind.u64.wrap ((b.toNat : Int) + 1) = ((b.toNat + 1 : Nat) : Int) := by rw [wrap_u64 _ (by omega) (by omega)]; rfl
  have e2 : IntKind.u64.wrap (b.toNat : Int) = (b.toNat : Int) := wrap_u64 _ (by omega) (by omega)
  have hd : (Dig.letter b).val = .agg #[.int .u64 ((b.toNat + 1 : Nat) : Int), .int .u64 1103515245] := rfl
  have HD := Lib.hid hd
  clear hd hb
  go_enter Try.func83, Try.ntmps83
  go_wp2_with fail
  refine bodyPost_ret (v := .agg #[.int .u64 ((b.toNat + 1 : Nat) : Int), .int .u64 1103515245]) (by simp [results, Try.results83, go_sem]) rfl ?_
  exact ⟨by rw [HD.out], (Below.refl _ _).alloc (Nat.le_refl _) _⟩
end Go.Proofs.Ytphpfkhpihlalaa
