/- The walks of the library's TrailingZeros64 at a single bit, and of letterset.Has. -/
import Derived.Test.YtpiagfmjekcncaaDoorjLet
import Derived.Test.YtpiagfmjekcncaaDoorjReg
import Derived.Laws.Bits64b
import Derived.Lib.TrailingZeros
import Derived.Deep.LoopGhost
import Derived.Deep.DeepCutAuto
import Derived.StillTailTactics
set_option linter.unusedVariables false
set_option linter.unusedSimpArgs false
set_option linter.unusedSectionVars false
namespace Go.Proofs.YtpiagfmjekcncaaDoor
open Go.RowKit
/-- The library's table of trailing zeros, in its variable. -/
def TzAt (w : World) : Prop := ∀ j, j < 64 → w.cell? ⟨0, j, none⟩ = some (.int .u8 (Lib.deBruijn64tab.getD j 0))
theorem TzAt.lt {w : World} (h : TzAt w) : 0 < w.heap.size := by
  have h0 := h 0 (by omega)
  by_cases hl : 0 < w.heap.size
  · exact hl
  · have : w.heap[0]? = none := Array.getElem?_eq_none (by omega)
    rw [World.cell?] at h0
    simp [this] at h0
theorem TzAt.below {w w' : World} {B : Nat} (h : TzAt w) (hb : Below B w w') (hB : 0 < B) : TzAt w' := fun j hj => (hb.cell (p := ⟨0, j, none⟩) hB).trans (h j hj)
theorem TzAt.kept {F : Nat → Prop} {w w' : World} (h : TzAt w) (k : Kept F w w') (hF : ¬ F 0) : TzAt w' := fun j hj => (World.cell?_of_block (k.block _ h.lt hF)).trans (h j hj)
theorem tz_key (k : Nat) (hk : k < 64) :
    IntKind.u64.wrap (bits BinOp.and IntKind.u64 ((2 ^ k : Nat) : Int) (IntKind.u64.wrap (-((2 ^ k : Nat) : Int))) * 285870213051353865) / 288230376151711744 = ((2 ^ k * 285870213051353865 % 18446744073709551616 / 288230376151711744 : Nat) : Int) := by
  have hx : 2 ^ k < 18446744073709551616 := Nat.pow_lt_pow_right (by omega) hk
  have hp : 0 < 2 ^ k := Nat.two_pow_pos k
  have hlow : 2 ^ k &&& (18446744073709551616 - 2 ^ k) = 2 ^ k := by
    have := Lib.and_neg 64 k 0 (by simpa using hx)
    simpa using this
  have e1 : IntKind.u64.wrap (-((2 ^ k : Nat) : Int)) = ((18446744073709551616 - 2 ^ k : Nat) : Int) := by
    rw [IntKind.wrap_u64]
    generalize 2 ^ k = z at *
    omega
  rw [e1, bits_and_u64_nat _ _ hx (by omega), hlow, IntKind.wrap_u64]
  generalize 2 ^ k = z at *
  omega
theorem tz_core (x k idx : Nat) (w : World) (hx0 : ((x : Int) == 0) = false)
    (key : IntKind.u64.wrap (bits BinOp.and IntKind.u64 (x : Int) (IntKind.u64.wrap (-(x : Int))) * 285870213051353865) / 288230376151711744 = (idx : Int))
    (hi : idx < 64) (hk : k < 64) (hcell : w.cell? ⟨0, idx, none⟩ = some (.int .u8 k)) :
    Calls Tryd.prog 27 #[.int .u64 x] w fun e w' => e = .returned (.int .i64 k) ∧ w' = w := by
  go_enter Tryd.func27, Tryd.ntmps27
  go_wp2_with (simp only [key])
  go_ret
  exact ⟨rfl, rfl⟩
theorem tz_any (k : Nat) (hk : k < 64) (w : World) (hT : TzAt w) : Calls Tryd.prog 27 #[.int .u64 ((2 ^ k : Nat) : Int)] w fun e w' => e = .returned (.int .i64 k) ∧ w' = w := by
  obtain ⟨hi, htab⟩ := Lib.deBruijn64_at k hk
  have hcell := hT _ hi
  rw [htab] at hcell
  have hp : 0 < 2 ^ k := Nat.two_pow_pos k
  exact tz_core (2 ^ k) k _ w (by generalize 2 ^ k = z at *; simp; omega) (tz_key k hk) hi hk hcell
theorem has_word (S : LS) (b : Nat) : (bits BinOp.and IntKind.u64 ((wd S (b / 64) : Int) / 2 ^ (b % 64)) 1 == 1) = S b := by
  have h := wd_lt S (b / 64)
  have hb := wd_bit S (b / 64) (b % 64)
  have hm : b % 64 < 64 := Nat.mod_lt _ (by omega)
  rw [decide_eq_true hm, Bool.true_and, show 64 * (b / 64) + b % 64 = b by omega] at hb
  have e : ((wd S (b / 64) : Int) / 2 ^ (b % 64)) = ((wd S (b / 64) / 2 ^ (b % 64) : Nat) : Int) := by simp
  have hlt : wd S (b / 64) / 2 ^ (b % 64) < 18446744073709551616 := Nat.lt_of_le_of_lt (Nat.div_le_self _ _) h
  rw [e, show (1 : Int) = ((1 : Nat) : Int) from rfl, u64_and_nat _ _ hlt (by omega)]
  rw [← hb, Nat.testBit_eq_decide_div_mod_eq, Nat.and_one_is_mod]
  generalize wd S (b / 64) / 2 ^ (b % 64) = z
  rw [Bool.eq_iff_iff]
  simp
  omega
theorem has_any (S : LS) (b : Nat) (hb : b < 256) (w : World) : Calls Tryd.prog 68 #[lsV S, .int .u8 b] w fun e w' => e = .returned (.bool (S b)) ∧ w' = w.alloc (.cells (lsC S).toArray 24) := by
  have hk := has_word S b
  have hB := LBlk.mk w S w.heap.size rfl
  have hq : b / 64 < 4 := by omega
  have e1 := hB.at_ hq
  obtain ⟨w1, hw1⟩ : ∃ w1, w1 = w.alloc (.cells (lsC S).toArray 24) := ⟨_, rfl⟩
  rw [← hw1] at e1
  rw [← hw1]
  have HW1 := Lib.hid hw1
  clear hB hw1
  unfold lsV
  go_enter Tryd.func68, Tryd.ntmps68
  go_upto_region 1 with (fail)
  rw [← HW1.out]
  go_wp2_with fail
  go_ret
  exact ⟨rfl, rfl⟩
end Go.Proofs.YtpiagfmjekcncaaDoor
namespace Go.Proofs.YtpiagfmjekcncaaDoor
open Go.RowKit
/-- The cells of an automaton: how many positions, which read a letter, which follow a position. -/
def aL (n : Nat) (R H : Nat → Nat) : List Value := .int .i64 (n : Int) :: ((List.range 256).map (fun b => .int .u64 (R b : Nat)) ++ (List.range 64).map (fun i => .int .u64 (H i : Nat)))
def aC (n : Nat) (R H : Nat → Nat) : Array Value := (aL n R H).toArray
section
variable {n b i : Nat} {R H : Nat → Nat}
theorem aL_len : (aL n R H).length = 321 := by unfold aL; simp
theorem aL_n : (aL n R H)[0]? = some (.int .i64 n) := rfl
theorem aL_R (hb : b < 256) : (aL n R H)[1 + b]? = some (.int .u64 (R b : Nat)) := by
  unfold aL
  rw [Nat.add_comm, List.getElem?_cons_succ, List.getElem?_append_left (by simpa using hb), List.getElem?_map, List.getElem?_range hb]
  rfl
theorem aL_H (hi : i < 64) : (aL n R H)[257 + i]? = some (.int .u64 (H i : Nat)) := by
  unfold aL
  rw [show 257 + i = (256 + i) + 1 by omega, List.getElem?_cons_succ, List.getElem?_append_right (by simp), List.length_map, List.length_range, show 256 + i - 256 = i by omega, List.getElem?_map, List.getElem?_range hi]
  rfl
def updN (f : Nat → Nat) (i x : Nat) : Nat → Nat := fun j => if j = i then x else f j
theorem range_set {α : Type} (f : Nat → α) (m i : Nat) (x : α) : ((List.range m).map f).set i x = (List.range m).map (fun j => if j = i then x else f j) := by
  apply List.ext_getElem?
  intro j
  rw [List.getElem?_set, List.getElem?_map, List.getElem?_map, List.length_map, List.length_range]
  by_cases hj : j < m
  · rw [List.getElem?_range hj]
    by_cases h : i = j
    · subst h; simp [hj]
    · rw [if_neg h]; simp [Ne.symm h]
  · have : (List.range m)[j]? = none := List.getElem?_eq_none (by simp; omega)
    rw [this]
    by_cases h : i = j
    · subst h; simp [hj]
    · rw [if_neg h]; simp
theorem aC_setn (m : Nat) : (aC n R H).setIfInBounds 0 (.int .i64 (m : Int)) = aC m R H := by
  unfold aC aL
  rw [List.setIfInBounds_toArray, List.set_cons_zero]
theorem aC_setR (hb : b < 256) (x : Nat) : (aC n R H).setIfInBounds (1 + b) (.int .u64 (x : Int)) = aC n (updN R b x) H := by
  unfold aC aL
  rw [List.setIfInBounds_toArray, Nat.add_comm, List.set_cons_succ, List.set_append_left _ _ (by simpa using hb), range_set]
  congr 4
  funext j
  unfold updN
  split <;> rfl
theorem aC_setH (x : Nat) : (aC n R H).setIfInBounds (257 + i) (.int .u64 (x : Int)) = aC n R (updN H i x) := by
  unfold aC aL
  rw [List.setIfInBounds_toArray, show 257 + i = (256 + i) + 1 by omega, List.set_cons_succ, List.set_append_right _ _ (by simp), List.length_map, List.length_range, show 256 + i - 256 = i by omega, range_set]
  congr 4
  funext j
  unfold updN
  split <;> rfl
end
def AutAt (w : World) (g n : Nat) (R H : Nat → Nat) : Prop := Blk w g 69 (aC n R H)
section
variable {w : World} {g n b i : Nat} {R H : Nat → Nat}
theorem AutAt.lt (h : AutAt w g n R H) : g < w.heap.size := Blk.lt h
theorem AutAt.n_ (h : AutAt w g n R H) : w.cell? ⟨g, 0, none⟩ = some (.int .i64 n) := (Blk.cell h 0).trans (by unfold aC; rw [List.getElem?_toArray]; exact aL_n)
theorem AutAt.R_ (h : AutAt w g n R H) (hb : b < 256) : w.cell? ⟨g, 1 + b, none⟩ = some (.int .u64 (R b : Nat)) := (Blk.cell h _).trans (by unfold aC; rw [List.getElem?_toArray]; exact aL_R hb)
theorem AutAt.H_ (h : AutAt w g n R H) (hi : i < 64) : w.cell? ⟨g, 257 + i, none⟩ = some (.int .u64 (H i : Nat)) := (Blk.cell h _).trans (by unfold aC; rw [List.getElem?_toArray]; exact aL_H hi)
theorem AutAt.fr (h : AutAt w g n R H) (j : Nat) : w.frozen? ⟨g, j, none⟩ = false := Blk.frozen h j
theorem AutAt.setn (h : AutAt w g n R H) (m : Nat) : AutAt (w.setCell ⟨g, 0, none⟩ (.int .i64 (m : Int))) g m R H := by
  have := Blk.set_ h 0 (.int .i64 (m : Int)); rw [aC_setn] at this; exact this
theorem AutAt.setR (h : AutAt w g n R H) (hb : b < 256) (x : Nat) : AutAt (w.setCell ⟨g, 1 + b, none⟩ (.int .u64 (x : Int))) g n (updN R b x) H := by
  have := Blk.set_ h (1 + b) (.int .u64 (x : Int)); rw [aC_setR hb] at this; exact this
theorem AutAt.setH (h : AutAt w g n R H) (i x : Nat) : AutAt (w.setCell ⟨g, 257 + i, none⟩ (.int .u64 (x : Int))) g n R (updN H i x) := by
  have := Blk.set_ h (257 + i) (.int .u64 (x : Int)); rw [aC_setH] at this; exact this
theorem AutAt.kept {F : Nat → Prop} {w' : World} (h : AutAt w g n R H) (k : Kept F w w') (hF : ¬ F g) : AutAt w' g n R H := Blk.kept h k hF
theorem AutAt.below {B : Nat} {w' : World} (h : AutAt w g n R H) (hb : Below B w w') (hB : g < B) : AutAt w' g n R H := Blk.below h hb hB
theorem AutAt.alloc (h : AutAt w g n R H) (o : Obj) : AutAt (w.alloc o) g n R H := Blk.alloc h o
theorem AutAt.drew (h : AutAt w g n R H) : AutAt w.drew g n R H := h
theorem AutAt.far (h : AutAt w g n R H) {p : Addr} (hp : g ≠ p.block) (u : Value) : AutAt (w.setCell p u) g n R H := Blk.far h hp u
end
theorem connect_none (g y : Nat) (w : World) : Calls Tryd.prog 54 #[.pointer (some ⟨g, 0, none⟩), .int .u64 0, .int .u64 y] w fun e w' => e = .returned (.tuple #[]) ∧ w' = w := by
  go_enter Tryd.func54, Tryd.ntmps54
  go_wp2_with fail
  go_loopg [1] 1 (fun f x wr => x = .int .u64 0 ∧ w = wr)
  case atStart => exact ⟨rfl, rfl⟩
  case round =>
    obtain ⟨rfl, rfl⟩ := hrel
    go_wp2_with fail
    go_end0
    exact ⟨rfl, rfl⟩
theorem pow_minus (k : Nat) (hk : k < 64) : bits BinOp.and IntKind.u64 ((2 ^ k : Nat) : Int) (IntKind.u64.wrap (((2 ^ k : Nat) : Int) - 1)) = 0 := by
  have hx : 2 ^ k < 18446744073709551616 := Nat.pow_lt_pow_right (by omega) hk
  have hp : 0 < 2 ^ k := Nat.two_pow_pos k
  have e1 : IntKind.u64.wrap (((2 ^ k : Nat) : Int) - 1) = ((2 ^ k - 1 : Nat) : Int) := by
    rw [IntKind.wrap_u64]
    generalize 2 ^ k = z at *
    omega
  rw [e1, u64_and_nat _ _ hx (by omega), Nat.and_two_pow_sub_one_eq_mod, Nat.mod_self]
  rfl
set_option maxRecDepth 100000 in
set_option maxHeartbeats 4000000 in
theorem connect_one (k : Nat) (hk : k < 64) (g n y : Nat) (R H : Nat → Nat) (w : World) (h : AutAt w g n R H) (hT : TzAt w) (hg : g ≠ 0) (hy : y < 18446744073709551616) (hH : H k < 18446744073709551616) :
    Calls Tryd.prog 54 #[.pointer (some ⟨g, 0, none⟩), .int .u64 ((2 ^ k : Nat) : Int), .int .u64 y] w fun e w' => e = .returned (.tuple #[]) ∧ AutAt w' g n R (updN H k (H k ||| y)) ∧ Kept (isG g) w w' := by
  have hki : (k : Int) < 64 := by omega
  have hor := u64_or_nat _ _ hH hy
  have hm := pow_minus k hk
  have hp : 0 < 2 ^ k := Nat.two_pow_pos k
  have htz := tz_any k hk w.drew hT
  obtain ⟨z, hz⟩ : ∃ z, z = 2 ^ k := ⟨_, rfl⟩
  rw [← hz] at hm hp htz
  rw [← hz]
  have e0 : ((z : Int) == 0) = false := by simp; omega
  have e0' : ((z : Int) != 0) = true := by simp; omega
  have c1 := h.H_ hk
  have q1 := h.fr (257 + k)
  have HA := Lib.hid (h.setH k (H k ||| y)).drew
  have HK := Lib.hid ((Kept.refl (isG g) w).setCell (p := ⟨g, 257 + k, none⟩) (.inl rfl) (.int .u64 ((H k ||| y : Nat) : Int))).drew
  obtain ⟨x, hx⟩ : ∃ x, x = H k ||| y := ⟨_, rfl⟩
  rw [← hx] at HA HK hor ⊢
  obtain ⟨v, hv⟩ : ∃ v, v = H k := ⟨_, rfl⟩
  rw [← hv] at c1 hor
  clear h hT hg hy hH hz hx hv hp
  go_enter Tryd.func54, Tryd.ntmps54
  go_wp2_with fail
  go_loopg [1] 2 (fun f t wr => (f = 2 ∧ t = .int .u64 z ∧ w = wr) ∨ (f = 1 ∧ t = .int .u64 0 ∧ Hid (AutAt wr g n R (updN H k x)) ∧ Hid (Kept (isG g) w wr)))
  case atStart => exact .inl ⟨rfl, rfl, rfl⟩
  case round =>
    rcases hrel with ⟨rfl, rfl, rfl⟩ | ⟨rfl, rfl, hA, hK⟩
    · go_wp2_with fail
      refine wp_region_still_tail 12 (by kernel_rfl) (by kernel_rfl) ?_
      simp only [List.take_succ_cons, List.take_zero, List.drop_succ_cons, List.drop_zero]
      iterate 2 still_step
      still_call htz
      repeat still_step
      try refine wpStill_nil ?_
      go_wp2_with fail
      go_roundg 1
      case measure => omega
      case rel => exact .inr ⟨rfl, rfl, HA, HK⟩
    · clear HA HK
      go_wp2_with fail
      go_end0
      exact ⟨rfl, hA.out, hK.out⟩
end Go.Proofs.YtpiagfmjekcncaaDoor
namespace Go.Proofs.YtpiagfmjekcncaaDoor
open Go.RowKit
set_option maxRecDepth 100000 in
set_option maxHeartbeats 4000000 in
theorem join_start  (fy ly g n : Nat) (R H : Nat → Nat) (w : World) (h : AutAt w g n R H) (hf : fy < 18446744073709551616) :
    Calls Tryd.prog 45 #[.pointer (some ⟨g, 0, none⟩), .agg #[.bool true, .int .u64 0, .int .u64 0], .agg #[.bool false, .int .u64 fy, .int .u64 ly]] w fun e w' => e = .returned (.agg #[.bool false, .int .u64 fy, .int .u64 ly]) ∧ AutAt w' g n R H ∧ Kept (isG g) w w' := by
  have hg := h.lt
  have hor : bits BinOp.or IntKind.u64 0 (fy : Int) = (fy : Int) := by
    have := u64_or_nat 0 fy (by omega) hf
    rw [Nat.zero_or] at this
    exact this
  clear hf
  have hX : Blk (((w.alloc (.cells #[.bool true, .int .u64 0, .int .u64 0] 71)).alloc (.cells #[.bool false, .int .u64 fy, .int .u64 ly] 71)).alloc (.cells #[.bool false, .int .u64 0, .int .u64 0] 71)) w.heap.size 71 #[.bool true, .int .u64 0, .int .u64 0] := Blk.alloc (Blk.alloc (Blk.new w _ _) _) _
  have hY : Blk (((w.alloc (.cells #[.bool true, .int .u64 0, .int .u64 0] 71)).alloc (.cells #[.bool false, .int .u64 fy, .int .u64 ly] 71)).alloc (.cells #[.bool false, .int .u64 0, .int .u64 0] 71)) (w.heap.size + 1) 71 #[.bool false, .int .u64 fy, .int .u64 ly] := Blk.alloc (by have := Blk.new (w.alloc (.cells #[.bool true, .int .u64 0, .int .u64 0] 71)) 71 #[.bool false, .int .u64 fy, .int .u64 ly]; rw [show (w.alloc (.cells #[.bool true, .int .u64 0, .int .u64 0] 71)).heap.size = w.heap.size + 1 by simp] at this; exact this) _
  have hZ : Blk (((w.alloc (.cells #[.bool true, .int .u64 0, .int .u64 0] 71)).alloc (.cells #[.bool false, .int .u64 fy, .int .u64 ly] 71)).alloc (.cells #[.bool false, .int .u64 0, .int .u64 0] 71)) (w.heap.size + 2) 71 #[.bool false, .int .u64 0, .int .u64 0] := by
    have := Blk.new ((w.alloc (.cells #[.bool true, .int .u64 0, .int .u64 0] 71)).alloc (.cells #[.bool false, .int .u64 fy, .int .u64 ly] 71)) 71 #[.bool false, .int .u64 0, .int .u64 0]
    rw [show ((w.alloc (.cells #[.bool true, .int .u64 0, .int .u64 0] 71)).alloc (.cells #[.bool false, .int .u64 fy, .int .u64 ly] 71)).heap.size = w.heap.size + 2 by simp] at this
    exact this
  have hA : AutAt (((w.alloc (.cells #[.bool true, .int .u64 0, .int .u64 0] 71)).alloc (.cells #[.bool false, .int .u64 fy, .int .u64 ly] 71)).alloc (.cells #[.bool false, .int .u64 0, .int .u64 0] 71)) g n R H := ((h.alloc _).alloc _).alloc _
  have hK : Kept (isG g) w (((w.alloc (.cells #[.bool true, .int .u64 0, .int .u64 0] 71)).alloc (.cells #[.bool false, .int .u64 fy, .int .u64 ly] 71)).alloc (.cells #[.bool false, .int .u64 0, .int .u64 0] 71)) := (((Kept.refl (isG g) w).alloc _).alloc _).alloc _
  obtain ⟨w1, hw1⟩ : ∃ w1, w1 = ((w.alloc (.cells #[.bool true, .int .u64 0, .int .u64 0] 71)).alloc (.cells #[.bool false, .int .u64 fy, .int .u64 ly] 71)).alloc (.cells #[.bool false, .int .u64 0, .int .u64 0] 71) := ⟨_, rfl⟩
  rw [← hw1] at hX hY hZ hA hK
  have hs1 : w1.heap.size = w.heap.size + 3 := by rw [hw1]; simp
  have hC : Calls Tryd.prog 54 #[.pointer (some ⟨g, 0, none⟩), .int .u64 0, .int .u64 fy] w1 fun e w' => e = .returned (.tuple #[]) ∧ AutAt w' g n R H ∧ Kept (isG g) w1 w' := (connect_none g fy w1).mono (by rintro e w' ⟨rfl, rfl⟩; exact ⟨rfl, hA, Kept.refl _ _⟩)
  have x0 := Blk.cell hX 0; have x1 := Blk.cell hX 1; have x2 := Blk.cell hX 2
  have y0 := Blk.cell hY 0; have y1 := Blk.cell hY 1; have y2 := Blk.cell hY 2
  simp only [List.getElem?_toArray, List.getElem?_cons_zero, List.getElem?_cons_succ] at x0 x1 x2 y0 y1 y2
  have HX := Lib.hid hX
  have HY := Lib.hid hY
  have HZ := Lib.hid hZ
  have HK := Lib.hid hK
  have HC := Lib.hid hC
  have HW1 := Lib.hid hw1
  clear hX hY hZ hA hK hC hw1 h
  go_enter Tryd.func45, Tryd.ntmps45
  go_upto_region 1 with (fail)
  rw [← HW1.out]
  clear HW1
  go_wp2_with fail
  refine HC.out.mono ?_
  rintro ee w2 ⟨rfl, hA2, hK2⟩
  have hs2 := hK2.size
  have hX2 := HX.out.kept hK2 (fun e => by have e' : w.heap.size = g := e; omega)
  have hY2 := HY.out.kept hK2 (fun e => by have e' : w.heap.size + 1 = g := e; omega)
  have hZ2 := HZ.out.kept hK2 (fun e => by have e' : w.heap.size + 2 = g := e; omega)
  have hK2' := HK.out.then_ hK2
  clear HX HY HZ HK HC x0 x1 x2 y0 y1 y2
  have x0 := Blk.cell hX2 0; have x1 := Blk.cell hX2 1; have x2 := Blk.cell hX2 2
  have y0 := Blk.cell hY2 0; have y1 := Blk.cell hY2 1; have y2 := Blk.cell hY2 2
  simp only [List.getElem?_toArray, List.getElem?_cons_zero, List.getElem?_cons_succ] at x0 x1 x2 y0 y1 y2
  have hX3 := Blk.alloc hX2 (.cells #[.bool false, .int .u64 0, .int .u64 ly] 71)
  have hY3 := Blk.alloc hY2 (.cells #[.bool false, .int .u64 0, .int .u64 ly] 71)
  have hZ3 := Blk.alloc hZ2 (.cells #[.bool false, .int .u64 0, .int .u64 ly] 71)
  have hN3 := Blk.new w2 71 #[.bool false, .int .u64 0, .int .u64 ly]
  have hA3 := hA2.alloc (.cells #[.bool false, .int .u64 0, .int .u64 ly] 71)
  have hK3 := hK2'.alloc (.cells #[.bool false, .int .u64 0, .int .u64 ly] 71)
  obtain ⟨B, hB⟩ : ∃ B, B = w2.heap.size := ⟨_, rfl⟩
  obtain ⟨w3, hw3⟩ : ∃ w3, w3 = w2.alloc (.cells #[.bool false, .int .u64 0, .int .u64 ly] 71) := ⟨_, rfl⟩
  rw [← hw3] at hX3 hY3 hZ3 hN3 hA3 hK3
  rw [← hB] at hN3
  have HW3 := Lib.hid hw3
  have HBQ := Lib.hid hB
  have hBs : w.heap.size + 3 ≤ B := by omega
  go_upto_region 3 with (fail)
  rw [← HW3.out, ← HBQ.out]
  clear x0 x1 x2 y0 y1 y2 HW3 HBQ hw3 hB hX2 hY2 hZ2 hK2' hA2 hK2 hs2 hs1
  have x0 := Blk.cell hX3 0; have x1 := Blk.cell hX3 1; have x2 := Blk.cell hX3 2
  have y0 := Blk.cell hY3 0; have y1 := Blk.cell hY3 1; have y2 := Blk.cell hY3 2
  have n0 := Blk.cell hN3 0; have n1 := Blk.cell hN3 1; have n2 := Blk.cell hN3 2
  have q1 := Blk.frozen hN3 1
  have z0 := Blk.frozen hZ3 0; have z1 := Blk.frozen hZ3 1; have z2 := Blk.frozen hZ3 2
  have v0 := Blk.cell hZ3 0; have v1 := Blk.cell hZ3 1; have v2 := Blk.cell hZ3 2
  simp only [List.getElem?_toArray, List.getElem?_cons_zero, List.getElem?_cons_succ] at x0 x1 x2 y0 y1 y2 n0 n1 n2 v0 v1 v2
  have hZ4 := Blk.far hZ3 (p := ⟨B, 1, none⟩) (by show w.heap.size + 2 ≠ B; omega) (.int .u64 fy)
  have hA4 := hA3.far (p := ⟨B, 1, none⟩) (by show g ≠ B; omega) (.int .u64 fy)
  have hK4 := hK3.setCell (p := ⟨B, 1, none⟩) (.inr (by show w.heap.size ≤ B; omega)) (.int .u64 fy)
  have hZ5 := Blk.set_ (Blk.set_ (Blk.set_ hZ4 0 (.bool false)) 1 (.int .u64 fy)) 2 (.int .u64 ly)
  have hA5 := ((hA4.far (p := ⟨w.heap.size + 2, 0, none⟩) (by show g ≠ w.heap.size + 2; omega) (.bool false)).far (p := ⟨w.heap.size + 2, 1, none⟩) (by show g ≠ w.heap.size + 2; omega) (.int .u64 fy)).far (p := ⟨w.heap.size + 2, 2, none⟩) (by show g ≠ w.heap.size + 2; omega) (.int .u64 ly)
  have hK5 := ((hK4.setCell (p := ⟨w.heap.size + 2, 0, none⟩) (.inr (by show w.heap.size ≤ w.heap.size + 2; omega)) (.bool false)).setCell (p := ⟨w.heap.size + 2, 1, none⟩) (.inr (by show w.heap.size ≤ w.heap.size + 2; omega)) (.int .u64 fy)).setCell (p := ⟨w.heap.size + 2, 2, none⟩) (.inr (by show w.heap.size ≤ w.heap.size + 2; omega)) (.int .u64 ly)
  have d0 := Blk.cell hZ5 0; have d1 := Blk.cell hZ5 1; have d2 := Blk.cell hZ5 2
  have HA5 := Lib.hid hA5
  have HK5 := Lib.hid hK5
  have HD := Lib.hid (And.intro d0 (And.intro d1 d2))
  clear d0 d1 d2 hZ5 hA5 hK5 hZ4 hA4 hK4 hX3 hY3 hZ3 hN3 hA3 hK3
  go_wp2_with fail
  obtain ⟨d0, d1, d2⟩ := HD.out
  simp at d0 d1 d2
  refine bodyPost_ret (v := .agg #[.bool false, .int .u64 fy, .int .u64 ly]) (by simp [results, Tryd.results45, go_sem, d0, d1, d2]) rfl ?_
  exact ⟨rfl, HA5.out, HK5.out⟩
set_option maxRecDepth 100000 in
set_option maxHeartbeats 4000000 in
theorem join_step (k fx : Nat) (hk : k < 64) (fy ly g n : Nat) (R H : Nat → Nat) (w : World) (h : AutAt w g n R H) (hT : TzAt w) (hgt : g ≠ 0) (hf : fy < 18446744073709551616) (hH : H k < 18446744073709551616) :
    Calls Tryd.prog 45 #[.pointer (some ⟨g, 0, none⟩), .agg #[.bool false, .int .u64 fx, .int .u64 ((2 ^ k : Nat) : Int)], .agg #[.bool false, .int .u64 fy, .int .u64 ly]] w fun e w' => e = .returned (.agg #[.bool false, .int .u64 fx, .int .u64 ly]) ∧ AutAt w' g n R (updN H k (H k ||| fy)) ∧ Kept (isG g) w w' := by
  have hg := h.lt
  obtain ⟨z, hz⟩ : ∃ z, z = 2 ^ k := ⟨_, rfl⟩
  obtain ⟨H2, hH2⟩ : ∃ H2, H2 = updN H k (H k ||| fy) := ⟨_, rfl⟩
  rw [← hz, ← hH2]
  have hX : Blk (((w.alloc (.cells #[.bool false, .int .u64 fx, .int .u64 (z : Int)] 71)).alloc (.cells #[.bool false, .int .u64 fy, .int .u64 ly] 71)).alloc (.cells #[.bool false, .int .u64 0, .int .u64 0] 71)) w.heap.size 71 #[.bool false, .int .u64 fx, .int .u64 (z : Int)] := Blk.alloc (Blk.alloc (Blk.new w _ _) _) _
  have hY : Blk (((w.alloc (.cells #[.bool false, .int .u64 fx, .int .u64 (z : Int)] 71)).alloc (.cells #[.bool false, .int .u64 fy, .int .u64 ly] 71)).alloc (.cells #[.bool false, .int .u64 0, .int .u64 0] 71)) (w.heap.size + 1) 71 #[.bool false, .int .u64 fy, .int .u64 ly] := Blk.alloc (by have := Blk.new (w.alloc (.cells #[.bool false, .int .u64 fx, .int .u64 (z : Int)] 71)) 71 #[.bool false, .int .u64 fy, .int .u64 ly]; rw [show (w.alloc (.cells #[.bool false, .int .u64 fx, .int .u64 (z : Int)] 71)).heap.size = w.heap.size + 1 by simp] at this; exact this) _
  have hZ : Blk (((w.alloc (.cells #[.bool false, .int .u64 fx, .int .u64 (z : Int)] 71)).alloc (.cells #[.bool false, .int .u64 fy, .int .u64 ly] 71)).alloc (.cells #[.bool false, .int .u64 0, .int .u64 0] 71)) (w.heap.size + 2) 71 #[.bool false, .int .u64 0, .int .u64 0] := by
    have := Blk.new ((w.alloc (.cells #[.bool false, .int .u64 fx, .int .u64 (z : Int)] 71)).alloc (.cells #[.bool false, .int .u64 fy, .int .u64 ly] 71)) 71 #[.bool false, .int .u64 0, .int .u64 0]
    rw [show ((w.alloc (.cells #[.bool false, .int .u64 fx, .int .u64 (z : Int)] 71)).alloc (.cells #[.bool false, .int .u64 fy, .int .u64 ly] 71)).heap.size = w.heap.size + 2 by simp] at this
    exact this
  have hA : AutAt (((w.alloc (.cells #[.bool false, .int .u64 fx, .int .u64 (z : Int)] 71)).alloc (.cells #[.bool false, .int .u64 fy, .int .u64 ly] 71)).alloc (.cells #[.bool false, .int .u64 0, .int .u64 0] 71)) g n R H := ((h.alloc _).alloc _).alloc _
  have hK : Kept (isG g) w (((w.alloc (.cells #[.bool false, .int .u64 fx, .int .u64 (z : Int)] 71)).alloc (.cells #[.bool false, .int .u64 fy, .int .u64 ly] 71)).alloc (.cells #[.bool false, .int .u64 0, .int .u64 0] 71)) := (((Kept.refl (isG g) w).alloc _).alloc _).alloc _
  obtain ⟨w1, hw1⟩ : ∃ w1, w1 = ((w.alloc (.cells #[.bool false, .int .u64 fx, .int .u64 (z : Int)] 71)).alloc (.cells #[.bool false, .int .u64 fy, .int .u64 ly] 71)).alloc (.cells #[.bool false, .int .u64 0, .int .u64 0] 71) := ⟨_, rfl⟩
  rw [← hw1] at hX hY hZ hA hK
  have hs1 : w1.heap.size = w.heap.size + 3 := by rw [hw1]; simp
  have hT1 : TzAt w1 := hT.kept hK (fun e => hgt e.symm)
  have hC : Calls Tryd.prog 54 #[.pointer (some ⟨g, 0, none⟩), .int .u64 z, .int .u64 fy] w1 fun e w' => e = .returned (.tuple #[]) ∧ AutAt w' g n R H2 ∧ Kept (isG g) w1 w' := by
    rw [hz, hH2]; exact connect_one k hk g n fy R H w1 hA hT1 hgt hf hH
  clear hT hT1 hgt hf hH hz hH2
  have x0 := Blk.cell hX 0; have x1 := Blk.cell hX 1; have x2 := Blk.cell hX 2
  have y0 := Blk.cell hY 0; have y1 := Blk.cell hY 1; have y2 := Blk.cell hY 2
  simp only [List.getElem?_toArray, List.getElem?_cons_zero, List.getElem?_cons_succ] at x0 x1 x2 y0 y1 y2
  have HX := Lib.hid hX
  have HY := Lib.hid hY
  have HZ := Lib.hid hZ
  have HK := Lib.hid hK
  have HC := Lib.hid hC
  have HW1 := Lib.hid hw1
  clear hX hY hZ hA hK hC hw1 h
  go_enter Tryd.func45, Tryd.ntmps45
  go_upto_region 1 with (fail)
  rw [← HW1.out]
  clear HW1
  go_wp2_with fail
  refine HC.out.mono ?_
  rintro ee w2 ⟨rfl, hA2, hK2⟩
  have hs2 := hK2.size
  have hX2 := HX.out.kept hK2 (fun e => by have e' : w.heap.size = g := e; omega)
  have hY2 := HY.out.kept hK2 (fun e => by have e' : w.heap.size + 1 = g := e; omega)
  have hZ2 := HZ.out.kept hK2 (fun e => by have e' : w.heap.size + 2 = g := e; omega)
  have hK2' := HK.out.then_ hK2
  clear HX HY HZ HK HC x0 x1 x2 y0 y1 y2
  have x0 := Blk.cell hX2 0; have x1 := Blk.cell hX2 1; have x2 := Blk.cell hX2 2
  have y0 := Blk.cell hY2 0; have y1 := Blk.cell hY2 1; have y2 := Blk.cell hY2 2
  simp only [List.getElem?_toArray, List.getElem?_cons_zero, List.getElem?_cons_succ] at x0 x1 x2 y0 y1 y2
  have hX3 := Blk.alloc hX2 (.cells #[.bool false, .int .u64 fx, .int .u64 ly] 71)
  have hY3 := Blk.alloc hY2 (.cells #[.bool false, .int .u64 fx, .int .u64 ly] 71)
  have hZ3 := Blk.alloc hZ2 (.cells #[.bool false, .int .u64 fx, .int .u64 ly] 71)
  have hN3 := Blk.new w2 71 #[.bool false, .int .u64 fx, .int .u64 ly]
  have hA3 := hA2.alloc (.cells #[.bool false, .int .u64 fx, .int .u64 ly] 71)
  have hK3 := hK2'.alloc (.cells #[.bool false, .int .u64 fx, .int .u64 ly] 71)
  obtain ⟨B, hB⟩ : ∃ B, B = w2.heap.size := ⟨_, rfl⟩
  obtain ⟨w3, hw3⟩ : ∃ w3, w3 = w2.alloc (.cells #[.bool false, .int .u64 fx, .int .u64 ly] 71) := ⟨_, rfl⟩
  rw [← hw3] at hX3 hY3 hZ3 hN3 hA3 hK3
  rw [← hB] at hN3
  have HW3 := Lib.hid hw3
  have HBQ := Lib.hid hB
  have hBs : w.heap.size + 3 ≤ B := by omega
  go_upto_region 3 with (fail)
  rw [← HW3.out, ← HBQ.out]
  clear x0 x1 x2 y0 y1 y2 HW3 HBQ hw3 hB hX2 hY2 hZ2 hK2' hA2 hK2 hs2 hs1
  have x0 := Blk.cell hX3 0; have x1 := Blk.cell hX3 1; have x2 := Blk.cell hX3 2
  have y0 := Blk.cell hY3 0; have y1 := Blk.cell hY3 1; have y2 := Blk.cell hY3 2
  have n0 := Blk.cell hN3 0; have n1 := Blk.cell hN3 1; have n2 := Blk.cell hN3 2
  have q1 := Blk.frozen hN3 1
  have z0 := Blk.frozen hZ3 0; have z1 := Blk.frozen hZ3 1; have z2 := Blk.frozen hZ3 2
  have v0 := Blk.cell hZ3 0; have v1 := Blk.cell hZ3 1; have v2 := Blk.cell hZ3 2
  simp only [List.getElem?_toArray, List.getElem?_cons_zero, List.getElem?_cons_succ] at x0 x1 x2 y0 y1 y2 n0 n1 n2 v0 v1 v2
  have hZ4 := hZ3
  have hA4 := hA3
  have hK4 := hK3
  have hZ5 := Blk.set_ (Blk.set_ (Blk.set_ hZ4 0 (.bool false)) 1 (.int .u64 fx)) 2 (.int .u64 ly)
  have hA5 := ((hA4.far (p := ⟨w.heap.size + 2, 0, none⟩) (by show g ≠ w.heap.size + 2; omega) (.bool false)).far (p := ⟨w.heap.size + 2, 1, none⟩) (by show g ≠ w.heap.size + 2; omega) (.int .u64 fx)).far (p := ⟨w.heap.size + 2, 2, none⟩) (by show g ≠ w.heap.size + 2; omega) (.int .u64 ly)
  have hK5 := ((hK4.setCell (p := ⟨w.heap.size + 2, 0, none⟩) (.inr (by show w.heap.size ≤ w.heap.size + 2; omega)) (.bool false)).setCell (p := ⟨w.heap.size + 2, 1, none⟩) (.inr (by show w.heap.size ≤ w.heap.size + 2; omega)) (.int .u64 fx)).setCell (p := ⟨w.heap.size + 2, 2, none⟩) (.inr (by show w.heap.size ≤ w.heap.size + 2; omega)) (.int .u64 ly)
  have d0 := Blk.cell hZ5 0; have d1 := Blk.cell hZ5 1; have d2 := Blk.cell hZ5 2
  have HA5 := Lib.hid hA5
  have HK5 := Lib.hid hK5
  have HD := Lib.hid (And.intro d0 (And.intro d1 d2))
  clear d0 d1 d2 hZ5 hA5 hK5 hZ4 hA4 hK4 hX3 hY3 hZ3 hN3 hA3 hK3
  go_wp2_with fail
  obtain ⟨d0, d1, d2⟩ := HD.out
  simp at d0 d1 d2
  refine bodyPost_ret (v := .agg #[.bool false, .int .u64 fx, .int .u64 ly]) (by simp [results, Tryd.results45, go_sem, d0, d1, d2]) rfl ?_
  exact ⟨rfl, HA5.out, HK5.out⟩
end Go.Proofs.YtpiagfmjekcncaaDoor
