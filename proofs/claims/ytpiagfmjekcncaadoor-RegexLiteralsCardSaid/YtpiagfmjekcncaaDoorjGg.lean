/- The walk of the document's Of: the set of four words. -/
import Derived.Test.YtpiagfmjekcncaaDoorjGf
set_option linter.unusedVariables false
set_option linter.unusedSimpArgs false
set_option linter.unusedSectionVars false
namespace Go.Proofs.YtpiagfmjekcncaaDoor
open Go.RowKit
/-- The first i letters of a set, no other. -/
def ofUp (S : LS) (i : Nat) : LS := fun n => if n < i then S n else false
theorem ofUp_end (S : LS) : setA (ofUp S 256) = setA S := setA_congr fun i hi => by unfold ofUp; rw [if_pos hi]
theorem ofUp_zero (S : LS) : setA (ofUp S 0) = setA noneS := setA_congr fun i _ => by unfold ofUp noneS; rw [if_neg (by omega)]
theorem ofUp_step (S : LS) (i : Nat) (hi : i < 256) : (setA (ofUp S i)).setIfInBounds i (.bool (S i)) = setA (ofUp S (i + 1)) := by
  rw [setA_set _ _ hi]
  refine setA_congr fun n _ => ?_
  unfold ofUp
  by_cases h : n = i
  · subst h; rw [if_pos rfl, if_pos (by omega)]
  · rw [if_neg h]
    by_cases h2 : n < i
    · rw [if_pos h2, if_pos (by omega)]
    · rw [if_neg h2, if_neg (by omega)]
def lwA (S : LS) : Array Value := #[.int .u64 (wd S 0), .int .u64 (wd S 1), .int .u64 (wd S 2), .int .u64 (wd S 3)]
theorem lwA_at (S : LS) {q : Nat} (h : q < 4) : (lwA S)[q]? = some (.int .u64 (wd S q)) := by
  have : q = 0 ∨ q = 1 ∨ q = 2 ∨ q = 3 := by omega
  rcases this with rfl | rfl | rfl | rfl <;> rfl
structure OfSt (S : LS) (w wr : World) (i : Nat) : Prop where
  a : Blk wr w.heap.size 24 (lwA S)
  r : Blk wr (w.heap.size + 1) 95 (setA noneS)
  o : Blk wr (w.heap.size + 1 + 1) 95 (setA (ofUp S i))
  b : Below w.heap.size w wr
theorem wd_test (S : LS) (i : Nat) : decide (wd S (i / 64) / 2 ^ (i % 64) % 2 = 1) = S i := by
  have h := wd_bit S (i / 64) (i % 64)
  rw [Nat.testBit_eq_decide_div_mod_eq] at h
  rw [h, decide_eq_true (by omega : i % 64 < 64), Bool.true_and, show 64 * (i / 64) + i % 64 = i by omega]
set_option maxRecDepth 100000 in
set_option maxHeartbeats 4000000 in
theorem gof_any (S : LS) (w : World) : Calls Tryd.prog 76 #[.agg (lwA S)] w fun e w' => e = .returned (.agg (setA S)) ∧ Below w.heap.size w w' := by
  obtain ⟨A, hA⟩ : ∃ A, A = lwA S := ⟨_, rfl⟩
  have HA := Lib.hid hA
  rw [← hA]
  clear hA
  go_enter Tryd.func76, Tryd.ntmps76
  go_wp2_with fail
  go_loopg [4] 257 (fun f v wr => ∃ i : Nat, v = .int .i64 i ∧ (i + f = 257 ∧ i ≤ 256) ∧ Hid (OfSt S w wr i))
  case atStart =>
    refine ⟨0, rfl, ⟨rfl, by omega⟩, Lib.hid ⟨?_, ?_, ?_, ?_⟩⟩
    · rw [← HA.out]
      exact ((Blk.new w _ A).alloc _).alloc _
    · have := (Blk.new (w.alloc (.cells A 24)) 95 Tryd.zeroCells95).alloc (.cells Tryd.zeroCells95 95)
      rw [zero_set] at this ⊢
      simpa using this
    · have := Blk.new ((w.alloc (.cells A 24)).alloc (.cells Tryd.zeroCells95 95)) 95 Tryd.zeroCells95
      rw [ofUp_zero]
      rw [zero_set] at this ⊢
      simpa using this
    · exact (((Below.refl _ w).alloc (Nat.le_refl _) _).alloc (by simp) _).alloc (by simp; omega) _
  case round =>
    obtain ⟨i, rfl, ⟨hif, hi256⟩, hst⟩ := hrel
    obtain ⟨f, rfl⟩ : ∃ f, gk = f + 1 := ⟨gk - 1, by omega⟩
    by_cases hlt : i < 256
    · have e0 : decide ((i : Int) < 256) = true := by simp; omega
      have hq4 : i / 64 < 4 := by omega
      have ca := (Blk.cell hst.out.a (i / 64)).trans (lwA_at S hq4)
      obtain ⟨wo, hwo⟩ : ∃ wo, wo = wr := ⟨_, rfl⟩
      subst hwo
      have fo := Blk.frozen hst.out.o i
      have co := (Blk.cell hst.out.o i).trans (setA_at _ i hlt)
      obtain ⟨X, hX⟩ : ∃ X, X = wd S (i / 64) := ⟨_, rfl⟩
      have hXl : X < 2 ^ 64 := by rw [hX]; exact wd_lt _ _
      have hXL : (X : Int) ≤ 18446744073709551615 := by omega
      rw [← hX] at ca
      have hT := wd_test S i
      rw [← hX] at hT
      have HT := Lib.hid hT
      clear hX hXl hT
      go_wp2_with fail
      go_loopg [5, 6] (i % 64 + 1) (fun f v5 v6 wr => ∃ j x : Nat, v5 = .int .u64 x ∧ v6 = .int .i64 j ∧ (j + f = i % 64 + 1 ∧ j ≤ i % 64 ∧ x ≤ X) ∧ Hid (x = X / 2 ^ j) ∧ wr = wo)
      case atStart => exact ⟨0, X, rfl, rfl, ⟨by omega, by omega, Nat.le_refl _⟩, Lib.hid (by simp), rfl⟩
      case round =>
        obtain ⟨j, x, rfl, rfl, ⟨h1, h2, h3⟩, hx, rfl⟩ := hrel
        obtain ⟨f2, rfl⟩ : ∃ f2, gk = f2 + 1 := ⟨gk - 1, by omega⟩
        by_cases hj : j < i % 64
        · have e1 : decide ((j : Int) < (i : Int) % 64) = true := by simp; omega
          have HX := Lib.hid (show x / 2 = X / 2 ^ (j + 1) by rw [hx.out, Nat.div_div_eq_div_mul, Nat.pow_succ])
          clear hx
          go_wp2_with fail
          go_roundg f2
          case measure => omega
          case rel => exact ⟨j + 1, x / 2, by simp, by rw [show ((j + 1 : Nat) : Int) = (j : Int) + 1 by omega], ⟨by omega, by omega, by omega⟩, HX, rfl⟩
        · obtain rfl : j = i % 64 := by omega
          have e1 : decide (((i % 64 : Nat) : Int) < (i : Int) % 64) = false := by simp
          have hv : decide (x % 2 = 1) = S i := by rw [hx.out]; exact HT.out
          have HN := Lib.hid (show OfSt S w (wr.setCell ⟨w.heap.size + 1 + 1, i, none⟩ (.bool (decide (x % 2 = 1)))) (i + 1) from by
            rw [hv]
            refine ⟨Blk.far hst.out.a (p := ⟨w.heap.size + 1 + 1, i, none⟩) (by show w.heap.size ≠ w.heap.size + 1 + 1; omega) _, Blk.far hst.out.r (p := ⟨w.heap.size + 1 + 1, i, none⟩) (by show w.heap.size + 1 ≠ w.heap.size + 1 + 1; omega) _, ?_, hst.out.b.setCell (by show w.heap.size ≤ w.heap.size + 1 + 1; omega) _⟩
            have := Blk.set_ hst.out.o i (.bool (S i))
            rw [ofUp_step S i hlt] at this
            exact this)
          have HV := Lib.hid (show ((x : Int) % 2 == 1) = decide (x % 2 = 1) by rw [Bool.eq_iff_iff]; simp; omega)
          clear hx hst hv HT
          go_wp2_with fail
          go_roundg f
          case measure => omega
          case rel => exact ⟨i + 1, by rw [show ((i + 1 : Nat) : Int) = (i : Int) + 1 by omega], ⟨by omega, by omega⟩, by rw [HV.out]; exact HN⟩
    · obtain rfl : i = 256 := by omega
      have e0 : decide (((256 : Nat) : Int) < 256) = false := by decide
      obtain ⟨h0, h2, h1, h3⟩ := hst.out
      rw [ofUp_end] at h1
      have H9 := Lib.hid (Blk.row (cs := setA S) h2)
      have HB9 := Lib.hid (below_row (cs := setA S) (g := w.heap.size + 1) h3 (by omega))
      have H1 := Lib.hid h1
      have H2 := Lib.hid h2
      clear h0 h1 h2 h3 hst
      go_wp2_with (first | refine wpList_load_row rfl 95 _ rfl (w.heap.size + 1 + 1) rfl 95 (setA S) (0, 0) _ H1.out Tryd.underlying95 rfl (set_info _) ?_ | refine wpList_store_row rfl 95 _ _ rfl (w.heap.size + 1) (setA S) rfl rfl 95 (setA noneS) H2.out (set_info _) (by rw [setA_size, setA_size]) (setA_all _) ?_)
      refine bodyPost_ret (setV_ret rfl _ _ _ _ rfl H9.out) rfl ?_
      exact ⟨rfl, HB9.out⟩
end Go.Proofs.YtpiagfmjekcncaaDoor
