/- The walk of regex.sequence. -/
import Derived.Test.YtpiagfmjekcncaaDoorjReg
set_option linter.unusedVariables false
set_option linter.unusedSimpArgs false
set_option linter.unusedSectionVars false
namespace Go.Proofs.YtpiagfmjekcncaaDoor
open Go.RowKit
/-- The cells of a tree, written out. -/
theorem RxV.eight {w : World} {F : Nat → Prop} {r : Rx} {cs : List Value} (h : RxV w F r cs) : ∃ (k : Nat) (w0 w1 w2 w3 : Nat) (lo hi : Int) (A : Option Addr) (n c : Nat), cs = [.int .i64 k, .int .u64 w0, .int .u64 w1, .int .u64 w2, .int .u64 w3, .int .i64 lo, .int .i64 hi, .slice A n c] := by
  obtain ⟨k, w0, w1, w2, w3, lo, hi, ps⟩ := r
  unfold RxV at h
  obtain ⟨A, c, css, h1, _⟩ := h
  exact ⟨k, w0, w1, w2, w3, lo, hi, A, ps.length, c, h1⟩
theorem RxV.below {w w' : World} {F : Nat → Prop} {r : Rx} {cs : List Value} (h : RxV w F r cs) (hb : Below w.heap.size w w') : RxV w' F r cs := RxV.keep (fun i _ hi => hb.block i hi) hb.size (fun _ h _ => h) r cs h
theorem RxVs.below {w w' : World} {F : Nat → Prop} {l : List Rx} {cs : List Value} (h : RxVs w F l cs) (hb : Below w.heap.size w w') : RxVs w' F l cs := RxVs.keep (fun i _ hi => hb.block i hi) hb.size (fun _ h _ => h) l cs h
theorem RdF.below {w w' : World} {F : Nat → Prop} {size n : Nat} {A : Option Addr} {xs : List Value} (h : RdF w F size A n xs) (hb : Below w.heap.size w w') : RdF w' F size A n xs := h.keep (fun i _ hi => hb.block i hi) hb.size (fun _ h _ => h)
def TEnd (w : World) (F : Nat → Prop) (r : Rx) (e : Ending) (w' : World) : Prop := ∃ cs, e = .returned (.agg cs.toArray) ∧ RxV w' F r cs ∧ Below w.heap.size w w'
theorem seq_0 (A : Option Addr) (c : Nat) (w : World) (F : Nat → Prop) : Calls Tryd.prog 23 #[.slice A 0 c] w (TEnd w F (Rx.seq [])) := by
  have hR := R8.mk0 w w.heap.size rfl
  have HF := Lib.hid (hR.all (.int .i64 1) (.int .u64 0) (.int .u64 0) (.int .u64 0) (.int .u64 0) (.int .i64 0) (.int .i64 0) (.slice none 0 0))
  have HB := Lib.hid (below_set8 ((Below.refl _ w).alloc (Nat.le_refl _) (.cells #[.int .i64 0, .int .u64 0, .int .u64 0, .int .u64 0, .int .u64 0, .int .i64 0, .int .i64 0, .slice none 0 0] 27)) (Nat.le_refl w.heap.size) (.int .i64 1) (.int .u64 0) (.int .u64 0) (.int .u64 0) (.int .u64 0) (.int .i64 0) (.int .i64 0) (.slice none 0 0))
  clear hR
  go_enter Tryd.func23, Tryd.ntmps23
  go_wp2_with fail
  refine bodyPost_ret (v := .agg #[.int .i64 1, .int .u64 0, .int .u64 0, .int .u64 0, .int .u64 0, .int .i64 0, .int .i64 0, .slice none 0 0]) (by simp [results, Tryd.results23, go_sem]) rfl ?_
  refine ⟨_, rfl, ?_, (Below.refl _ w).alloc (Nat.le_refl _) _⟩
  unfold Rx.seq Rx.empty Rx.plain RxV RxVs
  exact ⟨none, 0, [], rfl, ⟨rfl, fun h => absurd h (by simp)⟩, rfl⟩
theorem seq_1 (b o c : Nat) (w : World) (k w0 w1 w2 w3 : Nat) (lo hi : Int) (A' : Option Addr) (n' c' : Nat) (hb : b < w.heap.size) (k0 : w.cell? ⟨b, o, none⟩ = some (.int .i64 k)) (k1 : w.cell? ⟨b, o + 1, none⟩ = some (.int .u64 w0)) (k2 : w.cell? ⟨b, o + 2, none⟩ = some (.int .u64 w1)) (k3 : w.cell? ⟨b, o + 3, none⟩ = some (.int .u64 w2)) (k4 : w.cell? ⟨b, o + 4, none⟩ = some (.int .u64 w3)) (k5 : w.cell? ⟨b, o + 5, none⟩ = some (.int .i64 lo)) (k6 : w.cell? ⟨b, o + 6, none⟩ = some (.int .i64 hi)) (k7 : w.cell? ⟨b, o + 7, none⟩ = some (.slice A' n' c')) :
    Calls Tryd.prog 23 #[.slice (some ⟨b, o, none⟩) 1 c] w fun e w' => e = .returned (.agg #[.int .i64 k, .int .u64 w0, .int .u64 w1, .int .u64 w2, .int .u64 w3, .int .i64 lo, .int .i64 hi, .slice A' n' c']) ∧ Below w.heap.size w w' := by
  go_enter Tryd.func23, Tryd.ntmps23
  go_wp2_with fail
  refine bodyPost_ret (v := .agg #[.int .i64 k, .int .u64 w0, .int .u64 w1, .int .u64 w2, .int .u64 w3, .int .i64 lo, .int .i64 hi, .slice A' n' c']) (by simp [results, Tryd.results23, go_sem]) rfl ?_
  exact ⟨rfl, (Below.refl _ w).alloc (Nat.le_refl _) _⟩
theorem seq_n (A : Option Addr) (n c : Nat) (w : World) (hn : 2 ≤ n) (hn2 : n ≤ 9223372036854775807) : Calls Tryd.prog 23 #[.slice A n c] w fun e w' => e = .returned (.agg #[.int .i64 3, .int .u64 0, .int .u64 0, .int .u64 0, .int .u64 0, .int .i64 0, .int .i64 0, .slice A n c]) ∧ Below w.heap.size w w' := by
  have t0 : ((n : Int) == 0) = false := by simp; omega
  have t1 : ((n : Int) == 1) = false := by simp; omega
  go_enter Tryd.func23, Tryd.ntmps23
  go_wp2_with fail
  refine bodyPost_ret (v := .agg #[.int .i64 3, .int .u64 0, .int .u64 0, .int .u64 0, .int .u64 0, .int .i64 0, .int .i64 0, .slice A n c]) (by simp [results, Tryd.results23, go_sem]) rfl ?_
  exact ⟨rfl, (Below.refl _ w).alloc (Nat.le_refl _) _⟩
theorem seq_any (A : Option Addr) (c : Nat) (w : World) (F : Nat → Prop) (l : List Rx) (css : List Value) (hr : RdF w F 8 A l.length css) (hv : RxVs w F l css) (hn2 : l.length ≤ 9223372036854775807) : Calls Tryd.prog 23 #[.slice A l.length c] w (TEnd w F (Rx.seq l)) := by
  match l, hr, hv, hn2 with
  | [], _, _, _ => exact seq_0 A c w F
  | [r], hr, hv, _ =>
    obtain ⟨b, o, rfl, hF, hb, hc⟩ := hr.2 (by simp)
    have hv1 := hv
    unfold RxVs RxVs at hv1
    obtain ⟨cs, css', rfl, hv2, rfl⟩ := hv1
    rw [List.append_nil] at hc
    obtain ⟨k, w0, w1, w2, w3, lo, hi, A, n, c', rfl⟩ := hv2.eight
    refine (seq_1 b o c w _ _ _ _ _ _ _ _ _ _ hb (hc 0 _ rfl) (hc 1 _ rfl) (hc 2 _ rfl) (hc 3 _ rfl) (hc 4 _ rfl) (hc 5 _ rfl) (hc 6 _ rfl) (hc 7 _ rfl)).mono ?_
    rintro e w' ⟨rfl, hbl⟩
    exact ⟨_, rfl, hv2.below hbl, hbl⟩
  | r :: q :: l, hr, hv, hn2 =>
    refine (seq_n A _ c w (by simp) hn2).mono ?_
    rintro e w' ⟨rfl, hbl⟩
    refine ⟨_, rfl, ?_, hbl⟩
    unfold Rx.seq Rx.plain RxV
    exact ⟨A, c, css, rfl, hr.below hbl, hv.below hbl⟩
end Go.Proofs.YtpiagfmjekcncaaDoor
