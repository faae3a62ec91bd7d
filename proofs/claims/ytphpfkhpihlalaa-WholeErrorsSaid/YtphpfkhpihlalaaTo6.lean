/- The walk of evergreentop.stands. -/
import Derived.Test.YtphpfkhpihlalaaTo5
namespace Go.Proofs.Ytphpfkhpihlalaa
open Go.RowKit
def sAb : ByteArray := ⟨#[97, 98]⟩
def sAbab : ByteArray := ⟨#[97, 98, 97, 98]⟩
def sBa : ByteArray := ⟨#[98, 97]⟩
def stL : List Mk := [⟨0, 0, 0, 0, 0, sAb⟩, ⟨1, 0, 0, 0, 0, ⟨#[]⟩⟩, ⟨3, 1, 0, 1, 2, ⟨#[]⟩⟩]
def stT (k : Nat) (l : List ByteArray) : Prop := l = [sAb, sAbab, sBa].take k
theorem map1 {a : ByteArray} {xs : List (Nat × ByteArray)} (h : xs.map (·.2) = [a]) : ∃ x, xs = [x] ∧ x.2 = a := by
  match xs, h with
  | [x], h => exact ⟨x, rfl, by injection h⟩
theorem map2 {a b : ByteArray} {xs : List (Nat × ByteArray)} (h : xs.map (·.2) = [a, b]) : ∃ x y, xs = [x, y] ∧ x.2 = a ∧ y.2 = b := by
  match xs, h with
  | [x, y], h => exact ⟨x, y, rfl, by injection h, by injection h with _ h; injection h⟩
theorem map3 {a b c : ByteArray} {xs : List (Nat × ByteArray)} (h : xs.map (·.2) = [a, b, c]) : ∃ x y z, xs = [x, y, z] ∧ z.2 = c := by
  match xs, h with
  | [x, y, z], h => exact ⟨x, y, z, rfl, by injection h with _ h; injection h with _ h; injection h⟩
theorem st_steps {p k : Nat} {xs : List (Nat × ByteArray)} {F : Nat → Prop} {w : World} {m : Mk} (hi : BI stT p k xs F w) (hm : stL[k]? = some m) (hk : k < 30) : StepOk p (BI stT p) k xs F w m := by
  have ht : stT k (xs.map (·.2)) := by
    obtain ⟨_, _, _, _, _, ht, _⟩ := hi
    exact ht
  unfold stT at ht
  match k, hm, hi, ht with
  | 0, hm, hi, ht =>
    have hm : (⟨0, 0, 0, 0, 0, sAb⟩ : Mk) = m := by injection hm
    subst hm
    exact step_text hi hk rfl (by decide) (by rw [ht]; rfl)
  | 1, hm, hi, ht =>
    have hm : (⟨1, 0, 0, 0, 0, ⟨#[]⟩⟩ : Mk) = m := by injection hm
    subst hm
    obtain ⟨x, rfl, hx⟩ := map1 ht
    exact step_join hi hk rfl 0 0 x x rfl rfl rfl rfl (by rw [hx]; decide) (by rw [hx]; show [x.2] ++ _ = _; rw [hx]; rfl)
  | 2, hm, hi, ht =>
    have hm : (⟨3, 1, 0, 1, 2, ⟨#[]⟩⟩ : Mk) = m := by injection hm
    subst hm
    obtain ⟨x, y, rfl, hx, hy⟩ := map2 ht
    exact step_sect hi hk rfl 1 0 y x rfl rfl rfl rfl 1 2 (by rw [hy]; rfl) (by rw [hy]; rfl) (by rw [hy]; show [x.2, y.2] ++ _ = _; rw [hx, hy]; rfl)
  | k + 3, hm, _, _ => cases hm
set_option maxRecDepth 100000 in
set_option maxHeartbeats 2000000 in
theorem stands_any (w : World) : Calls Try.prog 9 #[] w fun e w' => e = .returned (.bool true) ∧ Below w.heap.size w w' := by
  obtain ⟨wa, hwa⟩ : ∃ wa, wa = w.alloc (.cells (stL.flatMap Mk.cells).toArray 86) := ⟨_, rfl⟩
  have hba : Below w.heap.size w wa := by rw [hwa]; exact (Below.refl _ _).alloc (Nat.le_refl _) _
  have hbl : Blk wa w.heap.size 86 (stL.flatMap Mk.cells).toArray := by rw [hwa]; exact Blk.new _ _ _
  have hA : ArgMk wa (fun _ => False) (some ⟨w.heap.size, 0, none⟩) stL := fun k m hm => by
    refine ⟨_, _, rfl, hbl.lt, fun h => h, fun j u hu => ?_⟩
    rw [hbl.cell, List.getElem?_toArray]
    match k, hm with
    | 0, hm => injection hm with hm; subst hm; match j, hu with
      | 0, hu => exact hu
      | 1, hu => exact hu
      | 2, hu => exact hu
      | 3, hu => exact hu
      | 4, hu => exact hu
      | 5, hu => exact hu
    | 1, hm => injection hm with hm; subst hm; match j, hu with
      | 0, hu => exact hu
      | 1, hu => exact hu
      | 2, hu => exact hu
      | 3, hu => exact hu
      | 4, hu => exact hu
      | 5, hu => exact hu
    | 2, hm => injection hm with hm; subst hm; match j, hu with
      | 0, hu => exact hu
      | 1, hu => exact hu
      | 2, hu => exact hu
      | 3, hu => exact hu
      | 4, hu => exact hu
      | 5, hu => exact hu
  have hbg := begin_walk (some ⟨w.heap.size, 0, none⟩) stL 3 3 wa stT rfl (by omega) hA rfl st_steps
  have HBA := Lib.hid hba
  have hwa : wa = w.alloc (.cells #[.int .i64 0, .int .i64 0, .int .i64 0, .int .i64 0, .int .i64 0, .string ⟨#[97, 98]⟩, .int .i64 1, .int .i64 0, .int .i64 0, .int .i64 0, .int .i64 0, .string ⟨#[]⟩, .int .i64 3, .int .i64 1, .int .i64 0, .int .i64 1, .int .i64 2, .string ⟨#[]⟩] 86) := hwa
  have HWA := Lib.hid hwa
  clear hba hbl hA hwa
  go_enter Try.func9, Try.ntmps9
  go_wp2_with fail
  rw [← HWA.out]
  refine hbg.mono ?_
  rintro _ w2 ⟨p, xs, v7, v8, F1, F, w1, rfl, hS, hb1, hF⟩
  clear hbg HWA
  have hT : stT 3 (xs.map (·.2)) := by
    obtain ⟨_, _, _, _, _, ht, _⟩ := hS.i
    exact ht
  unfold stT at hT
  obtain ⟨x, y, z, rfl, hz⟩ := map3 hT
  have hBW : Below w.heap.size w w2 := hS.kept.below (HBA.out.trans (hb1.mono HBA.out.size)) (by have := HBA.out.size; have := hb1.size; omega) (fun i h => by have := hF i h; have := HBA.out.size; omega)
  obtain ⟨E, hE, st, -, -, -, hall⟩ := hS.i
  obtain ⟨-, d, hd⟩ := hall z (by simp)
  obtain ⟨q, hq, hqt, _, _⟩ := hd.at_
  have hwl : q.wt.len = 2 := by rw [(hE.fit z.1 q hq).length, hqt, hz]; rfl
  have hwt := weight_any st z.1 q hq
  obtain ⟨A7, c7, rfl⟩ := own_form hS.own7
  obtain ⟨A8, c8, rfl⟩ := own_form hS.own8
  obtain ⟨g7, o7, rfl, -, hc7⟩ := (Reads.of_own hS.own7).form (by simp)
  obtain ⟨g8, o8, rfl, -, hc8⟩ := (Reads.of_own hS.own8).form (by simp)
  have x7 : w2.cell? ⟨g7, o7 + 2, none⟩ = some (.int .i64 (z.1 : Int)) := hc7 2 _ rfl
  have x8 : w2.cell? ⟨g8, o8 + 2, none⟩ = some (.string z.2) := hc8 2 _ rfl
  rw [hz] at x8
  unfold sBa at x8
  simp only [List.length_cons, List.length_nil, Nat.zero_add, Nat.reduceAdd]
  have HB := Lib.hid hBW
  obtain ⟨⟨qk, qb, ql, qr, qt'⟩, ⟨wn, wl, wh, wt', ⟨wv, ws⟩⟩, dq, ev, tq⟩ := q
  simp only [Wt.val] at hwt
  simp only at hwl
  subst hwl
  generalize (wv : Int) = wv at hwt
  generalize (ws : Int) = ws at hwt
  clear hT hz hBW hE st hall hd hq hqt hc7 hc8 hS hb1 hF
  generalize z.1 = z1 at *
  unfold ptr at *
  go_wp2_with fail
  refine hwt.mono ?_
  rintro _ w3 ⟨rfl, hb3⟩
  have HB3 := Lib.hid (HB.out.trans (hb3.mono HB.out.size))
  clear hb3 hwt x7 x8
  go_upto_region 5 with (fail)
  have HK := Lib.hid (Blk.new w3 38 #[.int .i64 2, .int .i64 wl, .int .i64 wh, .int .i64 wt', .int .u64 wv, .int .u64 ws])
  have HB4 := Lib.hid (HB3.out.alloc HB3.out.size (.cells #[.int .i64 2, .int .i64 wl, .int .i64 wh, .int .i64 wt', .int .u64 wv, .int .u64 ws] 38))
  obtain ⟨w4, hw4⟩ : ∃ w4, w4 = w3.alloc (.cells #[.int .i64 2, .int .i64 wl, .int .i64 wh, .int .i64 wt', .int .u64 wv, .int .u64 ws] 38) := ⟨_, rfl⟩
  rw [← hw4] at HK HB4 ⊢
  clear hw4 HB3
  generalize w3.heap.size = q3 at *
  have z0 := HK.out.cell 0
  simp only [List.getElem?_toArray, List.getElem?_cons_zero, List.getElem?_cons_succ] at z0
  go_wp2_with fail
  go_ret
  exact ⟨rfl, HB4.out⟩
end Go.Proofs.Ytphpfkhpihlalaa
