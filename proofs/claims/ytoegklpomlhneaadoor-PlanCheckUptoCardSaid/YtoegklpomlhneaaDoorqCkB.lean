/- plan.Format and plan.Uses of a plan that the check refuses (printed by gen_ckb.py). -/
import Derived.Test.YtoegklpomlhneaaDoorqRl
namespace Go.Proofs.YtoegklpomlhneaaDoor
open Go.RowKit
set_option maxRecDepth 100000 in
set_option maxHeartbeats 4000000 in
theorem Format_bad (A : Option Addr) (c : Nat) (l : List St) (w : World) (hP : PlAt w (fun i => i < w.heap.size) A l) (hm : Modest l) (hE : checkR l ≠ 0) :
    Calls Tryd.prog 23 #[.agg #[.slice A l.length c]] w fun e w' => e = .returned (.tuple #[.string ⟨#[]⟩, errV (checkR l)]) ∧ Below w.heap.size w w' := by
  have HBB := Lib.hid (Blk.new w 51 #[.slice A l.length c])
  have hck := Check_any A c l (w.alloc (.cells #[.slice A l.length c] 51)) (hP.below (below_alloc w _)) hm
  have HCK := Lib.hid hck
  clear hP hck hm
  go_enter Tryd.func23, Tryd.ntmps23
  go_wp2_with fail
  refine HCK.out.mono ?_
  rintro e w1 ⟨rfl, hb1⟩
  have HB1 := Lib.hid ((below_alloc w _).trans (hb1.mono (by simp)))
  have hv : errV (checkR l) = .iface 41 (.int .i64 (checkR l)) := by unfold errV; rw [if_neg hE]
  rw [hv]
  have HV := Lib.hid hv
  clear hv hE hb1
  go_wp2_with fail
  go_ret2
  exact ⟨by rw [HV.out]; rfl, HB1.out⟩
set_option maxRecDepth 100000 in
set_option maxHeartbeats 4000000 in
theorem Uses_bad (A : Option Addr) (c : Nat) (l : List St) (w : World) (hP : PlAt w (fun i => i < w.heap.size) A l) (hm : Modest l) (hE : checkR l ≠ 0) :
    Calls Tryd.prog 25 #[.agg #[.slice A l.length c]] w fun e w' => e = .returned (.tuple #[.slice none 0 0, errV (checkR l)]) ∧ Below w.heap.size w w' := by
  have HBB := Lib.hid (Blk.new w 51 #[.slice A l.length c])
  have hck := Check_any A c l (w.alloc (.cells #[.slice A l.length c] 51)) (hP.below (below_alloc w _)) hm
  have HCK := Lib.hid hck
  clear hP hck hm
  go_enter Tryd.func25, Tryd.ntmps25
  go_wp2_with fail
  refine HCK.out.mono ?_
  rintro e w1 ⟨rfl, hb1⟩
  have HB1 := Lib.hid ((below_alloc w _).trans (hb1.mono (by simp)))
  have hv : errV (checkR l) = .iface 41 (.int .i64 (checkR l)) := by unfold errV; rw [if_neg hE]
  rw [hv]
  have HV := Lib.hid hv
  clear hv hE hb1
  go_wp2_with fail
  go_ret2
  exact ⟨by rw [HV.out]; rfl, HB1.out⟩
end Go.Proofs.YtoegklpomlhneaaDoor
