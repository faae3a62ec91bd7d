/- alive of the laws on plans. -/
import Derived.Test.YtoegklpomlhneaaGreatDoorqPoL
import Derived.Test.YtoegklpomlhneaaGreatDoorqRl
namespace Go.Proofs.YtoegklpomlhneaaGreatDoor
open Go.RowKit
def aliveT56 : Tx := .node 4 [60] 0 [.node 4 [99, 111, 117, 110, 116] 0 [.node 3 [109, 97, 105, 110] 0 [], .node 2 [97, 43] 0 []], .node 1 [] 3 []]
theorem aliveT56_typ : typT aliveT56 = .ok 2 := by kernel_rfl
theorem aliveT56_nt : aliveT56.all isNT = true := by decide
theorem aliveT56_size : aliveT56.size ≤ 900000 := by decide
theorem aliveT56_short : aliveT56.all (shortT 9223372036854775807) = true := by decide
theorem alive56_plan : planT aliveT56 = [⟨nRef, [], 0, [109, 97, 105, 110], 3⟩, ⟨nCount, [0], 0, [97, 43], 1⟩, ⟨nNumber, [], 3, [], 1⟩, ⟨[60], [1, 2], 0, [], 2⟩] := by kernel_rfl
theorem alive56_check : checkR [⟨nRef, [], 0, [109, 97, 105, 110], 3⟩, ⟨nCount, [0], 0, [97, 43], 1⟩, ⟨nNumber, [], 3, [], 1⟩, ⟨[60], [1, 2], 0, [], 2⟩] = 0 := by kernel_rfl
theorem alive56_cost : costL [⟨nRef, [], 0, [109, 97, 105, 110], 3⟩, ⟨nCount, [0], 0, [97, 43], 1⟩, ⟨nNumber, [], 3, [], 1⟩, ⟨[60], [1, 2], 0, [], 2⟩] = 68 := by kernel_rfl
theorem alive56_modest : Modest [⟨nRef, [], 0, [109, 97, 105, 110], 3⟩, ⟨nCount, [0], 0, [97, 43], 1⟩, ⟨nNumber, [], 3, [], 1⟩, ⟨[60], [1, 2], 0, [], 2⟩] := ⟨by decide, fun s hs => by
  simp only [List.mem_cons, List.not_mem_nil, or_false] at hs
  rcases hs with rfl | rfl | rfl | rfl <;> decide⟩
set_option maxRecDepth 100000 in
theorem alive56_any (w : World) : Calls Tryz.prog 4 #[] w fun e w' => e = .returned (.bool true) ∧ Below w.heap.size w w' := by
  obtain ⟨W, hW⟩ : ∃ W, W = ((w.alloc (.cells #[.int .i64 3, .string ⟨#[109, 97, 105, 110]⟩, .int .i64 0, .slice none 0 0, .int .i64 2, .string ⟨#[97, 43]⟩, .int .i64 0, .slice none 0 0] 41)).alloc (.cells #[.int .i64 4, .string ⟨#[99, 111, 117, 110, 116]⟩, .int .i64 0, .slice (some ⟨w.heap.size, 0, none⟩) 2 2, .int .i64 1, .string ⟨#[]⟩, .int .i64 3, .slice none 0 0] 41)).alloc (.cells #[.int .i64 4, .string ⟨#[60]⟩, .int .i64 0, .slice (some ⟨w.heap.size + 1, 0, none⟩) 2 2] 41) := ⟨_, rfl⟩
  have hb0 : Below w.heap.size w W := by rw [hW]; exact (((below_alloc w _).alloc (by simp) _).alloc (by simp; omega) _)
  have hz : W.heap.size = w.heap.size + 3 := by rw [hW]; simp
  have hk1 : Blk W w.heap.size 41 (#[.int .i64 3, .string ⟨#[109, 97, 105, 110]⟩, .int .i64 0, .slice none 0 0, .int .i64 2, .string ⟨#[97, 43]⟩, .int .i64 0, .slice none 0 0] : Array Value) := by rw [hW]; exact ((Blk.new w _ _).alloc _).alloc _
  have hk2 : Blk W (w.heap.size + 1) 41 (#[.int .i64 4, .string ⟨#[99, 111, 117, 110, 116]⟩, .int .i64 0, .slice (some ⟨w.heap.size, 0, none⟩) 2 2, .int .i64 1, .string ⟨#[]⟩, .int .i64 3, .slice none 0 0] : Array Value) := by
    rw [hW]
    have := Blk.new (w.alloc (.cells #[.int .i64 3, .string ⟨#[109, 97, 105, 110]⟩, .int .i64 0, .slice none 0 0, .int .i64 2, .string ⟨#[97, 43]⟩, .int .i64 0, .slice none 0 0] 41)) 41 (#[.int .i64 4, .string ⟨#[99, 111, 117, 110, 116]⟩, .int .i64 0, .slice (some ⟨w.heap.size, 0, none⟩) 2 2, .int .i64 1, .string ⟨#[]⟩, .int .i64 3, .slice none 0 0] : Array Value)
    rw [show (w.alloc (.cells #[.int .i64 3, .string ⟨#[109, 97, 105, 110]⟩, .int .i64 0, .slice none 0 0, .int .i64 2, .string ⟨#[97, 43]⟩, .int .i64 0, .slice none 0 0] 41)).heap.size = w.heap.size + 1 by simp] at this
    exact this.alloc _
  have hn1 : NodeV W (fun i => i < W.heap.size) _ _ := node_call2 (a := [.int .i64 3, .string ⟨#[109, 97, 105, 110]⟩, .int .i64 0, .slice none 0 0]) (b := [.int .i64 2, .string ⟨#[97, 43]⟩, .int .i64 0, .slice none 0 0]) (c := 2) hk1 (by omega) (NodeV.leaf _ _ 3 [109, 97, 105, 110] 0) (NodeV.leaf _ _ 2 [97, 43] 0) [99, 111, 117, 110, 116]
  have hn2 : NodeV W (fun i => i < W.heap.size) _ _ := node_call2 (c := 2) hk2 (by omega) hn1 (NodeV.leaf _ _ 1 [] 3) [60]
  have hof := plan_of aliveT56 _ W hn2 aliveT56_size aliveT56_short
  have HOF := Lib.hid hof
  have HB0 := Lib.hid hb0
  have HW := Lib.hid hW
  rw [hW] at HOF
  clear hof hn1 hn2 hk1 hk2 hb0 hW
  go_enter Tryz.func4, Tryz.ntmps4
  go_wp2_with fail
  refine HOF.out.mono ?_
  rintro e w1 h1
  rw [← HW.out] at h1
  obtain ⟨hb1, h1⟩ := h1
  rw [if_pos aliveT56_nt, aliveT56_typ] at h1
  obtain ⟨A, c, rfl, hp⟩ := h1
  rw [alive56_plan] at hp ⊢
  have hb1 := HB0.out.trans (hb1.mono HB0.out.size)
  have HB1 := Lib.hid hb1
  have hz1 := hb1.size
  have hp2 : PlAt (w1.alloc (.cells #[.slice A 4 c] 29)) (fun i => i < (w1.alloc (.cells #[.slice A 4 c] 29)).heap.size) A _ := PlAt.below (w := w1) (hp.keep (w' := w1) (fun _ _ _ => rfl) (Nat.le_refl _) (fun i hi _ => hi.2)) (below_alloc w1 _)
  have hco := Cost_any A c _ _ hp2 alive56_modest
  unfold CostEnd at hco
  rw [alive56_check, if_pos rfl, alive56_cost, show errV 0 = .nilIface from rfl] at hco
  have HCO := Lib.hid hco
  clear hp hp2 hco hb1
  go_wp2_with fail
  refine HCO.out.mono ?_
  rintro e w2 ⟨rfl, hb2⟩
  have HX := Lib.hid ((Blk.new w1 29 #[.slice A 4 c]).below hb2 (by simp))
  have HB2 := Lib.hid ((HB1.out.alloc hz1 _).trans (hb2.mono (by simp; omega)))
  have x0 := HX.out.cell 0
  simp only [List.getElem?_toArray, List.getElem?_cons_zero] at x0
  clear hb2
  go_wp2_with fail
  go_ret
  exact ⟨rfl, HB2.out⟩
end Go.Proofs.YtoegklpomlhneaaGreatDoor
