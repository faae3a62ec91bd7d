/- alive of the laws on types. -/
import Derived.Test.YtfdpohceoabinaaCall
namespace Go.Proofs.Ytfdpohceoabinaa
open Go.RowKit
def aliveT : Tx := .node 4 [60] 0 [.node 4 [99, 111, 117, 110, 116] 0 [.node 3 [109, 97, 105, 110] 0 [], .node 2 [97, 43] 0 []], numT 3]
theorem aliveT_of : ofT aliveT = .tuple #[.int .i64 2, .nilIface] := by kernel_rfl
theorem aliveT_size : aliveT.size ≤ 900000 := by decide
theorem aliveT_short : aliveT.all (shortT 9223372036854775807) = true := by decide
theorem alive_any (w : World) : Calls Try.prog 10 #[] w fun e w' => e = .returned (.bool true) ∧ Below w.heap.size w w' := by
  go_enter Try.func10, Try.ntmps10
  go_wp2_with fail
  refine (lw_word _ _).mono ?_
  rintro e w1 ⟨rfl, hb1⟩
  have HB1 := Lib.hid hb1
  have hz1 := hb1.size
  clear hb1
  go_wp2_with fail
  refine (lw_call _ _ _ _ _).mono ?_
  rintro e w2 ⟨rfl, hb2⟩
  have HR2 := Lib.hid ((Blk.new w1 29 _).below hb2 (by simp))
  have HB2 := Lib.hid hb2
  have hz2 := hb2.size
  simp at hz2
  clear hb2
  go_wp2_with fail
  refine (lw_number _ _).mono ?_
  rintro e w3 ⟨rfl, hb3⟩
  have HR3 := Lib.hid (HR2.out.below hb3 (by omega))
  have HB3 := Lib.hid hb3
  have hz3 := hb3.size
  clear hb3
  go_wp2_with fail
  refine (lw_call _ _ _ _ _).mono ?_
  rintro e w4 ⟨rfl, hb4⟩
  have HR4 := Lib.hid ((HR3.out.alloc _).below hb4 (by simp; omega))
  have HS4 := Lib.hid ((Blk.new w3 29 _).below hb4 (by simp))
  have HB4 := Lib.hid hb4
  have hz4 := hb4.size
  simp at hz4
  clear hb4
  go_wp2_with fail
  have hn1 : NodeV w4 (fun i => i < w4.heap.size) _ _ := node_call2 (a := [.int .i64 3, .string ⟨#[109, 97, 105, 110]⟩, .int .i64 0, .slice none 0 0]) (b := [.int .i64 2, .string ⟨#[97, 43]⟩, .int .i64 0, .slice none 0 0]) (c := 2) HR4.out (by omega) (NodeV.leaf _ _ 3 [109, 97, 105, 110] 0) (NodeV.leaf _ _ 2 [97, 43] 0) [99, 111, 117, 110, 116]
  have hn2 : NodeV w4 (fun i => i < w4.heap.size) _ _ := node_call2 (c := 2) HS4.out (by omega) hn1 (NodeV.leaf _ _ 1 [] 3) [60]
  have hof := of_tx aliveT _ w4 hn2 aliveT_size aliveT_short
  rw [aliveT_of] at hof
  have HOF := Lib.hid hof
  clear hof hn1 hn2
  refine HOF.out.mono ?_
  rintro e w5 ⟨rfl, hb5⟩
  have HB5 := Lib.hid hb5
  clear hb5
  go_wp2_with fail
  go_ret
  exact ⟨rfl, ((((((HB1.out.alloc hz1 _).trans (HB2.out.mono (by simp; omega))).trans (HB3.out.mono (by omega))).alloc (by omega) _).trans (HB4.out.mono (by simp; omega))).trans (HB5.out.mono (by omega)))⟩
end Go.Proofs.Ytfdpohceoabinaa
