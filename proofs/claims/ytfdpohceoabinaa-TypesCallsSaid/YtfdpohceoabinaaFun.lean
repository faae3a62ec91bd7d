/- The walk of types.Functions. -/
import Derived.Test.YtfdpohceoabinaaLCallP
import Derived.Test.YtfdpohceoabinaaShelf
import Derived.Sort.OwnSorted
import Derived.Sort.KeysCollected
import Derived.OwnWalk
namespace Go.Proofs.Ytfdpohceoabinaa
open Go.RowKit Go.WideMaps Go.Sort
theorem names_perm : namesU.Perm namesS := by decide +kernel
theorem names_sorted : namesU.mergeSort (fun x y => decide (x ≤ y)) = namesS := by
  rw [show (fun x y : List UInt8 => decide (x ≤ y)) = leB from rfl, mergeSort_of_perm names_perm]
  apply List.mergeSort_of_pairwise
  decide +kernel
def NmEnd (w : World) (l : List (List UInt8)) (e : Ending) (w' : World) : Prop :=
  ∃ A c, e = .returned (.slice A l.length c) ∧ w'.ownsRow w.heap.size 9 1 (.slice A l.length c) l.length (l.map encStr) ∧ Below w.heap.size w w'
set_option maxRecDepth 100000 in
set_option maxHeartbeats 1000000 in
theorem functions_any (w : World) : Calls Try.prog 15 #[] w (NmEnd w namesS) := by
  go_enter Try.func15, Try.ntmps15
  go_wp2_with fail
  have hrow := World.ownsRow_lit (e := 9) (size := 1) w (namesU.map encStr).toArray 32 (Nat.le_refl _) (by decide) rfl
  rcases hrow.2 with ⟨_, hnil⟩ | ⟨g, cap, cur, hv, hbase, hb, h1, h2, h3, h4⟩
  · exact absurd hnil (by simp)
  injection hv with hv1 hv2 hv3
  injection hv1 with hv1
  injection hv1 with hv1
  subst hv1 hv3
  have hH : Holds encStr _ w.heap.size 0 namesU.toArray := holds_of_block hb (by simpa [namesU] using h4)
  have hc := Try.slices_Sort_string w.heap.size 0 32 namesU _ hH (by simp) (by decide)
  rw [names_sorted] at hc
  have hfin := fun n os => ownsRow_sorted (n := n) (os := os) (ss := namesU) (ts := namesS) (by decide) hbase hb (by decide) h2 h3
  have hnx := below_alloc w (.cells (namesU.map encStr).toArray 9)
  have HF := Lib.hid hfin
  clear hH hfin hb h1 h2 h3 h4 hrow
  refine hc.mono ?_
  rintro e w' ⟨rfl, nn, os, rfl⟩
  go_wp2_with fail
  go_ret
  exact ⟨_, _, rfl, HF.out nn os, hnx.grown (grownBy_sorted (n := nn) (os := os) (g := w.heap.size) namesS.toArray) hnx.size (fun j hj => by cases hj; exact hbase)⟩
end Go.Proofs.Ytfdpohceoabinaa
