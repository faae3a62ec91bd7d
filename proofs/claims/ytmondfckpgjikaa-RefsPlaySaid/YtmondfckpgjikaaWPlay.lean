/- The walk of RefsPlay. -/
import Derived.Test.YtmondfckpgjikaaIs
namespace Go.Proofs.Ytmondfckpgjikaa
open Go.RowKit Go.WideMaps
set_option maxRecDepth 100000 in
set_option maxHeartbeats 1000000 in
theorem plays_any (A : Option Addr) (n c : Nat) (sts : List St) (w : World) (hr : Reads w w.heap.size 4 A n (cellsS sts)) (hl : sts.length = n) (hok : ∀ st ∈ sts, st.ok) :
    Calls Try.prog 6 #[.slice A n c] w (AwEnd w) := by
  have hfacts := rowsOf_facts _ (sts.take 40) rfl
  have hlen : (rowsOf (sts.take 40)).length ≤ 40 := by have := hfacts.2; simp at this; omega
  have hV := allV_rows (sts.take 40)
  clear hfacts
  have hplay := play_any A n c sts w hr hl hok
  generalize rowsOf (sts.take 40) = l at *
  clear hr hl hok
  go_enter Try.func6, Try.ntmps6
  go_wp2_with fail
  refine hplay.mono ?_
  rintro e w1 ⟨v, rfl, hR, hT, hb1⟩
  go_wp2_with fail
  refine (is_any _ _ _ l v w1 hT hR (by omega) hV).mono ?_
  rintro e w2 ⟨rfl, hb2⟩
  go_wp2_with fail
  go_ret
  exact ⟨rfl, hb1.trans (hb2.mono hb1.size)⟩
end Go.Proofs.Ytmondfckpgjikaa
