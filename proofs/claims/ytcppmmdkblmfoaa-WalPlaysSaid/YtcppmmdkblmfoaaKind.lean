/- The walk of kind (func 46). -/
import Derived.Test.YtcppmmdkblmfoaaRLO
import Derived.Test.YtcppmmdkblmfoaaBase
import Derived.Test.YtcppmmdkblmfoaaWKeeps
namespace Go.Proofs.Ytcppmmdkblmfoaa
open Go.RowKit Go.WideMaps
def kcode (c : Int) : Int := if c = 0 then 0 else if c = 7 then 1 else if c = 8 then 2 else 3
theorem kind_any (c : Int) (w : World) : Calls Try.prog 46 #[errV c] w (RetW w (.int .i64 (kcode c))) := by
  have hnum : Calls Try.prog 28 #[errV c] w fun e w' => e = .returned (.int .i64 c) ∧ w = w' := by
    by_cases h : c = 0
    · subst h; exact num_nil w
    · unfold errV; rw [if_neg h]; exact num_err c w
  by_cases h0 : c = 0
  · have HD := Lib.hid (show kcode c = 0 by simp [kcode, h0])
    have b0 : (c == 0) = true := by simpa using h0
    clear h0
    go_enter Try.func46, Try.ntmps46
    go_wp2_with fail
    refine hnum.mono ?_
    rintro e w' ⟨rfl, rfl⟩
    go_wp2_with fail
    go_ret
    rw [HD.out]
    exact ⟨rfl, rfl⟩
  · have b0 : (c == 0) = false := by simpa using h0
    by_cases h7 : c = 7
    · have HD := Lib.hid (show kcode c = 1 by simp [kcode, h7])
      have b7 : (c == 7) = true := by simpa using h7
      clear h0 h7
      go_enter Try.func46, Try.ntmps46
      go_wp2_with fail
      refine hnum.mono ?_
      rintro e w' ⟨rfl, rfl⟩
      go_wp2_with fail
      go_ret
      rw [HD.out]
      exact ⟨rfl, rfl⟩
    · have b7 : (c == 7) = false := by simpa using h7
      by_cases h8 : c = 8
      · have HD := Lib.hid (show kcode c = 2 by simp [kcode, h8])
        have b8 : (c == 8) = true := by simpa using h8
        clear h0 h7 h8
        go_enter Try.func46, Try.ntmps46
        go_wp2_with fail
        refine hnum.mono ?_
        rintro e w' ⟨rfl, rfl⟩
        go_wp2_with fail
        go_ret
        rw [HD.out]
        exact ⟨rfl, rfl⟩
      · have HD := Lib.hid (show kcode c = 3 by simp [kcode, h0, h7, h8])
        have b8 : (c == 8) = false := by simpa using h8
        clear h0 h7 h8
        go_enter Try.func46, Try.ntmps46
        go_wp2_with fail
        refine hnum.mono ?_
        rintro e w' ⟨rfl, rfl⟩
        go_wp2_with fail
        go_ret
        rw [HD.out]
        exact ⟨rfl, rfl⟩
end Go.Proofs.Ytcppmmdkblmfoaa
