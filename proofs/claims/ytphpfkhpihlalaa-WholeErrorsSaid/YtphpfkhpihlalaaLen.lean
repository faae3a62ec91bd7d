/- The walks of length.Valid, Add, Mul, Clip. -/
import Derived.Test.YtphpfkhpihlalaaMod
import Derived.IntWalk
namespace Go.Proofs.Ytphpfkhpihlalaa
open Go.RowKit
def mL : Int := 1152921504606846976
def okL (n : Int) : Bool := decide (0 ≤ n) && decide (n ≤ 1152921504606846976)
set_option maxRecDepth 100000 in
theorem valid_any (n : Int) (w : World) : Calls Try.prog 69 #[.int .i64 n] w fun e w' => e = .returned (.bool (okL n)) ∧ w' = w := by
  by_cases h0 : 0 ≤ n
  · have hd : okL n = decide (n ≤ 1152921504606846976) := by simp [okL, h0]
    have HD := Lib.hid hd
    clear hd
    go_enter Try.func69, Try.ntmps69
    go_wp2
    go_ret
    exact ⟨by rw [HD.out]; rfl, rfl⟩
  · have hd : okL n = false := by simp [okL, h0]
    have HD := Lib.hid hd
    clear hd
    go_enter Try.func69, Try.ntmps69
    go_wp2
    go_ret
    exact ⟨by rw [HD.out]; rfl, rfl⟩
set_option maxRecDepth 100000 in
theorem ladd_any (a b : Int) (w : World) (ha : 0 ≤ a) (hb : 0 ≤ b) (h : a + b ≤ 1152921504606846976) : Calls Try.prog 44 #[.int .i64 a, .int .i64 b] w fun e w' => e = .returned (.tuple #[.int .i64 (a + b), .nilIface]) ∧ w' = w := by
  have h1 := fun W => valid_any a W
  have h2 := fun W => valid_any b W
  rw [show okL a = true by simp [okL]; omega] at h1
  rw [show okL b = true by simp [okL]; omega] at h2
  have hab : ¬ (1152921504606846976 - b < a) := by omega
  go_enter Try.func44, Try.ntmps44
  go_wp2_with fail
  refine (h1 _).mono ?_
  clear h1
  rintro e w' ⟨rfl, rfl⟩
  go_wp2_with fail
  refine (h2 _).mono ?_
  clear h2
  rintro e w' ⟨rfl, rfl⟩
  go_wp2_with fail
  refine bodyPost_ret (v := .tuple #[.int .i64 (a + b), .nilIface]) (by simp [results, Try.results44, go_sem]) rfl ?_
  exact ⟨rfl, rfl⟩
set_option maxRecDepth 100000 in
theorem clip_any (n lo hi : Int) (w : World) (h : lo ≤ hi) : Calls Try.prog 34 #[.int .i64 n, .int .i64 lo, .int .i64 hi] w fun e w' => e = .returned (.int .i64 (max lo (min n hi))) ∧ w' = w := by
  by_cases h1 : n < lo
  · have hm : max lo (min n hi) = lo := by omega
    rw [hm]
    clear hm
    go_enter Try.func34, Try.ntmps34
    go_wp2
    go_ret
    exact ⟨rfl, rfl⟩
  · by_cases h2 : hi < n
    · have hm : max lo (min n hi) = hi := by omega
      rw [hm]
      clear hm
      go_enter Try.func34, Try.ntmps34
      go_wp2
      go_ret
      exact ⟨rfl, rfl⟩
    · have hm : max lo (min n hi) = n := by omega
      rw [hm]
      clear hm
      go_enter Try.func34, Try.ntmps34
      go_wp2
      go_ret
      exact ⟨rfl, rfl⟩
end Go.Proofs.Ytphpfkhpihlalaa
