/- The row's walk of WholeRotates; a pair of numbers that came in. -/
import Derived.Test.YtphpfkhpihlalaaWr
import Derived.Test.YtphpfkhpihlalaaArg
import Derived.WideKeyPair
namespace Go.Proofs.Ytphpfkhpihlalaa
open Go.RowKit
set_option maxRecDepth 100000 in
theorem two_key : Go.WideMaps.ArrKey Try.prog 52 3 2 := ⟨Try.underlying52, by kernel_rfl, by kernel_rfl, by kernel_rfl⟩
set_option maxRecDepth 100000 in
theorem open_two {H : Type} {enc : TypeId × Value → H} {W : World} {base : Nat} {sp : Nat → Bool} {held : Bool} {r : Reach} {b0 : Nat} {v : Value} {d : DataW H} {ps : List MemPlace} (hval : Value.okWide Try.prog W r b0 52 v) (hd : DataW.Trod enc Try.prog W base sp held 52 v d ps) :
    ∃ a : Int × Int, v = .agg #[.int .i64 a.1, .int .i64 a.2] ∧ True := by
  obtain ⟨x, y, h1, _⟩ := Go.WideMaps.open_pair two_key Try.underlying3 hval hd
  exact ⟨(x, y), h1, trivial⟩
set_option maxRecDepth 100000 in
theorem rotates_row (A : Option Addr) (n c : Nat) (l : List UInt8) (k : Int) (a : Int × Int) (w : World) (hr : Reads w w.heap.size 1 A n (l.map byteV)) (hc : n ≤ c) :
    Calls Try.prog 5 #[.slice A n c, .int .i64 k, .agg #[.int .i64 a.1, .int .i64 a.2]] w fun e w' => e = .returned (.bool true) ∧ Below w.heap.size w w' :=
  rotates_any A n c l k a.1 a.2 w (argB_of hr).1 hc (argB_of hr).2
end Go.Proofs.Ytphpfkhpihlalaa
