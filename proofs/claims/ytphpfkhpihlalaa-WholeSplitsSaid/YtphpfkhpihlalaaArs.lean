/- The row's walk of WholeSplits. -/
import Derived.Test.YtphpfkhpihlalaaWs
import Derived.Test.YtphpfkhpihlalaaArg
namespace Go.Proofs.Ytphpfkhpihlalaa
open Go.RowKit
theorem splits_row (A : Option Addr) (n c : Nat) (l : List UInt8) (k cut : Int) (w : World) (hr : Reads w w.heap.size 1 A n (l.map byteV)) (hc : n ≤ c) :
    Calls Try.prog 3 #[.slice A n c, .int .i64 k, .int .i64 cut] w fun e w' => e = .returned (.bool true) ∧ Below w.heap.size w w' :=
  splits_any A n c l k cut w (argB_of hr).1 hc (argB_of hr).2
end Go.Proofs.Ytphpfkhpihlalaa
