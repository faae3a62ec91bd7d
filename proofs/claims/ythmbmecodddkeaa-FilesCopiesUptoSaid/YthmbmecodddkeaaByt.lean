/- A byte as a value. -/
import Derived.Test.YthmbmecodddkeaaProg
import Derived.Test.YthmbmecodddkeaaMem
import Derived.WalkKit
import Derived.WalkSpells
import Derived.WalkLawsBesides
import Derived.Lib.Hide
namespace Go.Proofs.Ythmbmecodddkeaa
open Go.RowKit
def byteV (b : UInt8) : Value := .int .u8 (b.toNat : Int)
end Go.Proofs.Ythmbmecodddkeaa
