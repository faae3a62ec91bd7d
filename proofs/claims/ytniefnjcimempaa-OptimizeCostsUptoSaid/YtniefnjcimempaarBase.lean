/- The walks of evergreenbase.Num and Is. -/
import Derived.Test.YtniefnjcimempaarMem
import Derived.Test.YtniefnjcimempaaProg
import Derived.WalkKit
import Derived.WalkSpells
import Derived.Lib.Hide
namespace Go.Proofs.Ytniefnjcimempaa
open Go.RowKit
def errV (c : Int) : Value := if c = 0 then .nilIface else .iface 37 (.int .i64 c)
def AwEnd (w : World) (e : Ending) (w' : World) : Prop := e = .returned (.bool true) ∧ Below w.heap.size w w'
end Go.Proofs.Ytniefnjcimempaa
