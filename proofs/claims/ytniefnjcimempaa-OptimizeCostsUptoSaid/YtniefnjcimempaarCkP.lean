/- Plain laws: the document's check of a plan is that of the program. -/
import Derived.Test.YtniefnjcimempaarPoP
namespace Go.Proofs.Ytniefnjcimempaa
open Go.RowKit
structure RowR where
  op : List UInt8
  args : List UInt8
  ty : Int
  cost : Int
  regex : Bool
deriving DecidableEq
def rowsT : List RowR := [
  ⟨[110, 117, 109, 98, 101, 114], [], 1, 1, false⟩, ⟨[115, 116, 114, 105, 110, 103], [], 3, 1, false⟩, ⟨[114, 101, 102], [], 3, 1, false⟩,
  ⟨[108, 101, 110], [51], 1, 2, false⟩, ⟨[108, 105, 110, 101, 115], [51], 1, 2, false⟩, ⟨[115, 105, 122, 101], [52], 1, 2, false⟩, ⟨[99, 111, 109, 109, 111, 110], [51, 51], 1, 8, false⟩,
  ⟨[109, 105, 110], [49, 49], 1, 2, false⟩, ⟨[109, 97, 120], [49, 49], 1, 2, false⟩, ⟨[43], [49, 49], 1, 2, false⟩, ⟨[45], [49, 49], 1, 2, false⟩, ⟨[42], [49, 49], 1, 2, false⟩,
  ⟨[99, 111, 117, 110, 116], [51], 1, 64, true⟩, ⟨[104, 97, 115], [51], 2, 64, true⟩, ⟨[102, 105, 110, 100], [51], 4, 64, true⟩,
  ⟨[61, 61], [49, 49], 2, 2, false⟩, ⟨[61, 61], [50, 50], 2, 2, false⟩, ⟨[61, 61], [51, 51], 2, 2, false⟩,
  ⟨[33, 61], [49, 49], 2, 2, false⟩, ⟨[33, 61], [50, 50], 2, 2, false⟩, ⟨[33, 61], [51, 51], 2, 2, false⟩,
  ⟨[60], [49, 49], 2, 2, false⟩, ⟨[60], [51, 51], 2, 2, false⟩, ⟨[60, 61], [49, 49], 2, 2, false⟩, ⟨[60, 61], [51, 51], 2, 2, false⟩,
  ⟨[97, 110, 100], [50, 50], 2, 2, false⟩, ⟨[111, 114], [50, 50], 2, 2, false⟩, ⟨[110, 111, 116], [50], 2, 2, false⟩,
  ⟨[43, 43], [51, 51], 3, 8, false⟩, ⟨[99, 117, 116], [51, 49, 49], 3, 8, false⟩, ⟨[108, 105, 110, 101], [51, 49], 3, 8, false⟩, ⟨[114, 101, 112], [51, 49], 3, 8, false⟩, ⟨[112, 105, 99, 107], [51, 52, 49], 3, 8, false⟩,
  ⟨[114, 111, 119, 115], [51], 4, 32, false⟩, ⟨[115, 112, 97, 110], [49, 49], 4, 2, false⟩, ⟨[119, 105, 116, 104, 105, 110], [52, 52], 4, 8, false⟩, ⟨[111, 118, 101, 114], [52, 52], 4, 8, false⟩, ⟨[97, 102, 116, 101, 114], [52, 52, 49], 4, 8, false⟩,
  ⟨[117, 110, 105, 111, 110], [52, 52], 4, 8, false⟩, ⟨[109, 105, 110, 117, 115], [52, 52], 4, 8, false⟩, ⟨[102, 105, 114, 115, 116], [52, 49], 4, 8, false⟩,
  ⟨[109, 97, 116, 99, 104, 101, 115], [51], 1, 64, true⟩, ⟨[102, 105, 114, 115, 116, 102, 105, 110, 100], [51, 49], 4, 64, true⟩, ⟨[108, 101, 110, 99, 117, 116], [51, 49, 49], 1, 8, false⟩]
def findR (n a : List UInt8) : Option RowR := rowsT.find? (fun r => decide (r.op = n) && decide (r.args = a))
def textsR (r : RowR) : Bool := r.regex || (decide (r.op = nString) || decide (r.op = nRef))
def dig (t : Int) : UInt8 := UInt8.ofNat (48 + t.toNat)
def typedT (n : List UInt8) (o : OpI) (ts : List Int) : Bool :=
  if isCmpT n = true then (if ts.getD 0 0 ≠ ts.getD 1 0 then false else if ts.getD 0 0 = 2 then isEqT n else decide (ts.getD 0 0 = 1 ∨ ts.getD 0 0 = 3)) else decide (ts = o.args)
structure NameOk (n : List UInt8) (o : OpI) (r : RowR) : Prop where
  len : r.args.length = o.args.length
  text : textsR r = o.text
  lo : 1 ≤ o.res
  hi : o.res ≤ 4
  find : ∀ ts : List Int, ts.length = o.args.length → (∀ t ∈ ts, 1 ≤ t ∧ t ≤ 4) → match findR n (ts.map dig) with
    | none => typedT n o ts = false
    | some r2 => typedT n o ts = true ∧ r2.ty = o.res ∧ r2.regex = o.regex
end Go.Proofs.Ytniefnjcimempaa
