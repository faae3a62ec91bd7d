/- The length of a slice that came in is within the reach. -/
import Derived.Lib.SmallJoins
import Derived.OpenShut
import Derived.SizedLaws
namespace Go.Proofs.Ytcppmmdkblmfoaa
open Go.RowKit Go.ChangeShapes Go.WideShapes Go.Deep
theorem sized_len {H : Type} {P : Program} {ts : List TypeId} {ds : List (DataW H)} (h : (DataW.weightsEach P ts ds).all (· ≤ reachBytes) = true) {j : Nat} {t e : TypeId} {d : DataW H} (ht : ts[j]? = some t) (hd : ds[j]? = some d) (hu : P.underlying t = some (.slice e)) (len by' : Nat) (hl : Joins.sliceLen d = len) (hb : P.bytesOf e = by') :
    len * by' ≤ 140737488351232 := by
  subst hl hb
  cases d with
  | slice es sp =>
    have := sized_slice h ht hd hu
    exact Nat.le_trans (Nat.mul_le_mul_right _ (Nat.le_add_right _ _)) this
  | _ => simp [Joins.sliceLen]
end Go.Proofs.Ytcppmmdkblmfoaa
