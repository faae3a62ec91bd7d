/- A region that draws its order, where two operations may come up. No function of the program is named. -/
import Derived.Test.YtphpfkhpihlalaaRegZ
namespace Go.Proofs.Ytphpfkhpihlalaa
open Go
section
variable {P : Program} {ops : Array Oper} {Q : Exit → Act → World → Prop} {md : Region.Mode} {S : World → Prop}
/-- Two operations alone may come up. -/
theorem wpAnyH_two {i j : Nat} {o o' : Oper} {fuel : Nat} {listed : Array Bool} {a : Act} {w : World} (hr : Region.ready md ops listed = [i, j]) (ho : ops[i]? = some o) (ho' : ops[j]? = some o')
    (h : ∀ K' : Act → World → Prop, Shut (∀ a w, S w → wpAnyH P md ops Q S fuel (listed.setIfInBounds i true) a w → K' a w) → if Region.wanted o (yielded ops a.tmps) = true then Oper.wp P o a w K' Q else K' (a.put o.dst undef) w)
    (h' : ∀ K' : Act → World → Prop, Shut (∀ a w, S w → wpAnyH P md ops Q S fuel (listed.setIfInBounds j true) a w → K' a w) → if Region.wanted o' (yielded ops a.tmps) = true then Oper.wp P o' a w K' Q else K' (a.put o'.dst undef) w) : wpAnyH P md ops Q S (fuel + 1) listed a w :=
  wpAnyH_ready hr (by simp) (AllReadyH.cons ho (fun K' hK => h K' (fun a w hS hW => hK a w hS (fun _ => hW))) (AllReadyH.cons ho' (fun K' hK => h' K' (fun a w hS hW => hK a w hS (fun _ => hW))) AllReadyH.nil))
end
end Go.Proofs.Ytphpfkhpihlalaa
