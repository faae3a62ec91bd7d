/- types.node.take. -/
import Derived.Test.YtniefnjcimempaaqTyN
import Derived.Test.YtniefnjcimempaaqMem
import Derived.BigQuiet
import Derived.WalkSpells
namespace Go.Proofs.Ytniefnjcimempaa
open Go.RowKit
def isEqT (s : List UInt8) : Bool := decide (s = [61, 61]) || decide (s = [33, 61])
def isCmpT (s : List UInt8) : Bool := decide (s = [61, 61]) || (decide (s = [33, 61]) || (decide (s = [60]) || decide (s = [60, 61])))
/-- The first type after take; none: the error. -/
def takeR (s : List UInt8) (want : Int) (ck : Nat) (fs t : Int) : Option Int :=
  if isCmpT s = true then (if ck = 0 then (if t = 1 ∨ t = 3 ∨ (t = 2 ∧ isEqT s = true) then some t else none) else if t = fs then some fs else none)
  else if t = want then some fs else none
def TakeEnd (w : World) (g o ck : Nat) (fs : Int) (r : Option Int) (e : Ending) (w' : World) : Prop := match r with
  | none => e = .returned (.iface 37 (.int .i64 12)) ∧ w.grownBy w' (some g)
  | some f => e = .returned .nilIface ∧ ∃ k, (w' = ((w.drewN k).setCell ⟨g, o + 3, none⟩ (.int .i64 f)).setCell ⟨g, o + 2, none⟩ (.int .i64 (ck + 1 : Nat)) ∨ (f = fs ∧ w' = (w.drewN k).setCell ⟨g, o + 2, none⟩ (.int .i64 (ck + 1 : Nat))))
theorem tk_no {w w' : World} {g o ck : Nat} {fs : Int} {R : Option Int} (h : R = none) (hw : w.grownBy w' (some g)) : TakeEnd w g o ck fs R (.returned (.iface 37 (.int .i64 12))) w' := by
  subst h; exact ⟨rfl, hw⟩
theorem tk_set {w : World} {g o ck k : Nat} {fs f : Int} {R : Option Int} (h : R = some f) : TakeEnd w g o ck fs R (.returned .nilIface) (((w.drewN k).setCell ⟨g, o + 3, none⟩ (.int .i64 f)).setCell ⟨g, o + 2, none⟩ (.int .i64 (ck + 1 : Nat))) := by
  subst h; exact ⟨rfl, k, .inl rfl⟩
theorem tk_fs {w : World} {g o ck k : Nat} {fs : Int} {R : Option Int} (h : R = some fs) : TakeEnd w g o ck fs R (.returned .nilIface) ((w.drewN k).setCell ⟨g, o + 2, none⟩ (.int .i64 (ck + 1 : Nat))) := by
  subst h; exact ⟨rfl, k, .inr ⟨rfl, rfl⟩⟩
theorem tk_g0 (w : World) (g k : Nat) : w.grownBy (w.drewN k) (some g) := only_drewN (only_of_below (Below.refl _ _) _) k
theorem tk_g1 (w : World) (g o k : Nat) (v : Value) : w.grownBy ((w.drewN k).setCell ⟨g, o, none⟩ v) (some g) := only_setCell (tk_g0 w g k) (.inl rfl) v
set_option maxHeartbeats 4000000 in
set_option maxRecDepth 100000 in
theorem take_any (g o ck n c b p a q : Nat) (s : List UInt8) (fs t want : Int) (w : World)
    (c0 : w.cell? ⟨g, o, none⟩ = some (.pointer (some ⟨b, p, none⟩))) (c1 : w.cell? ⟨g, o + 1, none⟩ = some (.slice (some ⟨a, q, none⟩) n c)) (c2 : w.cell? ⟨g, o + 2, none⟩ = some (.int .i64 ck)) (c3 : w.cell? ⟨g, o + 3, none⟩ = some (.int .i64 fs))
    (f2 : w.frozen? ⟨g, o + 2, none⟩ = false) (f3 : w.frozen? ⟨g, o + 3, none⟩ = false) (d1 : w.cell? ⟨b, p + 1, none⟩ = some (.string ⟨s.toArray⟩)) (hS : w.cell? ⟨a, q + ck, none⟩ = some (.int .i64 want)) (hck : ck < n) (hn : n ≤ 100) :
    Calls Try.prog 68 #[.pointer (some ⟨g, o, none⟩), .int .i64 t] w (TakeEnd w g o ck fs (takeR s want ck fs t)) := by
  obtain ⟨R, hR⟩ : ∃ R, R = takeR s want ck fs t := ⟨_, rfl⟩
  rw [← hR]
  have HR := Lib.hid hR
  clear hR
  have hw1 : IntKind.i64.wrap ((ck : Int) + 1) = ((ck + 1 : Nat) : Int) := IntWalk.i64_in _ (by omega)
  have z0 : (decide ((ck : Int) < (n : Int))) = true := by simp; omega
  have z1 : (decide ((0 : Int) ≤ (ck : Int))) = true := by simp
  go_enter Try.func68, Try.ntmps68
  go_wp2_with fail
  go_quiet (fail)
  go_wp2_with fail
  all_goals go_ret
  all_goals (have hR := HR.out; unfold takeR isCmpT isEqT at hR; clear HR f2 f3 c0 c1 c2 c3 d1 hS z0 z1)
  all_goals first
    | (refine tk_no ?_ (by first | exact tk_g0 _ _ _ | exact tk_g1 _ _ _ _ _))
    | (refine tk_set ?_)
    | (refine tk_fs ?_)
    | trace_state
  all_goals first
    | (rw [hR]; clear hR; simp_all; done)
    | (rw [hR]; clear hR; simp_all; omega)
    | trace_state
end Go.Proofs.Ytniefnjcimempaa
