/- isNode, and tree.All of it. -/
import Derived.Test.YtniefnjcimempaaqOrdW
import Derived.WalkSpells
namespace Go.Proofs.Ytniefnjcimempaa
open Go.RowKit
/-- What isNode answers. -/
def isN (x : Lx) : Bool :=
  if x.kind = 1 then decide (0 ≤ x.num) && decide (x.text = []) && decide (x.args.length = 0)
  else if x.kind = 2 ∨ x.kind = 3 then decide (x.num = 0) && decide (x.args.length = 0)
  else if x.kind = 4 then decide (x.num = 0) else false
theorem isNode_any (x : Lx) (F : Nat → Prop) (w : World) (h : LxAt w F x) : Calls Try.prog 45 #[.pointer (some x.ad)] w fun e w' => e = .returned (.bool (isN x)) ∧ w = w' := by
  obtain ⟨b, o, A, c, had, _, hbl, h1, h2, h3, h4, _⟩ := h.cells
  rw [had]
  obtain ⟨R, hR⟩ : ∃ R, R = isN x := ⟨_, rfl⟩
  rw [← hR]
  unfold isN at hR
  obtain ⟨k, hk⟩ : ∃ k, k = x.kind := ⟨_, rfl⟩
  obtain ⟨t, ht⟩ : ∃ t, t = x.text := ⟨_, rfl⟩
  obtain ⟨m, hm⟩ : ∃ m, m = x.num := ⟨_, rfl⟩
  obtain ⟨n, hn⟩ : ∃ n, n = x.args.length := ⟨_, rfl⟩
  rw [← hk, ← ht, ← hm, ← hn] at hR
  rw [← hk] at h1
  rw [← ht] at h2
  rw [← hm] at h3
  rw [← hn] at h4
  have HR := Lib.hid hR
  clear hR hk ht hm hn h had
  go_enter Try.func45, Try.ntmps45
  go_wp2_with fail
  all_goals go_ret
  all_goals (refine ⟨?_, rfl⟩; rw [HR.out]; clear HR)
  all_goals (have e1 : ((n : Int) == 0) = decide (n = 0) := by rw [Bool.eq_iff_iff]; simp)
  all_goals (have e2 : (m == 0) = decide (m = 0) := rfl)
  all_goals (try rw [e1])
  all_goals (try rw [e2])
  all_goals (clear e1 e2; simp_all)
  all_goals (intros; omega)
/-- What tree.All answers. -/
theorem all_any (K : Nat) (p : Lx → Bool) (r : Lx) (w : World) (hcf : ∀ (a : Addr) (w : World), (callFunc K #[.pointer (some a)]).run Try.prog w = .ok (.enter K #[.pointer (some a)]) w) (hr : LxAt w (fun i => i < w.heap.size) r) (hsz : r.size ≤ 1000000)
    (hp : ∀ (x : Lx) (w1 : World), Sub x r → LxAt w1 (fun i => i < w.heap.size) x → Calls Try.prog K #[.pointer (some x.ad)] w1 fun e w' => e = .returned (.bool (p x)) ∧ w1 = w') :
    Calls Try.prog 44 #[.pointer (some r.ad), .func (Fn.func K) #[] #[]] w fun e w' => e = .returned (.bool (r.all p)) ∧ Below w.heap.size w w' := by
  have hc := order_any K p r w hcf hr hsz hp
  go_enter Try.func44, Try.ntmps44
  go_wp2_with fail
  refine hc.mono ?_
  rintro e w1 ⟨he, hbel⟩
  split at he
  · rename_i hp1
    obtain ⟨v, out, rfl, _⟩ := he
    go_wp2_with fail
    go_ret
    exact ⟨by rw [hp1]; rfl, hbel⟩
  · rename_i hp1
    subst he
    have hp2 : r.all p = false := by simpa using hp1
    go_wp2_with fail
    go_ret
    exact ⟨by rw [hp2]; rfl, hbel⟩
theorem allN_any (r : Lx) (w : World) (hr : LxAt w (fun i => i < w.heap.size) r) (hsz : r.size ≤ 1000000) :
    Calls Try.prog 44 #[.pointer (some r.ad), .func (Fn.func 45) #[] #[]] w fun e w' => e = .returned (.bool (r.all isN)) ∧ Below w.heap.size w w' :=
  all_any 45 isN r w (fun _ _ => by kernel_rfl) hr hsz (fun x w1 _ hx => isNode_any x _ w1 hx)
theorem allT (r : Lx) : r.all (fun _ => true) = true := by
  have h : ∀ n (r : Lx), r.size ≤ n → r.all (fun _ => true) = true := fun n => by
    induction n with
    | zero => intro r h; have := r.size_pos; omega
    | succ n ih =>
      intro r h
      rw [Lx.all_iff]
      exact ⟨rfl, fun a ha => ih a (by have := Lx.arg_size ha; omega)⟩
  exact h r.size r (Nat.le_refl _)
end Go.Proofs.Ytniefnjcimempaa
