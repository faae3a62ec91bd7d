/- The walks of the document's number, and of Ints. The text of a plan, in plain Lean. -/
import Derived.Test.YtoegklpomlhneaaGreatDoorqBase
import Derived.Lib.ItoaLen
import Derived.Lib.UnsafeStr
import Derived.Deep.LoopGhost
import Derived.IntWalk
import Derived.BigQuiet
import Derived.Laws.Concat
import Derived.Test.YtoegklpomlhneaaGreatDoorqRk
namespace Go.Proofs.YtoegklpomlhneaaGreatDoor
open Go.RowKit
theorem bytes_append (a b : List UInt8) : (⟨a.toArray⟩ : ByteArray) ++ ⟨b.toArray⟩ = ⟨(a ++ b).toArray⟩ := by
  apply ByteArray.ext
  simp
theorem itoa_small {n : Nat} (h : n < 10) : Lib.itoa n = [UInt8.ofNat (48 + n)] := by
  unfold Lib.itoa
  rw [if_neg (by omega), Int.toNat_natCast, Lib.decDigits, dif_pos h]
theorem itoa_big {n : Nat} (h : ¬ n < 10) : Lib.itoa n = Lib.itoa ((n / 10 : Nat) : Int) ++ Lib.itoa ((n % 10 : Nat) : Int) := by
  rw [itoa_small (Nat.mod_lt _ (by omega))]
  unfold Lib.itoa
  rw [if_neg (by omega), if_neg (by omega), Int.toNat_natCast, Int.toNat_natCast, Lib.decDigits, dif_neg h]
theorem concat_any (P : Program) (a b : List UInt8) (h : a.length + b.length ≤ 9223372036854775807) (W : World) : (Op.stringOp .add ⟨a.toArray⟩ ⟨b.toArray⟩).run P W = .ok (.string ⟨(a ++ b).toArray⟩) W := by
  rw [run_string_add_sum W _ _ (by show a.toArray.size + b.toArray.size ≤ _; simpa using h)]
  exact congrArg (fun x => Result.ok (Value.string x) W) (bytes_append a b)
set_option maxRecDepth 100000 in
set_option maxHeartbeats 4000000 in
theorem rnum_small (n : Nat) (h : n < 10) (w : World) : Calls Tryz.prog 33 #[.int .i64 n] w fun e w' => e = .returned (.string ⟨(Lib.itoa n).toArray⟩) ∧ w = w' := by
  rw [itoa_small h]
  have hc : n = 0 ∨ n = 1 ∨ n = 2 ∨ n = 3 ∨ n = 4 ∨ n = 5 ∨ n = 6 ∨ n = 7 ∨ n = 8 ∨ n = 9 := by omega
  clear h
  rcases hc with rfl | rfl | rfl | rfl | rfl | rfl | rfl | rfl | rfl | rfl
  · have hs : ∀ W : World, (Instr.slice 9 (.string ⟨#[48, 49, 50, 51, 52, 53, 54, 55, 56, 57]⟩) (some (.int .i64 0)) (some (.int .i64 1)) none).run Tryz.prog W = .ok (.string ⟨#[48]⟩) W := fun W => by kernel_rfl
    have hw : IntKind.i64.wrap 1 = 1 := by kernel_rfl
    go_enter Tryz.func33, Tryz.ntmps33
    go_wp2_with fail
    go_ret
    exact ⟨rfl, rfl⟩
  · have hs : ∀ W : World, (Instr.slice 9 (.string ⟨#[48, 49, 50, 51, 52, 53, 54, 55, 56, 57]⟩) (some (.int .i64 1)) (some (.int .i64 2)) none).run Tryz.prog W = .ok (.string ⟨#[49]⟩) W := fun W => by kernel_rfl
    have hw : IntKind.i64.wrap 2 = 2 := by kernel_rfl
    go_enter Tryz.func33, Tryz.ntmps33
    go_wp2_with fail
    go_ret
    exact ⟨rfl, rfl⟩
  · have hs : ∀ W : World, (Instr.slice 9 (.string ⟨#[48, 49, 50, 51, 52, 53, 54, 55, 56, 57]⟩) (some (.int .i64 2)) (some (.int .i64 3)) none).run Tryz.prog W = .ok (.string ⟨#[50]⟩) W := fun W => by kernel_rfl
    have hw : IntKind.i64.wrap 3 = 3 := by kernel_rfl
    go_enter Tryz.func33, Tryz.ntmps33
    go_wp2_with fail
    go_ret
    exact ⟨rfl, rfl⟩
  · have hs : ∀ W : World, (Instr.slice 9 (.string ⟨#[48, 49, 50, 51, 52, 53, 54, 55, 56, 57]⟩) (some (.int .i64 3)) (some (.int .i64 4)) none).run Tryz.prog W = .ok (.string ⟨#[51]⟩) W := fun W => by kernel_rfl
    have hw : IntKind.i64.wrap 4 = 4 := by kernel_rfl
    go_enter Tryz.func33, Tryz.ntmps33
    go_wp2_with fail
    go_ret
    exact ⟨rfl, rfl⟩
  · have hs : ∀ W : World, (Instr.slice 9 (.string ⟨#[48, 49, 50, 51, 52, 53, 54, 55, 56, 57]⟩) (some (.int .i64 4)) (some (.int .i64 5)) none).run Tryz.prog W = .ok (.string ⟨#[52]⟩) W := fun W => by kernel_rfl
    have hw : IntKind.i64.wrap 5 = 5 := by kernel_rfl
    go_enter Tryz.func33, Tryz.ntmps33
    go_wp2_with fail
    go_ret
    exact ⟨rfl, rfl⟩
  · have hs : ∀ W : World, (Instr.slice 9 (.string ⟨#[48, 49, 50, 51, 52, 53, 54, 55, 56, 57]⟩) (some (.int .i64 5)) (some (.int .i64 6)) none).run Tryz.prog W = .ok (.string ⟨#[53]⟩) W := fun W => by kernel_rfl
    have hw : IntKind.i64.wrap 6 = 6 := by kernel_rfl
    go_enter Tryz.func33, Tryz.ntmps33
    go_wp2_with fail
    go_ret
    exact ⟨rfl, rfl⟩
  · have hs : ∀ W : World, (Instr.slice 9 (.string ⟨#[48, 49, 50, 51, 52, 53, 54, 55, 56, 57]⟩) (some (.int .i64 6)) (some (.int .i64 7)) none).run Tryz.prog W = .ok (.string ⟨#[54]⟩) W := fun W => by kernel_rfl
    have hw : IntKind.i64.wrap 7 = 7 := by kernel_rfl
    go_enter Tryz.func33, Tryz.ntmps33
    go_wp2_with fail
    go_ret
    exact ⟨rfl, rfl⟩
  · have hs : ∀ W : World, (Instr.slice 9 (.string ⟨#[48, 49, 50, 51, 52, 53, 54, 55, 56, 57]⟩) (some (.int .i64 7)) (some (.int .i64 8)) none).run Tryz.prog W = .ok (.string ⟨#[55]⟩) W := fun W => by kernel_rfl
    have hw : IntKind.i64.wrap 8 = 8 := by kernel_rfl
    go_enter Tryz.func33, Tryz.ntmps33
    go_wp2_with fail
    go_ret
    exact ⟨rfl, rfl⟩
  · have hs : ∀ W : World, (Instr.slice 9 (.string ⟨#[48, 49, 50, 51, 52, 53, 54, 55, 56, 57]⟩) (some (.int .i64 8)) (some (.int .i64 9)) none).run Tryz.prog W = .ok (.string ⟨#[56]⟩) W := fun W => by kernel_rfl
    have hw : IntKind.i64.wrap 9 = 9 := by kernel_rfl
    go_enter Tryz.func33, Tryz.ntmps33
    go_wp2_with fail
    go_ret
    exact ⟨rfl, rfl⟩
  · have hs : ∀ W : World, (Instr.slice 9 (.string ⟨#[48, 49, 50, 51, 52, 53, 54, 55, 56, 57]⟩) (some (.int .i64 9)) (some (.int .i64 10)) none).run Tryz.prog W = .ok (.string ⟨#[57]⟩) W := fun W => by kernel_rfl
    have hw : IntKind.i64.wrap 10 = 10 := by kernel_rfl
    go_enter Tryz.func33, Tryz.ntmps33
    go_wp2_with fail
    go_ret
    exact ⟨rfl, rfl⟩
set_option maxRecDepth 100000 in
set_option maxHeartbeats 400000 in
theorem rnum_any : ∀ (n : Nat), n ≤ 9223372036854775807 → ∀ w : World, Calls Tryz.prog 33 #[.int .i64 n] w fun e w' => e = .returned (.string ⟨(Lib.itoa n).toArray⟩) ∧ w = w' := by
  intro n
  induction n using Nat.strongRecOn with
  | _ n ih =>
    intro hn w
    by_cases h : n < 10
    · exact rnum_small n h w
    · obtain ⟨m, hm⟩ : ∃ m, m = n / 10 := ⟨_, rfl⟩
      obtain ⟨r, hr⟩ : ∃ r, r = n % 10 := ⟨_, rfl⟩
      have h1 := ih m (by omega) (by omega)
      have h2 := rnum_small r (by omega)
      have q0 : ¬ ((n : Int) < 10) := by omega
      have hq : Int.tdiv (n : Int) 10 = (m : Int) := by rw [Int.tdiv_eq_ediv_of_nonneg (by omega)]; omega
      have hr' : Int.tmod (n : Int) 10 = (r : Int) := by rw [Int.tmod_eq_emod_of_nonneg (by omega)]; omega
      have l1 := Lib.itoa_length_le (m : Int) (by omega) (by omega)
      have l2 := Lib.itoa_length_le (r : Int) (by omega) (by omega)
      have hwm : IntKind.i64.wrap (Int.tdiv (n : Int) 10) = (m : Int) := by rw [hq]; exact IntWalk.i64_in (m : Int) (by omega)
      have hwr : IntKind.i64.wrap (Int.tmod (n : Int) 10) = (r : Int) := by rw [hr']; exact IntWalk.i64_in (r : Int) (by omega)
      have e1 : wrap64 (m : Int) = (m : Int) := IntWalk.wrap64_in _ (by omega)
      have e2 : wrap64 (r : Int) = (r : Int) := IntWalk.wrap64_in _ (by omega)
      have hq2 : (n : Int) / 10 = (m : Int) := by omega
      have hr2 : (n : Int) % 10 = (r : Int) := by omega
      have hct : ∀ W : World, (Op.stringOp .add ⟨(Lib.itoa m).toArray⟩ ⟨(Lib.itoa r).toArray⟩).run Tryz.prog W = .ok (.string ⟨(Lib.itoa n).toArray⟩) W := fun W => by
        rw [concat_any _ _ _ (by omega), itoa_big h, hm, hr]
      generalize Lib.itoa (n : Int) = tn at *
      generalize Lib.itoa (m : Int) = tm at *
      generalize Lib.itoa (r : Int) = tr at *
      have H1 := Lib.hid h1
      have H2 := Lib.hid h2
      clear h1 h2 ih l1 l2 hn hm hr h
      go_enter Tryz.func33, Tryz.ntmps33
      go_wp2_with fail
      refine (H1.out _).mono ?_
      rintro e w1 ⟨rfl, rfl⟩
      go_wp2_with fail
      refine (H2.out _).mono ?_
      rintro e w1 ⟨rfl, rfl⟩
      go_wp2_with fail
      go_ret
      exact ⟨rfl, rfl⟩
def InRl (w : World) (n f : Nat) (i : Value) (wr : World) : Prop := ∃ k : Nat, i = .int .i64 k ∧ k ≤ n ∧ n - k < f ∧ Hid (Below w.heap.size w wr)
set_option maxRecDepth 100000 in
theorem ints_any (A B : Option Addr) (c d : Nat) (xs : List Int) (w : World) (hlim : xs.length ≤ 100000) (h1 : Reads w w.heap.size 1 A xs.length (xs.map (Value.int .i64))) (h2 : Reads w w.heap.size 1 B xs.length (xs.map (Value.int .i64))) :
    Calls Tryz.prog 14 #[.slice A xs.length c, .slice B xs.length d] w (AwEnd w) := by
  have H1 := Lib.hid h1
  have H2 := Lib.hid h2
  obtain ⟨n, hn⟩ : ∃ n, n = xs.length := ⟨_, rfl⟩
  have HN := Lib.hid hn
  rw [← hn] at H1 H2 hlim ⊢
  clear h1 h2 hn
  go_enter Tryz.func14, Tryz.ntmps14
  go_wp2_with fail
  go_loopg [5] (n + 1) (fun f i wr => InRl w n f i wr)
  case atStart => exact ⟨0, rfl, by omega, by omega, Lib.hid (Below.refl _ _)⟩
  case round =>
    obtain ⟨k, rfl, hk, hkf, HB⟩ := hrel
    obtain ⟨f, rfl⟩ : ∃ f, gk = f + 1 := ⟨gk - 1, by omega⟩
    by_cases hlt : k < n
    · obtain ⟨x, hx⟩ : ∃ x, xs[k]? = some x := ⟨xs[k]'(by have := HN.out; omega), List.getElem?_eq_getElem _⟩
      obtain ⟨ba, oa, rfl, _, hca⟩ := (H1.out.below HB.out).form (by omega)
      obtain ⟨bb, ob, rfl, _, hcb⟩ := (H2.out.below HB.out).form (by omega)
      have z1 := hca k (.int .i64 x) (by rw [List.getElem?_map, hx]; rfl)
      have z2 := hcb k (.int .i64 x) (by rw [List.getElem?_map, hx]; rfl)
      have q0 : (k : Int) < (n : Int) := by omega
      have q1 : (0 : Int) ≤ (k : Int) := by omega
      clear hca hcb hx
      go_wp2_with fail
      go_quiet (fail)
      go_wp2_with fail
      go_roundg f
      case measure => omega
      case rel => exact ⟨k + 1, by go_num, by omega, by omega, Lib.hid (below_drewN HB.out _)⟩
    · have hkn : k = n := by omega
      subst hkn
      have q0 : ¬ ((k : Int) < (k : Int)) := by omega
      go_wp2_with fail
      go_ret
      exact ⟨rfl, HB.out⟩
end Go.Proofs.YtoegklpomlhneaaGreatDoor
namespace Go.Proofs.YtoegklpomlhneaaGreatDoor
open Go.RowKit
/-- The text of a plan. -/
def hexC (n : Nat) : UInt8 := if n < 10 then UInt8.ofNat (48 + n) else UInt8.ofNat (87 + n)
def quoteB (b : UInt8) : List UInt8 := if b = 34 ∨ b = 92 then [92, b] else if b < 32 ∨ 126 < b then [92, 120, hexC (b.toNat / 16), hexC (b.toNat % 16)] else [b]
def quoteT (t : List UInt8) : List UInt8 := t.flatMap quoteB
def hasText (n : List UInt8) : Bool := match opR n with
  | some o => o.text
  | none => false
def argsT (args : List Int) : List UInt8 := args.flatMap fun a => 32 :: Lib.itoa a
def midT (s : St) : List UInt8 := if s.op = nNumber then 32 :: Lib.itoa s.num else if hasText s.op = true then 32 :: 34 :: (quoteT s.text ++ [34]) else []
def fmtS (i : Nat) (s : St) : List UInt8 := Lib.itoa i ++ (32 :: (s.op ++ (midT s ++ (argsT s.args ++ [10]))))
def fmtK (l : List St) : Nat → List UInt8
  | 0 => []
  | k + 1 => fmtK l k ++ (match l[k]? with
    | some s => fmtS k s
    | none => [])
def fmtL (l : List St) : List UInt8 := fmtK l l.length
theorem fmtK_succ {l : List St} {k : Nat} {s : St} (h : l[k]? = some s) : fmtK l (k + 1) = fmtK l k ++ fmtS k s := by rw [fmtK, h]
theorem quoteB_len (b : UInt8) : 1 ≤ (quoteB b).length ∧ (quoteB b).length ≤ 4 := by
  unfold quoteB
  split
  · simp
  · split
    · simp
    · simp
theorem quoteT_len : ∀ t : List UInt8, (quoteT t).length ≤ 4 * t.length
  | [] => by simp [quoteT]
  | b :: t => by
    have h := quoteB_len b
    have ih := quoteT_len t
    unfold quoteT at *
    rw [List.flatMap_cons, List.length_append, List.length_cons]
    omega
def i64R (a : Int) : Prop := -9223372036854775808 ≤ a ∧ a ≤ 9223372036854775807
theorem argsT_len : ∀ args : List Int, (∀ a ∈ args, i64R a) → (argsT args).length ≤ 22 * args.length
  | [], _ => by simp [argsT]
  | a :: args, h => by
    have h1 := h a (List.mem_cons_self ..)
    have h2 := Lib.itoa_length_le a h1.1 h1.2
    have ih := argsT_len args (fun b hb => h b (List.mem_cons_of_mem _ hb))
    unfold argsT at *
    rw [List.flatMap_cons, List.length_append, List.length_cons, List.length_cons]
    omega
theorem fmtS_len {i : Nat} {s : St} {M : Nat} (hi : i ≤ 1000000) (hn : i64R s.num) (ha : ∀ a ∈ s.args, i64R a) (h3 : s.args.length ≤ 3) (ho : s.op.length ≤ 100) (ht : s.text.length ≤ M) : (fmtS i s).length ≤ 4 * M + 300 := by
  have h1 := Lib.itoa_length_le (i : Int) (by omega) (by omega)
  have h2 := argsT_len s.args ha
  have h4 := Lib.itoa_length_le s.num hn.1 hn.2
  have h5 := quoteT_len s.text
  have hm : (midT s).length ≤ 4 * M + 22 := by
    unfold midT
    split
    · simp; omega
    · split
      · simp; omega
      · simp
  unfold fmtS
  simp only [List.length_append, List.length_cons, List.length_nil]
  omega
theorem fmtK_len {l : List St} {M : Nat} (hl : l.length ≤ 1000000) (h : ∀ i s, l[i]? = some s → (fmtS i s).length ≤ M) : ∀ k, (fmtK l k).length ≤ k * M
  | 0 => by simp [fmtK]
  | k + 1 => by
    have ih := fmtK_len hl h k
    rw [fmtK, List.length_append]
    have : (match l[k]? with
      | some s => fmtS k s
      | none => []).length ≤ M := by
      cases e : l[k]? with
      | none => simp
      | some s => exact h k s e
    have e : (k + 1) * M = k * M + M := by rw [Nat.add_mul, Nat.one_mul]
    omega
end Go.Proofs.YtoegklpomlhneaaGreatDoor
