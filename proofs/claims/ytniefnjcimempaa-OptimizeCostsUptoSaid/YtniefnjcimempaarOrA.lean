/- The rules of optimize at a step that is a number: none applies (printed by gen_ora.py). -/
import Derived.Test.YtniefnjcimempaarBase
import Derived.Test.YtniefnjcimempaarMem
import Derived.Deep.LoopGhost
import Derived.IntWalk
import Derived.BigQuiet
namespace Go.Proofs.Ytniefnjcimempaa
open Go.RowKit
def NumAt (w : World) (gs i : Nat) (As : Option Addr) (cs : Nat) (num : Int) (T : ByteArray) (ty : Int) : Prop :=
  w.cell? ⟨gs, i * 5, none⟩ = some (.string ⟨#[110, 117, 109, 98, 101, 114]⟩) ∧ w.cell? ⟨gs, i * 5 + 1, none⟩ = some (.slice As 0 cs) ∧ w.cell? ⟨gs, i * 5 + 2, none⟩ = some (.int .i64 num) ∧ w.cell? ⟨gs, i * 5 + 3, none⟩ = some (.string T) ∧ w.cell? ⟨gs, i * 5 + 4, none⟩ = some (.int .i64 ty)
set_option maxRecDepth 100000 in
theorem fold_num (g gs n cap i : Nat) (As : Option Addr) (cs : Nat) (num ty : Int) (T : ByteArray) (w : World) (hg : w.cell? ⟨g, 0, none⟩ = some (.slice (some ⟨gs, 0, none⟩) n cap)) (hi : i < n) (x : NumAt w gs i As cs num T ty) :
    Calls Try.prog 57 #[.pointer (some ⟨g, 0, none⟩), .int .i64 i] w fun e w' => e = .returned (.bool false) ∧ Below w.heap.size w w' := by
  obtain ⟨x0, x1, x2, x3, x4⟩ := x
  have q0 : (i : Int) < (n : Int) := by omega
  have q1 : (0 : Int) ≤ (i : Int) := by omega
  go_enter Try.func57, Try.ntmps57
  go_wp2_with fail
  go_ret
  exact ⟨rfl, (Below.refl _ _).alloc (Nat.le_refl _) _⟩
set_option maxRecDepth 100000 in
theorem neutral_num (g gs n cap i : Nat) (As : Option Addr) (cs : Nat) (num ty : Int) (T : ByteArray) (w : World) (hg : w.cell? ⟨g, 0, none⟩ = some (.slice (some ⟨gs, 0, none⟩) n cap)) (hi : i < n) (x : NumAt w gs i As cs num T ty) :
    Calls Try.prog 58 #[.pointer (some ⟨g, 0, none⟩), .int .i64 i] w fun e w' => e = .returned (.bool false) ∧ Below w.heap.size w w' := by
  obtain ⟨x0, x1, x2, x3, x4⟩ := x
  have q0 : (i : Int) < (n : Int) := by omega
  have q1 : (0 : Int) ≤ (i : Int) := by omega
  go_enter Try.func58, Try.ntmps58
  go_wp2_with fail
  go_ret
  exact ⟨rfl, (Below.refl _ _).alloc (Nat.le_refl _) _⟩
set_option maxRecDepth 100000 in
theorem common_num (g gs n cap i : Nat) (As : Option Addr) (cs : Nat) (num ty : Int) (T : ByteArray) (w : World) (hg : w.cell? ⟨g, 0, none⟩ = some (.slice (some ⟨gs, 0, none⟩) n cap)) (hi : i < n) (x : NumAt w gs i As cs num T ty) :
    Calls Try.prog 60 #[.pointer (some ⟨g, 0, none⟩), .int .i64 i] w fun e w' => e = .returned (.bool false) ∧ Below w.heap.size w w' := by
  obtain ⟨x0, x1, x2, x3, x4⟩ := x
  have q0 : (i : Int) < (n : Int) := by omega
  have q1 : (0 : Int) ≤ (i : Int) := by omega
  go_enter Try.func60, Try.ntmps60
  go_wp2_with fail
  go_quiet (fail)
  go_wp2_with fail
  go_ret
  exact ⟨rfl, below_drewN ((Below.refl _ _).alloc (Nat.le_refl _) _) _⟩
set_option maxRecDepth 100000 in
theorem negate_num (g gs n cap i : Nat) (As : Option Addr) (cs : Nat) (num ty : Int) (T : ByteArray) (w : World) (hg : w.cell? ⟨g, 0, none⟩ = some (.slice (some ⟨gs, 0, none⟩) n cap)) (hi : i < n) (x : NumAt w gs i As cs num T ty) :
    Calls Try.prog 59 #[.pointer (some ⟨g, 0, none⟩), .int .i64 i] w fun e w' => e = .returned (.bool false) ∧ Below w.heap.size w w' := by
  obtain ⟨x0, x1, x2, x3, x4⟩ := x
  have q0 : (i : Int) < (n : Int) := by omega
  have q1 : (0 : Int) ≤ (i : Int) := by omega
  go_enter Try.func59, Try.ntmps59
  go_wp2_with fail
  go_ret
  exact ⟨rfl, Below.refl _ _⟩
set_option maxRecDepth 100000 in
theorem matches_num (g gs n cap i : Nat) (As : Option Addr) (cs : Nat) (num ty : Int) (T : ByteArray) (w : World) (hg : w.cell? ⟨g, 0, none⟩ = some (.slice (some ⟨gs, 0, none⟩) n cap)) (hi : i < n) (x : NumAt w gs i As cs num T ty) :
    Calls Try.prog 61 #[.pointer (some ⟨g, 0, none⟩), .int .i64 i] w fun e w' => e = .returned (.bool false) ∧ Below w.heap.size w w' := by
  obtain ⟨x0, x1, x2, x3, x4⟩ := x
  have q0 : (i : Int) < (n : Int) := by omega
  have q1 : (0 : Int) ≤ (i : Int) := by omega
  go_enter Try.func61, Try.ntmps61
  go_wp2_with fail
  go_ret
  exact ⟨rfl, Below.refl _ _⟩
set_option maxRecDepth 100000 in
theorem firstFind_num (g gs n cap i : Nat) (As : Option Addr) (cs : Nat) (num ty : Int) (T : ByteArray) (w : World) (hg : w.cell? ⟨g, 0, none⟩ = some (.slice (some ⟨gs, 0, none⟩) n cap)) (hi : i < n) (x : NumAt w gs i As cs num T ty) :
    Calls Try.prog 62 #[.pointer (some ⟨g, 0, none⟩), .int .i64 i] w fun e w' => e = .returned (.bool false) ∧ Below w.heap.size w w' := by
  obtain ⟨x0, x1, x2, x3, x4⟩ := x
  have q0 : (i : Int) < (n : Int) := by omega
  have q1 : (0 : Int) ≤ (i : Int) := by omega
  go_enter Try.func62, Try.ntmps62
  go_wp2_with fail
  go_ret
  exact ⟨rfl, Below.refl _ _⟩
set_option maxRecDepth 100000 in
theorem lenCut_num (g gs n cap i : Nat) (As : Option Addr) (cs : Nat) (num ty : Int) (T : ByteArray) (w : World) (hg : w.cell? ⟨g, 0, none⟩ = some (.slice (some ⟨gs, 0, none⟩) n cap)) (hi : i < n) (x : NumAt w gs i As cs num T ty) :
    Calls Try.prog 63 #[.pointer (some ⟨g, 0, none⟩), .int .i64 i] w fun e w' => e = .returned (.bool false) ∧ Below w.heap.size w w' := by
  obtain ⟨x0, x1, x2, x3, x4⟩ := x
  have q0 : (i : Int) < (n : Int) := by omega
  have q1 : (0 : Int) ≤ (i : Int) := by omega
  go_enter Try.func63, Try.ntmps63
  go_wp2_with fail
  go_ret
  exact ⟨rfl, Below.refl _ _⟩
set_option maxRecDepth 100000 in
theorem lenSum_num (g gs n cap i : Nat) (As : Option Addr) (cs : Nat) (num ty : Int) (T : ByteArray) (w : World) (hg : w.cell? ⟨g, 0, none⟩ = some (.slice (some ⟨gs, 0, none⟩) n cap)) (hi : i < n) (x : NumAt w gs i As cs num T ty) :
    Calls Try.prog 64 #[.pointer (some ⟨g, 0, none⟩), .int .i64 i] w fun e w' => e = .returned (.bool false) ∧ Below w.heap.size w w' := by
  obtain ⟨x0, x1, x2, x3, x4⟩ := x
  have q0 : (i : Int) < (n : Int) := by omega
  have q1 : (0 : Int) ≤ (i : Int) := by omega
  go_enter Try.func64, Try.ntmps64
  go_wp2_with fail
  go_ret
  exact ⟨rfl, Below.refl _ _⟩
set_option maxRecDepth 100000 in
theorem lenRep_num (g gs n cap i : Nat) (As : Option Addr) (cs : Nat) (num ty : Int) (T : ByteArray) (w : World) (hg : w.cell? ⟨g, 0, none⟩ = some (.slice (some ⟨gs, 0, none⟩) n cap)) (hi : i < n) (x : NumAt w gs i As cs num T ty) :
    Calls Try.prog 65 #[.pointer (some ⟨g, 0, none⟩), .int .i64 i] w fun e w' => e = .returned (.bool false) ∧ Below w.heap.size w w' := by
  obtain ⟨x0, x1, x2, x3, x4⟩ := x
  have q0 : (i : Int) < (n : Int) := by omega
  have q1 : (0 : Int) ≤ (i : Int) := by omega
  go_enter Try.func65, Try.ntmps65
  go_wp2_with fail
  go_ret
  exact ⟨rfl, Below.refl _ _⟩
def FirRel (J : World → Prop) (k f : Nat) (i : Value) (wr : World) : Prop := ∃ j : Nat, i = .int .i64 j ∧ j ≤ k ∧ k - j < f ∧ Hid (J wr)
set_option maxRecDepth 100000 in
theorem first_gen (F g gs n cap k : Nat) (J : World → Prop) (Post : World → Prop) (hn : n ≤ 100000) (hk : k ≤ n)
    (hcf : ∀ (x : Value) (w : World), (callFunc F #[.pointer (some ⟨g, 0, none⟩), x]).run Try.prog w = .ok (.enter F #[.pointer (some ⟨g, 0, none⟩), x]) w)
    (hJ : ∀ w, J w → w.cell? ⟨g, 0, none⟩ = some (.slice (some ⟨gs, 0, none⟩) n cap))
    (h1 : ∀ (i : Nat) (w : World), i < k → J w → Calls Try.prog F #[.pointer (some ⟨g, 0, none⟩), .int .i64 i] w fun e w' => e = .returned (.bool false) ∧ J w')
    (h2 : ∀ (w : World), k < n → J w → Calls Try.prog F #[.pointer (some ⟨g, 0, none⟩), .int .i64 k] w fun e w' => e = .returned (.bool true) ∧ Post w')
    (w : World) (hw : J w) : Calls Try.prog 56 #[.pointer (some ⟨g, 0, none⟩), .func (.func F) #[.pointer (some ⟨g, 0, none⟩)] #[]] w fun e w' => (k < n ∧ e = .returned (.bool true) ∧ Post w') ∨ (k = n ∧ e = .returned (.bool false) ∧ J w') := by
  have x0 := hJ w hw
  have H1 := Lib.hid h1
  have H2 := Lib.hid h2
  have HW := Lib.hid hw
  have HJ := Lib.hid hJ
  clear h1 h2 hw hJ
  go_enter Try.func56, Try.ntmps56
  go_wp2_with fail
  go_loopg [5, 11] (k + 1) (fun f _ i wr => FirRel J k f i wr)
  case atStart => exact ⟨0, rfl, by omega, by omega, HW⟩
  case round =>
    obtain ⟨j, rfl, hj, hjf, HR⟩ := hrel
    obtain ⟨f, rfl⟩ : ∃ f, gk = f + 1 := ⟨gk - 1, by omega⟩
    by_cases hjk : j < k
    · have q0 : (j : Int) < (n : Int) := by omega
      have H3 := Lib.hid (H1.out j wr hjk HR.out)
      go_wp2_with fail
      refine H3.out.mono ?_
      rintro e w2 ⟨rfl, hj2⟩
      have HJ2 := Lib.hid hj2
      clear hj2
      go_wp2_with fail
      go_roundg f
      case measure => omega
      case rel => exact ⟨j + 1, by go_num, by omega, by omega, HJ2⟩
    · have hjk : j = k := by omega
      subst hjk
      by_cases hjn : j < n
      · have q0 : (j : Int) < (n : Int) := by omega
        have H3 := Lib.hid (H2.out wr hjn HR.out)
        go_wp2_with fail
        refine H3.out.mono ?_
        rintro e w2 ⟨rfl, hj2⟩
        have HJ2 := Lib.hid hj2
        clear hj2
        go_wp2_with fail
        go_ret
        exact Or.inl ⟨hjn, rfl, HJ2.out⟩
      · have hjn : j = n := by omega
        subst hjn
        have q0 : ¬ ((j : Int) < (j : Int)) := by omega
        go_wp2_with fail
        go_ret
        first
          | exact ⟨rfl, HR.out⟩
          | exact Or.inr ⟨rfl, rfl, HR.out⟩
def IxRel (J : World → Prop) (k f : Nat) (i : Value) (wr : World) : Prop := ∃ j : Nat, i = .int .i64 j ∧ j ≤ k ∧ k - j < f ∧ Hid (J wr)
set_option maxRecDepth 100000 in
theorem contF_gen (F : Nat) (P0 : Value) (A : Option Addr) (c k : Nat) (ns : List (List UInt8)) (J : World → Prop) (Post : World → Prop) (hn : ns.length ≤ 100000) (hk : k ≤ ns.length)
    (hcf : ∀ (x : Value) (w : World), (callFunc F #[P0, x]).run Try.prog w = .ok (.enter F #[P0, x]) w)
    (hJ : ∀ (w : World) (i : Nat) (s : List UInt8), J w → ns[i]? = some s → ∃ b o, A = some ⟨b, o, none⟩ ∧ w.cell? ⟨b, o + i, none⟩ = some (.string ⟨s.toArray⟩))
    (h1 : ∀ (i : Nat) (s : List UInt8) (w : World), i < k → ns[i]? = some s → J w → Calls Try.prog F #[P0, .string ⟨s.toArray⟩] w fun e w' => e = .returned (.bool false) ∧ J w')
    (h2 : ∀ (s : List UInt8) (w : World), ns[k]? = some s → J w → Calls Try.prog F #[P0, .string ⟨s.toArray⟩] w fun e w' => e = .returned (.bool true) ∧ Post w')
    (w : World) (hw : J w) : Calls Try.prog 35 #[.slice A ns.length c, .func (.func F) #[P0] #[]] w fun e w' => (k < ns.length ∧ e = .returned (.bool true) ∧ Post w') ∨ (k = ns.length ∧ e = .returned (.bool false) ∧ J w') := by
  have hix : Calls Try.prog 54 #[.slice A ns.length c, .func (.func F) #[P0] #[]] w fun e w' => (k < ns.length ∧ e = .returned (.int .i64 k) ∧ Post w') ∨ (k = ns.length ∧ e = .returned (.int .i64 (-1)) ∧ J w') := by
    obtain ⟨n, hN⟩ : ∃ n, n = ns.length := ⟨_, rfl⟩
    rw [← hN] at hn hk ⊢
    have H1 := Lib.hid h1
    have H2 := Lib.hid h2
    have HW := Lib.hid hw
    have HJ := Lib.hid hJ
    have HN := Lib.hid hN
    clear h1 h2 hw hJ hN
    go_enter Try.func54, Try.ntmps54
    go_wp2_with fail
    go_loopg [5, 8] (k + 1) (fun f _ i wr => IxRel J k f i wr)
    case atStart => exact ⟨0, rfl, by omega, by omega, HW⟩
    case round =>
      obtain ⟨j, rfl, hj, hjf, HR⟩ := hrel
      obtain ⟨f, rfl⟩ : ∃ f, gk = f + 1 := ⟨gk - 1, by omega⟩
      by_cases hjn : j < n
      · obtain ⟨s, hs⟩ : ∃ s, ns[j]? = some s := ⟨ns[j]'(by have := HN.out; omega), List.getElem?_eq_getElem _⟩
        obtain ⟨b, o, rfl, x0⟩ := HJ.out wr j s HR.out hs
        have q0 : (j : Int) < (n : Int) := by omega
        have q1 : (0 : Int) ≤ (j : Int) := by omega
        by_cases hjk : j < k
        · have H3 := Lib.hid (H1.out j s wr hjk hs HR.out)
          clear hs
          go_wp2_with fail
          refine H3.out.mono ?_
          rintro e w2 ⟨rfl, hj2⟩
          have HJ2 := Lib.hid hj2
          clear hj2
          go_wp2_with fail
          go_roundg f
          case measure => omega
          case rel => exact ⟨j + 1, by go_num, by omega, by omega, HJ2⟩
        · have hjk : j = k := by omega
          subst hjk
          have H3 := Lib.hid (H2.out s wr hs HR.out)
          clear hs
          go_wp2_with fail
          refine H3.out.mono ?_
          rintro e w2 ⟨rfl, hj2⟩
          have HJ2 := Lib.hid hj2
          clear hj2
          go_wp2_with fail
          go_ret
          exact Or.inl ⟨hjn, rfl, HJ2.out⟩
      · have hjn' : j = n := by omega
        subst hjn'
        have hjk : j = k := by omega
        subst hjk
        have q0 : ¬ ((j : Int) < (j : Int)) := by omega
        go_wp2_with fail
        go_ret
        first
          | exact ⟨rfl, HR.out⟩
          | exact Or.inr ⟨rfl, rfl, HR.out⟩
  have HX := Lib.hid hix
  clear hix h1 h2 hw hJ hcf
  go_enter Try.func35, Try.ntmps35
  go_wp2_with fail
  refine HX.out.mono ?_
  rintro e w2 (⟨h, rfl, hp⟩ | ⟨h, rfl, hp⟩)
  · have HP := Lib.hid hp
    have q0 : (0 : Int) ≤ (k : Int) := by omega
    clear hp
    go_wp2_with fail
    go_ret
    exact Or.inl ⟨h, rfl, HP.out⟩
  · have HP := Lib.hid hp
    clear hp
    go_wp2_with fail
    go_ret
    exact Or.inr ⟨h, rfl, HP.out⟩
end Go.Proofs.Ytniefnjcimempaa
