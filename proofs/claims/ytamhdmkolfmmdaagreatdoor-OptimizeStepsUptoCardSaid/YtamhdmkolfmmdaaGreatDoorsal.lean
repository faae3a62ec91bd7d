/- The walks of evergreenbase.Num and Is. The rules of optimize at a step that is a number: none applies (printed by gen_ora.py). The walk of slices.Delete of a row's first step. The walk of slices.Delete of one step, wherever it lies but at the end. -/
import Derived.Test.YtamhdmkolfmmdaaGreatDoorsaa
import Derived.Test.YtamhdmkolfmmdaaGreatDoorProg
import Derived.WalkKit
import Derived.WalkSpells
import Derived.Lib.Hide
import Derived.Deep.LoopGhost
import Derived.IntWalk
import Derived.BigQuiet
import Derived.Laws.IdiomCopy
import Derived.Deep.RegionLaw
import Derived.Deep.Cut
import Derived.Deep.Upon
set_option linter.unusedVariables false
set_option linter.unusedSimpArgs false
namespace Go.Proofs.YtamhdmkolfmmdaaGreatDoor
open Go.RowKit
def errV (c : Int) : Value := if c = 0 then .nilIface else .iface 66 (.int .i64 c)
def ke4 (w : World) (e : Ending) (w' : World) : Prop := e = .returned (.bool true) ∧ Below w.heap.size w w'
theorem assert31 (W : World) (v : Value) : (Instr.typeAssert (.iface 66 v) 29 66 true).run Tryz.prog W = .ok (.tuple #[v, .bool true]) W := by kernel_rfl
theorem ke0 (k : Int) (w : World) : Calls Tryz.prog 12 #[.iface 66 (.int .i64 k)] w fun e w' => e = .returned (.int .i64 k) ∧ w = w' := by
 have ha := assert31
 go_enter Tryz.func12, Tryz.ntmps12
 go_wp2
 go_ret
 exact ⟨rfl, rfl⟩
set_option maxRecDepth 100000
def kcn (w : World) (gs i : Nat) (As : Option Addr) (cs : Nat) (num : Int) (T : ByteArray) (ty : Int) : Prop :=
 w.cell? ⟨gs, i * 5, none⟩ = some (.string ⟨#[110, 117, 109, 98, 101, 114]⟩) ∧ w.cell? ⟨gs, i * 5 + 1, none⟩ = some (.slice As 0 cs) ∧ w.cell? ⟨gs, i * 5 + 2, none⟩ = some (.int .i64 num) ∧ w.cell? ⟨gs, i * 5 + 3, none⟩ = some (.string T) ∧ w.cell? ⟨gs, i * 5 + 4, none⟩ = some (.int .i64 ty)
theorem kfx (g gs n cap i : Nat) (As : Option Addr) (cs : Nat) (num ty : Int) (T : ByteArray) (w : World) (hg : w.cell? ⟨g, 0, none⟩ = some (.slice (some ⟨gs, 0, none⟩) n cap)) (hi : i < n) (x : kcn w gs i As cs num T ty) :
  Calls Tryz.prog 68 #[.pointer (some ⟨g, 0, none⟩), .int .i64 i] w fun e w' => e = .returned (.bool false) ∧ Below w.heap.size w w' := by
 obtain ⟨x0, x1, x2, x3, x4⟩ := x
 have q0 : (i : Int) < (n : Int) := by omega
 have q1 : (0 : Int) ≤ (i : Int) := by omega
 go_enter Tryz.func68, Tryz.ntmps68
 go_wp2_with fail
 go_ret
 exact ⟨rfl, (Below.refl _ _).alloc (Nat.le_refl _) _⟩
theorem kiP (g gs n cap i : Nat) (As : Option Addr) (cs : Nat) (num ty : Int) (T : ByteArray) (w : World) (hg : w.cell? ⟨g, 0, none⟩ = some (.slice (some ⟨gs, 0, none⟩) n cap)) (hi : i < n) (x : kcn w gs i As cs num T ty) :
  Calls Tryz.prog 69 #[.pointer (some ⟨g, 0, none⟩), .int .i64 i] w fun e w' => e = .returned (.bool false) ∧ Below w.heap.size w w' := by
 obtain ⟨x0, x1, x2, x3, x4⟩ := x
 have q0 : (i : Int) < (n : Int) := by omega
 have q1 : (0 : Int) ≤ (i : Int) := by omega
 go_enter Tryz.func69, Tryz.ntmps69
 go_wp2_with fail
 go_ret
 exact ⟨rfl, (Below.refl _ _).alloc (Nat.le_refl _) _⟩
theorem kkS (g gs n cap i : Nat) (As : Option Addr) (cs : Nat) (num ty : Int) (T : ByteArray) (w : World) (hg : w.cell? ⟨g, 0, none⟩ = some (.slice (some ⟨gs, 0, none⟩) n cap)) (hi : i < n) (x : kcn w gs i As cs num T ty) :
  Calls Tryz.prog 71 #[.pointer (some ⟨g, 0, none⟩), .int .i64 i] w fun e w' => e = .returned (.bool false) ∧ Below w.heap.size w w' := by
 obtain ⟨x0, x1, x2, x3, x4⟩ := x
 have q0 : (i : Int) < (n : Int) := by omega
 have q1 : (0 : Int) ≤ (i : Int) := by omega
 go_enter Tryz.func71, Tryz.ntmps71
 go_wp2_with fail
 go_quiet (fail)
 go_wp2_with fail
 go_ret
 exact ⟨rfl, kaf ((Below.refl _ _).alloc (Nat.le_refl _) _) _⟩
theorem kku (g gs n cap i : Nat) (As : Option Addr) (cs : Nat) (num ty : Int) (T : ByteArray) (w : World) (hg : w.cell? ⟨g, 0, none⟩ = some (.slice (some ⟨gs, 0, none⟩) n cap)) (hi : i < n) (x : kcn w gs i As cs num T ty) :
  Calls Tryz.prog 70 #[.pointer (some ⟨g, 0, none⟩), .int .i64 i] w fun e w' => e = .returned (.bool false) ∧ Below w.heap.size w w' := by
 obtain ⟨x0, x1, x2, x3, x4⟩ := x
 have q0 : (i : Int) < (n : Int) := by omega
 have q1 : (0 : Int) ≤ (i : Int) := by omega
 go_enter Tryz.func70, Tryz.ntmps70
 go_wp2_with fail
 go_ret
 exact ⟨rfl, Below.refl _ _⟩
theorem ki2 (g gs n cap i : Nat) (As : Option Addr) (cs : Nat) (num ty : Int) (T : ByteArray) (w : World) (hg : w.cell? ⟨g, 0, none⟩ = some (.slice (some ⟨gs, 0, none⟩) n cap)) (hi : i < n) (x : kcn w gs i As cs num T ty) :
  Calls Tryz.prog 72 #[.pointer (some ⟨g, 0, none⟩), .int .i64 i] w fun e w' => e = .returned (.bool false) ∧ Below w.heap.size w w' := by
 obtain ⟨x0, x1, x2, x3, x4⟩ := x
 have q0 : (i : Int) < (n : Int) := by omega
 have q1 : (0 : Int) ≤ (i : Int) := by omega
 go_enter Tryz.func72, Tryz.ntmps72
 go_wp2_with fail
 go_ret
 exact ⟨rfl, Below.refl _ _⟩
theorem kg9 (g gs n cap i : Nat) (As : Option Addr) (cs : Nat) (num ty : Int) (T : ByteArray) (w : World) (hg : w.cell? ⟨g, 0, none⟩ = some (.slice (some ⟨gs, 0, none⟩) n cap)) (hi : i < n) (x : kcn w gs i As cs num T ty) :
  Calls Tryz.prog 73 #[.pointer (some ⟨g, 0, none⟩), .int .i64 i] w fun e w' => e = .returned (.bool false) ∧ Below w.heap.size w w' := by
 obtain ⟨x0, x1, x2, x3, x4⟩ := x
 have q0 : (i : Int) < (n : Int) := by omega
 have q1 : (0 : Int) ≤ (i : Int) := by omega
 go_enter Tryz.func73, Tryz.ntmps73
 go_wp2_with fail
 go_ret
 exact ⟨rfl, Below.refl _ _⟩
theorem kkG (g gs n cap i : Nat) (As : Option Addr) (cs : Nat) (num ty : Int) (T : ByteArray) (w : World) (hg : w.cell? ⟨g, 0, none⟩ = some (.slice (some ⟨gs, 0, none⟩) n cap)) (hi : i < n) (x : kcn w gs i As cs num T ty) :
  Calls Tryz.prog 74 #[.pointer (some ⟨g, 0, none⟩), .int .i64 i] w fun e w' => e = .returned (.bool false) ∧ Below w.heap.size w w' := by
 obtain ⟨x0, x1, x2, x3, x4⟩ := x
 have q0 : (i : Int) < (n : Int) := by omega
 have q1 : (0 : Int) ≤ (i : Int) := by omega
 go_enter Tryz.func74, Tryz.ntmps74
 go_wp2_with fail
 go_ret
 exact ⟨rfl, Below.refl _ _⟩
theorem kkz (g gs n cap i : Nat) (As : Option Addr) (cs : Nat) (num ty : Int) (T : ByteArray) (w : World) (hg : w.cell? ⟨g, 0, none⟩ = some (.slice (some ⟨gs, 0, none⟩) n cap)) (hi : i < n) (x : kcn w gs i As cs num T ty) :
  Calls Tryz.prog 75 #[.pointer (some ⟨g, 0, none⟩), .int .i64 i] w fun e w' => e = .returned (.bool false) ∧ Below w.heap.size w w' := by
 obtain ⟨x0, x1, x2, x3, x4⟩ := x
 have q0 : (i : Int) < (n : Int) := by omega
 have q1 : (0 : Int) ≤ (i : Int) := by omega
 go_enter Tryz.func75, Tryz.ntmps75
 go_wp2_with fail
 go_ret
 exact ⟨rfl, Below.refl _ _⟩
theorem kkD (g gs n cap i : Nat) (As : Option Addr) (cs : Nat) (num ty : Int) (T : ByteArray) (w : World) (hg : w.cell? ⟨g, 0, none⟩ = some (.slice (some ⟨gs, 0, none⟩) n cap)) (hi : i < n) (x : kcn w gs i As cs num T ty) :
  Calls Tryz.prog 76 #[.pointer (some ⟨g, 0, none⟩), .int .i64 i] w fun e w' => e = .returned (.bool false) ∧ Below w.heap.size w w' := by
 obtain ⟨x0, x1, x2, x3, x4⟩ := x
 have q0 : (i : Int) < (n : Int) := by omega
 have q1 : (0 : Int) ≤ (i : Int) := by omega
 go_enter Tryz.func76, Tryz.ntmps76
 go_wp2_with fail
 go_ret
 exact ⟨rfl, Below.refl _ _⟩
def FirRel (J : World → Prop) (k f : Nat) (i : Value) (wr : World) : Prop := ∃ j : Nat, i = .int .i64 j ∧ j ≤ k ∧ k - j < f ∧ Hid (J wr)
theorem kc3 (F g gs n cap k : Nat) (J : World → Prop) (Post : World → Prop) (hn : n ≤ 100000) (hk : k ≤ n)
  (hcf : ∀ (x : Value) (w : World), (callFunc F #[.pointer (some ⟨g, 0, none⟩), x]).run Tryz.prog w = .ok (.enter F #[.pointer (some ⟨g, 0, none⟩), x]) w)
  (hJ : ∀ w, J w → w.cell? ⟨g, 0, none⟩ = some (.slice (some ⟨gs, 0, none⟩) n cap))
  (h1 : ∀ (i : Nat) (w : World), i < k → J w → Calls Tryz.prog F #[.pointer (some ⟨g, 0, none⟩), .int .i64 i] w fun e w' => e = .returned (.bool false) ∧ J w')
  (h2 : ∀ (w : World), k < n → J w → Calls Tryz.prog F #[.pointer (some ⟨g, 0, none⟩), .int .i64 k] w fun e w' => e = .returned (.bool true) ∧ Post w')
  (w : World) (hw : J w) : Calls Tryz.prog 67 #[.pointer (some ⟨g, 0, none⟩), .func (.func F) #[.pointer (some ⟨g, 0, none⟩)] #[]] w fun e w' => (k < n ∧ e = .returned (.bool true) ∧ Post w') ∨ (k = n ∧ e = .returned (.bool false) ∧ J w') := by
 have x0 := hJ w hw
 have H1 := hD h1
 have H2 := hD h2
 have HW := hD hw
 have HJ := hD hJ
 clear h1 h2 hw hJ
 go_enter Tryz.func67, Tryz.ntmps67
 go_wp2_with fail
 go_loopg [5, 11] (k + 1) (fun f _ i wr => FirRel J k f i wr)
 case atStart => exact ⟨0, rfl, by omega, by omega, HW⟩
 case round =>
  obtain ⟨j, rfl, hj, hjf, HR⟩ := hrel
  obtain ⟨f, rfl⟩ : ∃ f, gk = f + 1 := ⟨gk - 1, by omega⟩
  by_cases hjk : j < k
  ·
   have q0 : (j : Int) < (n : Int) := by omega
   have H3 := hD (H1.out j wr hjk HR.out)
   go_wp2_with fail
   refine H3.out.mono ?_
   rintro e w2 ⟨rfl, hj2⟩
   have HJ2 := hD hj2
   clear hj2
   go_wp2_with fail
   go_roundg f
   case measure => omega
   case rel => exact ⟨j + 1, by go_num, by omega, by omega, HJ2⟩
  ·
   have hjk : j = k := by omega
   subst hjk
   by_cases hjn : j < n
   ·
    have q0 : (j : Int) < (n : Int) := by omega
    have H3 := hD (H2.out wr hjn HR.out)
    go_wp2_with fail
    refine H3.out.mono ?_
    rintro e w2 ⟨rfl, hj2⟩
    have HJ2 := hD hj2
    clear hj2
    go_wp2_with fail
    go_ret
    exact Or.inl ⟨hjn, rfl, HJ2.out⟩
   ·
    have hjn : j = n := by omega
    subst hjn
    have q0 : ¬ ((j : Int) < (j : Int)) := by omega
    go_wp2_with fail
    go_ret
    first
     | exact ⟨rfl, HR.out⟩
     | exact Or.inr ⟨rfl, rfl, HR.out⟩
def IxRel (J : World → Prop) (k f : Nat) (i : Value) (wr : World) : Prop := ∃ j : Nat, i = .int .i64 j ∧ j ≤ k ∧ k - j < f ∧ Hid (J wr)
theorem kdH (F : Nat) (P0 : Value) (A : Option Addr) (c k : Nat) (ns : List (List UInt8)) (J : World → Prop) (Post : World → Prop) (hn : ns.length ≤ 100000) (hk : k ≤ ns.length)
  (hcf : ∀ (x : Value) (w : World), (callFunc F #[P0, x]).run Tryz.prog w = .ok (.enter F #[P0, x]) w)
  (hJ : ∀ (w : World) (i : Nat) (s : List UInt8), J w → ns[i]? = some s → ∃ b o, A = some ⟨b, o, none⟩ ∧ w.cell? ⟨b, o + i, none⟩ = some (.string ⟨s.toArray⟩))
  (h1 : ∀ (i : Nat) (s : List UInt8) (w : World), i < k → ns[i]? = some s → J w → Calls Tryz.prog F #[P0, .string ⟨s.toArray⟩] w fun e w' => e = .returned (.bool false) ∧ J w')
  (h2 : ∀ (s : List UInt8) (w : World), ns[k]? = some s → J w → Calls Tryz.prog F #[P0, .string ⟨s.toArray⟩] w fun e w' => e = .returned (.bool true) ∧ Post w')
  (w : World) (hw : J w) : Calls Tryz.prog 39 #[.slice A ns.length c, .func (.func F) #[P0] #[]] w fun e w' => (k < ns.length ∧ e = .returned (.bool true) ∧ Post w') ∨ (k = ns.length ∧ e = .returned (.bool false) ∧ J w') := by
 have hix : Calls Tryz.prog 65 #[.slice A ns.length c, .func (.func F) #[P0] #[]] w fun e w' => (k < ns.length ∧ e = .returned (.int .i64 k) ∧ Post w') ∨ (k = ns.length ∧ e = .returned (.int .i64 (-1)) ∧ J w') := by
  obtain ⟨n, hN⟩ := xE ns.length
  rw [← hN] at hn hk ⊢
  have H1 := hD h1
  have H2 := hD h2
  have HW := hD hw
  have HJ := hD hJ
  have HN := hD hN
  clear h1 h2 hw hJ hN
  go_enter Tryz.func65, Tryz.ntmps65
  go_wp2_with fail
  go_loopg [5, 8] (k + 1) (fun f _ i wr => IxRel J k f i wr)
  case atStart => exact ⟨0, rfl, by omega, by omega, HW⟩
  case round =>
   obtain ⟨j, rfl, hj, hjf, HR⟩ := hrel
   obtain ⟨f, rfl⟩ : ∃ f, gk = f + 1 := ⟨gk - 1, by omega⟩
   by_cases hjn : j < n
   ·
    obtain ⟨s, hs⟩ : ∃ s, ns[j]? = some s := ⟨ns[j]'(by have := HN.out; omega), List.getElem?_eq_getElem _⟩
    obtain ⟨b, o, rfl, x0⟩ := HJ.out wr j s HR.out hs
    have q0 : (j : Int) < (n : Int) := by omega
    have q1 : (0 : Int) ≤ (j : Int) := by omega
    by_cases hjk : j < k
    ·
     have H3 := hD (H1.out j s wr hjk hs HR.out)
     clear hs
     go_wp2_with fail
     refine H3.out.mono ?_
     rintro e w2 ⟨rfl, hj2⟩
     have HJ2 := hD hj2
     clear hj2
     go_wp2_with fail
     go_roundg f
     case measure => omega
     case rel => exact ⟨j + 1, by go_num, by omega, by omega, HJ2⟩
    ·
     have hjk : j = k := by omega
     subst hjk
     have H3 := hD (H2.out s wr hs HR.out)
     clear hs
     go_wp2_with fail
     refine H3.out.mono ?_
     rintro e w2 ⟨rfl, hj2⟩
     have HJ2 := hD hj2
     clear hj2
     go_wp2_with fail
     go_ret
     exact Or.inl ⟨hjn, rfl, HJ2.out⟩
   ·
    have hjn' : j = n := by omega
    subst hjn'
    have hjk : j = k := by omega
    subst hjk
    have q0 : ¬ ((j : Int) < (j : Int)) := by omega
    go_wp2_with fail
    go_ret
    first
     | exact ⟨rfl, HR.out⟩
     | exact Or.inr ⟨rfl, rfl, HR.out⟩
 have HX := hD hix
 clear hix h1 h2 hw hJ hcf
 go_enter Tryz.func39, Tryz.ntmps39
 go_wp2_with fail
 refine HX.out.mono ?_
 rintro e w2 (⟨h, rfl, hp⟩ | ⟨h, rfl, hp⟩)
 ·
  have HP := hD hp
  have q0 : (0 : Int) ≤ (k : Int) := by omega
  clear hp
  go_wp2_with fail
  go_ret
  exact Or.inl ⟨h, rfl, HP.out⟩
 ·
  have HP := hD hp
  clear hp
  go_wp2_with fail
  go_ret
  exact Or.inr ⟨h, rfl, HP.out⟩
set_option maxHeartbeats 4000000
theorem y21 {P : Prop} (h : P := by
 have HB := hD hB
 have HS := hD hsz
 have H1 := hD h1
 obtain ⟨m, hm⟩ := xE (n + 1)
 first
 | guard_hyp t94q0
   obtain ⟨j, hj⟩ := xE (i + 1)
   rw [← hm, ← hj]
 | rw [← hm]
 have HM := hD hm
 first
 | guard_hyp t94q0
   have HJ := hD hj
   have q0 : (i : Int) ≤ (j : Int) := by omega
 | have q0 : (1 : Int) ≤ (m : Int) := by omega
 have q1 : (m : Int) ≤ (cap : Int) := by omega
 first
 | guard_hyp t94q0
   have q2 : (j : Int) ≤ (m : Int) := by omega
 | have q2 : m - 1 = n := by omega
 have q3 : (n : Int) ≤ (m : Int) := by omega
 first
 | guard_hyp t94q0
   have q4 : ¬ (cap = j) := by omega
   have q5 : ((i : Int) == (j : Int)) = false := beq_eq_false_iff_ne.2 (by omega)
   have q6 : (0 : Int) ≤ (i : Int) := by omega
   have q7 : (0 : Int) ≤ (j : Int) := by omega
   have q8 : (i : Int) ≤ (cap : Int) := by omega
   have q9 : (j : Int) ≤ (cap : Int) := by omega
   have qa : i ≤ cap := by omega
   have qb : ¬ (i = j) := by omega
   obtain ⟨d, hd⟩ := xE (n - i)
   have qd : m - j = d := by omega
   have qe : i + d = n := by omega
   have HD := hD hd
   have hjd : j + d ≤ cap := by omega
   have hjm : (j + d) * 5 ≤ (n + 1) * 5 := by omega
   have hij : i ≤ j := by omega
   clear hB hsz h1 hm hj hd
 | have q4 : ¬ (cap = 1) := by omega
   clear hB hsz h1 hm
 go_enter Tryz.func156, Tryz.ntmps156
 go_wp2_with fail
 first
 | guard_hyp t94q0
   go_region_law (first | (refine step_mid rfl (.tmp 22) (.tmp 25) rfl gs i j d cap _ cs HB.out.drew HS.out hjd hij (fun q v hq hv => H1.out q v (Nat.lt_of_lt_of_le hq hjm) hv) rfl rfl ?_; intro w2 cs2 hb2 hs2 hl2 hr2 hg2; have HB2 := hD hb2; have HS2 := hD hs2; have HL2 := hD hl2; have HR2 := hD hr2; have HG2 := hD hg2; clear hb2 hs2 hl2 hr2 hg2))
   have hcl := fun c ty => keu w2 gs (n * 5) c ty cs2 HB2.out (by rw [HS2.out, HS.out]; have := HM.out; omega)
   have HE := hD qe
   have qf : m - n = 1 := by have := HM.out; omega
   have qg : ¬ (n = cap) := by omega
   have qh : ¬ (cap = n) := by omega
   clear qd q4 q5
 | go_region_law (first | (refine kj7 rfl (.tmp 22) (.tmp 25) rfl gs _ cap _ cs HB.out.drew HS.out ?_ H1.out rfl rfl ?_; (omega); intro w2 cs2 hb2 hs2 hl2 hr2 hg2; have HB2 := hD hb2; have HS2 := hD hs2; have HL2 := hD hl2; have HR2 := hD hr2; have HG2 := hD hg2; clear hb2 hs2 hl2 hr2 hg2))
   have hcl := fun c ty => keu w2 gs (n * 5) c ty cs2 HB2.out (by rw [HS2.out, HS.out]; omega)
   have q5 : m - n = 1 := by omega
   have q6 : ¬ (n = cap) := by omega
   have q7 : ¬ (cap = n) := by omega
 go_wp2_with fail
 go_ret
 obtain ⟨cs3, e1, e2, e3, e4⟩ := kaH [.string ⟨#[]⟩, .slice none 0 0, .int .i64 0, .string ⟨#[]⟩, .int .i64 0] (n * 5) w2 cs2 HB2.out
 have hg3 := kat (g := gs) [.string ⟨#[]⟩, .slice none 0 0, .int .i64 0, .string ⟨#[]⟩, .int .i64 0] (n * 5) w2
 have hg2 : w.grownBy w2 (some gs) := ⟨HG2.out.os, HG2.out.tape, HG2.out.output, HG2.out.size, HG2.out.block⟩
 first
 | guard_hyp t94q0
   have hjj := HJ.out
   exact ⟨rfl, ⟨hg3.os.trans hg2.os, hg3.tape.trans hg2.tape, hg3.output.trans hg2.output, Nat.le_trans hg2.size hg3.size, fun i hi hne => (hg3.block i (Nat.lt_of_lt_of_le hi hg2.size) hne).trans (hg2.block i hi hne)⟩,
    cs3, e1, e2.trans HS2.out, fun q hq => (e4 q (.inl (by omega))).trans (HR2.out q (.inl hq)), fun q hq1 hq2 => by
     rw [e4 q (.inl hq2)]
     have := HL2.out (q - i * 5) (by omega)
     rw [show i * 5 + (q - i * 5) = q by omega, show j * 5 + (q - i * 5) = 5 + q by omega] at this
     exact this⟩
 | refine ⟨rfl, ⟨hg3.os.trans hg2.os, hg3.tape.trans hg2.tape, hg3.output.trans hg2.output, Nat.le_trans hg2.size hg3.size, fun i hi hne => (hg3.block i (Nat.lt_of_lt_of_le hi hg2.size) hne).trans (hg2.block i hi hne)⟩,
    cs3, e1, e2.trans HS2.out, fun i hi => (e4 i (.inl hi)).trans (HL2.out i hi), fun i v hi hv => H1.out (5 + i) v (by omega) (by rw [← HL2.out i hi, ← e4 i (.inl hi)]; exact hv)⟩) : P := h
theorem kaH {g : Nat} {t : TypeId} : ∀ (vs : List Value) (o : Nat) (w : World) (cs : Array Value), Blk w g t cs → ∃ cs', Blk (w.setCells g o vs) g t cs' ∧ cs'.size = cs.size ∧ (∀ j, j < vs.length → o + j < cs.size → cs'[o + j]? = vs[j]?) ∧ (∀ i, (i < o ∨ o + vs.length ≤ i) → cs'[i]? = cs[i]?)
 | [], o, w, cs, h => ⟨cs, h, rfl, fun j hj => by simp at hj, fun _ _ => rfl⟩
 | v :: vs, o, w, cs, h => by
  obtain ⟨cs', h1, h2, h3, h4⟩ := kaH vs (o + 1) (w.setCell ⟨g, o, none⟩ v) _ (h.set_ o v)
  rw [Array.size_setIfInBounds] at h2 h3
  refine ⟨cs', h1, h2, fun j hj hs => ?_, fun i hi => ?_⟩
  ·
   cases j with
   | zero =>
    rw [Nat.add_zero, h4 o (.inl (by omega)), Array.getElem?_setIfInBounds_self_of_lt (by omega)]
    rfl
   | succ j =>
    have := h3 j (by simpa using hj) (by omega)
    rw [show o + (j + 1) = o + 1 + j by omega, this]
    rfl
  ·
   rw [List.length_cons] at hi
   rw [h4 i (by omega), Array.getElem?_setIfInBounds_ne (by omega)]
theorem ket {g : Nat} : ∀ (vs : List Value) (o : Nat) (w : World), (w.setCells g o vs).heap.size = w.heap.size
 | [], _, _ => rfl
 | v :: vs, o, w => (ket vs (o + 1) _).trans (by simp)
theorem kes {g : Nat} : ∀ (vs : List Value) (o : Nat) (w : World), (w.setCells g o vs).tape = w.tape
 | [], _, _ => rfl
 | v :: vs, o, w => (kes vs (o + 1) _).trans rfl
theorem kat {g : Nat} (vs : List Value) (o : Nat) (w : World) : w.grownBy (w.setCells g o vs) (some g) :=
 ⟨World.os_setCells w g o vs, kes vs o w, World.output_setCells w g o vs, by rw [ket]; exact Nat.le_refl _, fun i hi hne => World.heap_setCells_other w g o vs hi (fun e => hne (by rw [e]))⟩
theorem kcs : (Tryz.prog.info? 77).map (fun i => (i.zero, i.size, i.bytes)) = some (some (.agg #[.string ⟨#[]⟩, .slice none 0 0, .int .i64 0, .string ⟨#[]⟩, .int .i64 0]), 5, 72) := by kernel_rfl
theorem zeroStep (w : World) : (zeroValue 77).run Tryz.prog w = .ok (.agg #[.string ⟨#[]⟩, .slice none 0 0, .int .i64 0, .string ⟨#[]⟩, .int .i64 0]) w := by kernel_rfl
theorem keu (w : World) (gs o c ty : Nat) (cs : Array Value) (h : Blk w gs 77 cs) (ho : o + 5 ≤ cs.size) :
  (Builtin.clear_ #[24] ty #[.slice (some ⟨gs, o, none⟩) 1 c]).run Tryz.prog w = .ok (.tuple #[]) (w.setCells gs o [.string ⟨#[]⟩, .slice none 0 0, .int .i64 0, .string ⟨#[]⟩, .int .i64 0]) := by
 have hst := run_storeCells_cells (P := Tryz.prog) gs o [.string ⟨#[]⟩, .slice none 0 0, .int .i64 0, .string ⟨#[]⟩, .int .i64 0] 0 w (fun j hj => by rw [Nat.add_zero, h.cell, Array.getElem?_eq_getElem (by simp at hj; omega)]; rfl) (fun j hj => h.frozen _) (by simp [Value.oneCell'])
 rw [Nat.add_zero] at hst
 have hz : (Builtin.zeroCells (Value.agg #[.string ⟨#[]⟩, .slice none 0 0, .int .i64 0, .string ⟨#[]⟩, .int .i64 0]).cells 1).toList = [.string ⟨#[]⟩, .slice none 0 0, .int .i64 0, .string ⟨#[]⟩, .int .i64 0] := by kernel_rfl
 simp [Builtin.clear_, run_underlying Tryz.underlying24, zeroStep, hz, hst]
theorem kj7 {ops : Array Oper} {o : Oper} {a : Act} {W : World} {K : Act → World → Prop} {Q : Exit → Act → World → Prop} {E : Prop} (hgd : o.guard = none) (s x : Operand)
  (ho : o.op = Op.call { callee := Callee.builtin Builtin.append, args := #[s, x], argTypes := #[24, 24] }) (gs n cap c : Nat) (cs : Array Value) (hB : Blk W gs 77 cs) (hsz : cs.size = cap * 5) (hn : n + 1 ≤ cap) (h1 : ∀ i v, i < (n + 1) * 5 → cs[i]? = some v → v.oneCell' = true)
  (hs : a.eval s = .slice (some ⟨gs, 0, none⟩) 0 cap) (hx : a.eval x = .slice (some ⟨gs, 5, none⟩) n c)
  (h : ∀ (w' : World) (cs' : Array Value), Blk w' gs 77 cs' → cs'.size = cs.size → (∀ i, i < n * 5 → cs'[i]? = cs[5 + i]?) → (∀ i, n * 5 ≤ i → cs'[i]? = cs[i]?) → W.grownBy w' (some gs) → K (a.put o.dst (.slice (some ⟨gs, 0, none⟩) n cap)) w') :
  if Region.wanted o (yielded ops a.tmps) = true then Oper.wp Tryz.prog o a W K Q else E := by
 obtain ⟨i0, hinf, hz0, hz1, hz2⟩ := info_parts kcs
 have hl : ((cs.toList.drop 5).take (n * 5)).length = n * 5 := by rw [List.length_take, List.length_drop, Array.length_toList]; omega
 have hget : ∀ j u, ((cs.toList.drop 5).take (n * 5))[j]? = some u → cs[5 + j]? = some u := fun j u hu => by
  rw [List.getElem?_take] at hu
  split at hu
  ·
   rwa [List.getElem?_drop, Array.getElem?_toList] at hu
  ·
   cases hu
 refine step_append_room hgd s x 24 ho 77 i0 5 Tryz.underlying24 hinf hz1 gs 0 0 cap hs ⟨gs, 5, none⟩ n c ((cs.toList.drop 5).take (n * 5)) hx hl (fun j u hu => ?_) (fun u hu => by obtain ⟨j, hj⟩ := List.getElem?_of_mem hu; have hjl := (gH hj).1; rw [hl] at hjl; exact h1 (5 + j) u (by omega) (hget j u hj)) (by omega) (fun j hj => ?_) ?_
 ·
  rw [ka1, hB.cell]
  exact hget j u hu
 ·
  rw [hl] at hj
  refine ⟨?_, hB.frozen _⟩
  rw [hB.cell, Array.getElem?_eq_getElem (by omega)]
  rfl
 ·
  obtain ⟨cs', e1, e2, e3, e4⟩ := kaH ((cs.toList.drop 5).take (n * 5)) (0 + 0 * 5) W cs hB
  rw [Nat.zero_add]
  refine h _ cs' e1 e2 (fun i hi => ?_) (fun i hi => e4 i (.inr (by rw [hl]; omega))) (kat _ _ _)
  have := e3 i (by rw [hl]; exact hi) (by omega)
  rw [show 0 + 0 * 5 + i = i by omega] at this
  rw [this, List.getElem?_take, if_pos hi, List.getElem?_drop, Array.getElem?_toList]
theorem delete0 (gs n cap : Nat) (cs : Array Value) (w : World) (hB : Blk w gs 77 cs) (hsz : cs.size = cap * 5) (hn : 1 ≤ n) (hnc : n + 1 ≤ cap) (hnb : n ≤ 100000) (h1 : ∀ i v, i < (n + 1) * 5 → cs[i]? = some v → v.oneCell' = true) :
  Calls Tryz.prog 156 #[.slice (some ⟨gs, 0, none⟩) ((n + 1 : Nat)) cap, .int .i64 0, .int .i64 1] w fun e w' => e = .returned (.slice (some ⟨gs, 0, none⟩) n cap) ∧ w.grownBy w' (some gs) ∧
   ∃ cs', Blk w' gs 77 cs' ∧ cs'.size = cs.size ∧ (∀ i, i < n * 5 → cs'[i]? = cs[5 + i]?) ∧ ∀ i v, i < n * 5 → cs'[i]? = some v → v.oneCell' = true := by
 exact y21
theorem step_mid {ops : Array Oper} {o : Oper} {a : Act} {W : World} {K : Act → World → Prop} {Q : Exit → Act → World → Prop} {E : Prop} (hgd : o.guard = none) (s x : Operand)
  (ho : o.op = Op.call { callee := Callee.builtin Builtin.append, args := #[s, x], argTypes := #[24, 24] }) (gs i j n cap c : Nat) (cs : Array Value) (hB : Blk W gs 77 cs) (hsz : cs.size = cap * 5) (hn : j + n ≤ cap) (hij : i ≤ j) (h1 : ∀ q v, q < (j + n) * 5 → cs[q]? = some v → v.oneCell' = true)
  (hs : a.eval s = .slice (some ⟨gs, 0, none⟩) i cap) (hx : a.eval x = .slice (some ⟨gs, j * 5, none⟩) n c)
  (h : ∀ (w' : World) (cs' : Array Value), Blk w' gs 77 cs' → cs'.size = cs.size → (∀ q, q < n * 5 → cs'[i * 5 + q]? = cs[j * 5 + q]?) → (∀ q, q < i * 5 ∨ (i + n) * 5 ≤ q → cs'[q]? = cs[q]?) → W.grownBy w' (some gs) → K (a.put o.dst (.slice (some ⟨gs, 0, none⟩) (i + n) cap)) w') :
  if Region.wanted o (yielded ops a.tmps) = true then Oper.wp Tryz.prog o a W K Q else E := by
 obtain ⟨i0, hinf, hz0, hz1, hz2⟩ := info_parts kcs
 have hl : ((cs.toList.drop (j * 5)).take (n * 5)).length = n * 5 := by rw [List.length_take, List.length_drop, Array.length_toList]; omega
 have hget : ∀ q u, ((cs.toList.drop (j * 5)).take (n * 5))[q]? = some u → cs[j * 5 + q]? = some u := fun q u hu => by
  rw [List.getElem?_take] at hu
  split at hu
  ·
   rwa [List.getElem?_drop, Array.getElem?_toList] at hu
  ·
   cases hu
 refine step_append_room hgd s x 24 ho 77 i0 5 Tryz.underlying24 hinf hz1 gs 0 i cap hs ⟨gs, j * 5, none⟩ n c ((cs.toList.drop (j * 5)).take (n * 5)) hx hl (fun q u hu => ?_) (fun u hu => by obtain ⟨q, hq⟩ := List.getElem?_of_mem hu; have hql := (gH hq).1; rw [hl] at hql; exact h1 (j * 5 + q) u (by omega) (hget q u hq)) (by omega) (fun q hq => ?_) ?_
 ·
  rw [ka1, hB.cell]
  exact hget q u hu
 ·
  rw [hl] at hq
  refine ⟨?_, hB.frozen _⟩
  rw [hB.cell, Array.getElem?_eq_getElem (by omega)]
  rfl
 ·
  obtain ⟨cs', e1, e2, e3, e4⟩ := kaH ((cs.toList.drop (j * 5)).take (n * 5)) (0 + i * 5) W cs hB
  rw [Nat.zero_add] at e1 e3 e4
  refine h _ cs' (by rw [Nat.zero_add]; exact e1) e2 (fun q hq => ?_) (fun q hq => e4 q (by rw [hl]; omega)) (kat _ _ _)
  rw [e3 q (by rw [hl]; exact hq) (by omega), List.getElem?_take, if_pos hq, List.getElem?_drop, Array.getElem?_toList]
theorem kl5 (gs n i cap : Nat) (cs : Array Value) (w : World) (hB : Blk w gs 77 cs) (hsz : cs.size = cap * 5) (hi : i < n) (hnc : n + 1 ≤ cap) (hnb : n ≤ 100000) (h1 : ∀ q v, q < (n + 1) * 5 → cs[q]? = some v → v.oneCell' = true) :
  Calls Tryz.prog 156 #[.slice (some ⟨gs, 0, none⟩) ((n + 1 : Nat)) cap, .int .i64 i, .int .i64 ((i + 1 : Nat) : Int)] w fun e w' => e = .returned (.slice (some ⟨gs, 0, none⟩) n cap) ∧ w.grownBy w' (some gs) ∧
   ∃ cs', Blk w' gs 77 cs' ∧ cs'.size = cs.size ∧ (∀ q, q < i * 5 → cs'[q]? = cs[q]?) ∧ (∀ q, i * 5 ≤ q → q < n * 5 → cs'[q]? = cs[5 + q]?) := by
 have t94q0 := True.intro
 exact y21
end Go.Proofs.YtamhdmkolfmmdaaGreatDoor
