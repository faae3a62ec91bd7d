/- The walks of Signature, and of the reference's. -/
import Derived.Test.YtnloagofnbklmaaProg
import Derived.Test.YtnloagofnbklmaaMem
import Derived.WalkKit
import Derived.WalkSpells
import Derived.WalkLawsBesides
import Derived.Lib.Hide
namespace Go.Proofs.Ytnloagofnbklmaa
open Go.RowKit Go.WideMaps
/-- The functions: name, types of the arguments, type of the result. -/
def sigT : List (List UInt8 × List Int × Int) := [
  ([108, 101, 110], [3], 1),
  ([108, 105, 110, 101, 115], [3], 1),
  ([115, 105, 122, 101], [4], 1),
  ([99, 111, 109, 109, 111, 110], [3, 3], 1),
  ([109, 105, 110], [1, 1], 1),
  ([109, 97, 120], [1, 1], 1),
  ([43], [1, 1], 1),
  ([45], [1, 1], 1),
  ([42], [1, 1], 1),
  ([99, 111, 117, 110, 116], [3, 0], 1),
  ([61, 61], [1, 1], 2),
  ([33, 61], [1, 1], 2),
  ([60], [1, 1], 2),
  ([60, 61], [1, 1], 2),
  ([97, 110, 100], [2, 2], 2),
  ([111, 114], [2, 2], 2),
  ([110, 111, 116], [2], 2),
  ([104, 97, 115], [3, 0], 2),
  ([43, 43], [3, 3], 3),
  ([99, 117, 116], [3, 1, 1], 3),
  ([108, 105, 110, 101], [3, 1], 3),
  ([114, 101, 112], [3, 1], 3),
  ([112, 105, 99, 107], [3, 4, 1], 3),
  ([102, 105, 110, 100], [3, 0], 4),
  ([114, 111, 119, 115], [3], 4),
  ([115, 112, 97, 110], [1, 1], 4),
  ([119, 105, 116, 104, 105, 110], [4, 4], 4),
  ([111, 118, 101, 114], [4, 4], 4),
  ([117, 110, 105, 111, 110], [4, 4], 4),
  ([109, 105, 110, 117, 115], [4, 4], 4),
  ([97, 102, 116, 101, 114], [4, 4, 1], 4),
  ([102, 105, 114, 115, 116], [4, 1], 4)]
def sigF (l : List UInt8) : List (List UInt8 × List Int × Int) → Option (List Int × Int)
  | [] => none
  | (n, a, r) :: t => if l = n then some (a, r) else sigF l t
def sig (l : List UInt8) : Option (List Int × Int) := sigF l sigT
def SigEnd (w : World) (r : Option (List Int × Int)) (e : Ending) (w' : World) : Prop :=
  Below w.heap.size w w' ∧ match r with
    | some (a, r) => ∃ A c, e = .returned (.tuple #[.slice A a.length c, .int .i64 r, .bool true]) ∧ Reads w' w'.heap.size 1 A a.length (a.map (Value.int .i64))
    | none => e = .returned (.tuple #[.slice none 0 0, .int .i64 0, .bool false])
def SigRef (w : World) (r : Option (List Int × Int)) (e : Ending) (w' : World) : Prop :=
  Below w.heap.size w w' ∧ match r with
    | some (a, r) => ∃ A c, e = .returned (.tuple #[.slice A a.length c, .int .i64 r]) ∧ Reads w' w'.heap.size 1 A a.length (a.map (Value.int .i64))
    | none => e = .returned (.tuple #[.slice none 0 0, .int .i64 0])
theorem below_alloc (w : World) (o : Obj) : Below w.heap.size w (w.alloc o) := (Below.refl _ _).alloc (Nat.le_refl _) _
set_option maxRecDepth 100000 in
theorem sig15_0 (w : World) : Calls Try.prog 15 #[.string ⟨#[108, 101, 110]⟩] w (SigEnd w (some ([3], 1))) := by
  go_enter Try.func15, Try.ntmps15
  go_wp2_with fail
  go_ret3
  exact ⟨below_alloc _ _, _, _, rfl, Reads.of_alloc w _ 3 (by simp) rfl⟩
set_option maxRecDepth 100000 in
theorem sig15_1 (w : World) : Calls Try.prog 15 #[.string ⟨#[108, 105, 110, 101, 115]⟩] w (SigEnd w (some ([3], 1))) := by
  go_enter Try.func15, Try.ntmps15
  go_wp2_with fail
  go_ret3
  exact ⟨below_alloc _ _, _, _, rfl, Reads.of_alloc w _ 3 (by simp) rfl⟩
set_option maxRecDepth 100000 in
theorem sig15_2 (w : World) : Calls Try.prog 15 #[.string ⟨#[115, 105, 122, 101]⟩] w (SigEnd w (some ([4], 1))) := by
  go_enter Try.func15, Try.ntmps15
  go_wp2_with fail
  go_ret3
  exact ⟨below_alloc _ _, _, _, rfl, Reads.of_alloc w _ 3 (by simp) rfl⟩
set_option maxRecDepth 100000 in
theorem sig15_3 (w : World) : Calls Try.prog 15 #[.string ⟨#[99, 111, 109, 109, 111, 110]⟩] w (SigEnd w (some ([3, 3], 1))) := by
  go_enter Try.func15, Try.ntmps15
  go_wp2_with fail
  go_ret3
  exact ⟨below_alloc _ _, _, _, rfl, Reads.of_alloc w _ 3 (by simp) rfl⟩
set_option maxRecDepth 100000 in
theorem sig15_4 (w : World) : Calls Try.prog 15 #[.string ⟨#[109, 105, 110]⟩] w (SigEnd w (some ([1, 1], 1))) := by
  go_enter Try.func15, Try.ntmps15
  go_wp2_with fail
  go_ret3
  exact ⟨below_alloc _ _, _, _, rfl, Reads.of_alloc w _ 3 (by simp) rfl⟩
set_option maxRecDepth 100000 in
theorem sig15_5 (w : World) : Calls Try.prog 15 #[.string ⟨#[109, 97, 120]⟩] w (SigEnd w (some ([1, 1], 1))) := by
  go_enter Try.func15, Try.ntmps15
  go_wp2_with fail
  go_ret3
  exact ⟨below_alloc _ _, _, _, rfl, Reads.of_alloc w _ 3 (by simp) rfl⟩
set_option maxRecDepth 100000 in
theorem sig15_6 (w : World) : Calls Try.prog 15 #[.string ⟨#[43]⟩] w (SigEnd w (some ([1, 1], 1))) := by
  go_enter Try.func15, Try.ntmps15
  go_wp2_with fail
  go_ret3
  exact ⟨below_alloc _ _, _, _, rfl, Reads.of_alloc w _ 3 (by simp) rfl⟩
set_option maxRecDepth 100000 in
theorem sig15_7 (w : World) : Calls Try.prog 15 #[.string ⟨#[45]⟩] w (SigEnd w (some ([1, 1], 1))) := by
  go_enter Try.func15, Try.ntmps15
  go_wp2_with fail
  go_ret3
  exact ⟨below_alloc _ _, _, _, rfl, Reads.of_alloc w _ 3 (by simp) rfl⟩
set_option maxRecDepth 100000 in
theorem sig15_8 (w : World) : Calls Try.prog 15 #[.string ⟨#[42]⟩] w (SigEnd w (some ([1, 1], 1))) := by
  go_enter Try.func15, Try.ntmps15
  go_wp2_with fail
  go_ret3
  exact ⟨below_alloc _ _, _, _, rfl, Reads.of_alloc w _ 3 (by simp) rfl⟩
set_option maxRecDepth 100000 in
theorem sig15_9 (w : World) : Calls Try.prog 15 #[.string ⟨#[99, 111, 117, 110, 116]⟩] w (SigEnd w (some ([3, 0], 1))) := by
  go_enter Try.func15, Try.ntmps15
  go_wp2_with fail
  go_ret3
  exact ⟨below_alloc _ _, _, _, rfl, Reads.of_alloc w _ 3 (by simp) rfl⟩
set_option maxRecDepth 100000 in
theorem sig15_10 (w : World) : Calls Try.prog 15 #[.string ⟨#[61, 61]⟩] w (SigEnd w (some ([1, 1], 2))) := by
  go_enter Try.func15, Try.ntmps15
  go_wp2_with fail
  go_ret3
  exact ⟨below_alloc _ _, _, _, rfl, Reads.of_alloc w _ 3 (by simp) rfl⟩
set_option maxRecDepth 100000 in
theorem sig15_11 (w : World) : Calls Try.prog 15 #[.string ⟨#[33, 61]⟩] w (SigEnd w (some ([1, 1], 2))) := by
  go_enter Try.func15, Try.ntmps15
  go_wp2_with fail
  go_ret3
  exact ⟨below_alloc _ _, _, _, rfl, Reads.of_alloc w _ 3 (by simp) rfl⟩
set_option maxRecDepth 100000 in
theorem sig15_12 (w : World) : Calls Try.prog 15 #[.string ⟨#[60]⟩] w (SigEnd w (some ([1, 1], 2))) := by
  go_enter Try.func15, Try.ntmps15
  go_wp2_with fail
  go_ret3
  exact ⟨below_alloc _ _, _, _, rfl, Reads.of_alloc w _ 3 (by simp) rfl⟩
set_option maxRecDepth 100000 in
theorem sig15_13 (w : World) : Calls Try.prog 15 #[.string ⟨#[60, 61]⟩] w (SigEnd w (some ([1, 1], 2))) := by
  go_enter Try.func15, Try.ntmps15
  go_wp2_with fail
  go_ret3
  exact ⟨below_alloc _ _, _, _, rfl, Reads.of_alloc w _ 3 (by simp) rfl⟩
set_option maxRecDepth 100000 in
theorem sig15_14 (w : World) : Calls Try.prog 15 #[.string ⟨#[97, 110, 100]⟩] w (SigEnd w (some ([2, 2], 2))) := by
  go_enter Try.func15, Try.ntmps15
  go_wp2_with fail
  go_ret3
  exact ⟨below_alloc _ _, _, _, rfl, Reads.of_alloc w _ 3 (by simp) rfl⟩
set_option maxRecDepth 100000 in
theorem sig15_15 (w : World) : Calls Try.prog 15 #[.string ⟨#[111, 114]⟩] w (SigEnd w (some ([2, 2], 2))) := by
  go_enter Try.func15, Try.ntmps15
  go_wp2_with fail
  go_ret3
  exact ⟨below_alloc _ _, _, _, rfl, Reads.of_alloc w _ 3 (by simp) rfl⟩
set_option maxRecDepth 100000 in
theorem sig15_16 (w : World) : Calls Try.prog 15 #[.string ⟨#[110, 111, 116]⟩] w (SigEnd w (some ([2], 2))) := by
  go_enter Try.func15, Try.ntmps15
  go_wp2_with fail
  go_ret3
  exact ⟨below_alloc _ _, _, _, rfl, Reads.of_alloc w _ 3 (by simp) rfl⟩
set_option maxRecDepth 100000 in
theorem sig15_17 (w : World) : Calls Try.prog 15 #[.string ⟨#[104, 97, 115]⟩] w (SigEnd w (some ([3, 0], 2))) := by
  go_enter Try.func15, Try.ntmps15
  go_wp2_with fail
  go_ret3
  exact ⟨below_alloc _ _, _, _, rfl, Reads.of_alloc w _ 3 (by simp) rfl⟩
set_option maxRecDepth 100000 in
theorem sig15_18 (w : World) : Calls Try.prog 15 #[.string ⟨#[43, 43]⟩] w (SigEnd w (some ([3, 3], 3))) := by
  go_enter Try.func15, Try.ntmps15
  go_wp2_with fail
  go_ret3
  exact ⟨below_alloc _ _, _, _, rfl, Reads.of_alloc w _ 3 (by simp) rfl⟩
set_option maxRecDepth 100000 in
theorem sig15_19 (w : World) : Calls Try.prog 15 #[.string ⟨#[99, 117, 116]⟩] w (SigEnd w (some ([3, 1, 1], 3))) := by
  go_enter Try.func15, Try.ntmps15
  go_wp2_with fail
  go_ret3
  exact ⟨below_alloc _ _, _, _, rfl, Reads.of_alloc w _ 3 (by simp) rfl⟩
set_option maxRecDepth 100000 in
theorem sig15_20 (w : World) : Calls Try.prog 15 #[.string ⟨#[108, 105, 110, 101]⟩] w (SigEnd w (some ([3, 1], 3))) := by
  go_enter Try.func15, Try.ntmps15
  go_wp2_with fail
  go_ret3
  exact ⟨below_alloc _ _, _, _, rfl, Reads.of_alloc w _ 3 (by simp) rfl⟩
set_option maxRecDepth 100000 in
theorem sig15_21 (w : World) : Calls Try.prog 15 #[.string ⟨#[114, 101, 112]⟩] w (SigEnd w (some ([3, 1], 3))) := by
  go_enter Try.func15, Try.ntmps15
  go_wp2_with fail
  go_ret3
  exact ⟨below_alloc _ _, _, _, rfl, Reads.of_alloc w _ 3 (by simp) rfl⟩
set_option maxRecDepth 100000 in
theorem sig15_22 (w : World) : Calls Try.prog 15 #[.string ⟨#[112, 105, 99, 107]⟩] w (SigEnd w (some ([3, 4, 1], 3))) := by
  go_enter Try.func15, Try.ntmps15
  go_wp2_with fail
  go_ret3
  exact ⟨below_alloc _ _, _, _, rfl, Reads.of_alloc w _ 3 (by simp) rfl⟩
set_option maxRecDepth 100000 in
theorem sig15_23 (w : World) : Calls Try.prog 15 #[.string ⟨#[102, 105, 110, 100]⟩] w (SigEnd w (some ([3, 0], 4))) := by
  go_enter Try.func15, Try.ntmps15
  go_wp2_with fail
  go_ret3
  exact ⟨below_alloc _ _, _, _, rfl, Reads.of_alloc w _ 3 (by simp) rfl⟩
set_option maxRecDepth 100000 in
theorem sig15_24 (w : World) : Calls Try.prog 15 #[.string ⟨#[114, 111, 119, 115]⟩] w (SigEnd w (some ([3], 4))) := by
  go_enter Try.func15, Try.ntmps15
  go_wp2_with fail
  go_ret3
  exact ⟨below_alloc _ _, _, _, rfl, Reads.of_alloc w _ 3 (by simp) rfl⟩
set_option maxRecDepth 100000 in
theorem sig15_25 (w : World) : Calls Try.prog 15 #[.string ⟨#[115, 112, 97, 110]⟩] w (SigEnd w (some ([1, 1], 4))) := by
  go_enter Try.func15, Try.ntmps15
  go_wp2_with fail
  go_ret3
  exact ⟨below_alloc _ _, _, _, rfl, Reads.of_alloc w _ 3 (by simp) rfl⟩
set_option maxRecDepth 100000 in
theorem sig15_26 (w : World) : Calls Try.prog 15 #[.string ⟨#[119, 105, 116, 104, 105, 110]⟩] w (SigEnd w (some ([4, 4], 4))) := by
  go_enter Try.func15, Try.ntmps15
  go_wp2_with fail
  go_ret3
  exact ⟨below_alloc _ _, _, _, rfl, Reads.of_alloc w _ 3 (by simp) rfl⟩
set_option maxRecDepth 100000 in
theorem sig15_27 (w : World) : Calls Try.prog 15 #[.string ⟨#[111, 118, 101, 114]⟩] w (SigEnd w (some ([4, 4], 4))) := by
  go_enter Try.func15, Try.ntmps15
  go_wp2_with fail
  go_ret3
  exact ⟨below_alloc _ _, _, _, rfl, Reads.of_alloc w _ 3 (by simp) rfl⟩
set_option maxRecDepth 100000 in
theorem sig15_28 (w : World) : Calls Try.prog 15 #[.string ⟨#[117, 110, 105, 111, 110]⟩] w (SigEnd w (some ([4, 4], 4))) := by
  go_enter Try.func15, Try.ntmps15
  go_wp2_with fail
  go_ret3
  exact ⟨below_alloc _ _, _, _, rfl, Reads.of_alloc w _ 3 (by simp) rfl⟩
set_option maxRecDepth 100000 in
theorem sig15_29 (w : World) : Calls Try.prog 15 #[.string ⟨#[109, 105, 110, 117, 115]⟩] w (SigEnd w (some ([4, 4], 4))) := by
  go_enter Try.func15, Try.ntmps15
  go_wp2_with fail
  go_ret3
  exact ⟨below_alloc _ _, _, _, rfl, Reads.of_alloc w _ 3 (by simp) rfl⟩
set_option maxRecDepth 100000 in
theorem sig15_30 (w : World) : Calls Try.prog 15 #[.string ⟨#[97, 102, 116, 101, 114]⟩] w (SigEnd w (some ([4, 4, 1], 4))) := by
  go_enter Try.func15, Try.ntmps15
  go_wp2_with fail
  go_ret3
  exact ⟨below_alloc _ _, _, _, rfl, Reads.of_alloc w _ 3 (by simp) rfl⟩
set_option maxRecDepth 100000 in
theorem sig15_31 (w : World) : Calls Try.prog 15 #[.string ⟨#[102, 105, 114, 115, 116]⟩] w (SigEnd w (some ([4, 1], 4))) := by
  go_enter Try.func15, Try.ntmps15
  go_wp2_with fail
  go_ret3
  exact ⟨below_alloc _ _, _, _, rfl, Reads.of_alloc w _ 3 (by simp) rfl⟩
set_option maxRecDepth 100000 in
set_option maxHeartbeats 1000000 in
theorem sig15_none (l : List UInt8) (w : World) (hn : ∀ n ∈ sigT.map (·.1), l ≠ n) : Calls Try.prog 15 #[.string ⟨l.toArray⟩] w (SigEnd w none) := by
  have h0 : (l == [108, 101, 110]) = false := by simpa using hn [108, 101, 110] (by simp [sigT])
  have h1 : (l == [108, 105, 110, 101, 115]) = false := by simpa using hn [108, 105, 110, 101, 115] (by simp [sigT])
  have h2 : (l == [115, 105, 122, 101]) = false := by simpa using hn [115, 105, 122, 101] (by simp [sigT])
  have h3 : (l == [99, 111, 109, 109, 111, 110]) = false := by simpa using hn [99, 111, 109, 109, 111, 110] (by simp [sigT])
  have h4 : (l == [109, 105, 110]) = false := by simpa using hn [109, 105, 110] (by simp [sigT])
  have h5 : (l == [109, 97, 120]) = false := by simpa using hn [109, 97, 120] (by simp [sigT])
  have h6 : (l == [43]) = false := by simpa using hn [43] (by simp [sigT])
  have h7 : (l == [45]) = false := by simpa using hn [45] (by simp [sigT])
  have h8 : (l == [42]) = false := by simpa using hn [42] (by simp [sigT])
  have h9 : (l == [99, 111, 117, 110, 116]) = false := by simpa using hn [99, 111, 117, 110, 116] (by simp [sigT])
  have h10 : (l == [61, 61]) = false := by simpa using hn [61, 61] (by simp [sigT])
  have h11 : (l == [33, 61]) = false := by simpa using hn [33, 61] (by simp [sigT])
  have h12 : (l == [60]) = false := by simpa using hn [60] (by simp [sigT])
  have h13 : (l == [60, 61]) = false := by simpa using hn [60, 61] (by simp [sigT])
  have h14 : (l == [97, 110, 100]) = false := by simpa using hn [97, 110, 100] (by simp [sigT])
  have h15 : (l == [111, 114]) = false := by simpa using hn [111, 114] (by simp [sigT])
  have h16 : (l == [110, 111, 116]) = false := by simpa using hn [110, 111, 116] (by simp [sigT])
  have h17 : (l == [104, 97, 115]) = false := by simpa using hn [104, 97, 115] (by simp [sigT])
  have h18 : (l == [43, 43]) = false := by simpa using hn [43, 43] (by simp [sigT])
  have h19 : (l == [99, 117, 116]) = false := by simpa using hn [99, 117, 116] (by simp [sigT])
  have h20 : (l == [108, 105, 110, 101]) = false := by simpa using hn [108, 105, 110, 101] (by simp [sigT])
  have h21 : (l == [114, 101, 112]) = false := by simpa using hn [114, 101, 112] (by simp [sigT])
  have h22 : (l == [112, 105, 99, 107]) = false := by simpa using hn [112, 105, 99, 107] (by simp [sigT])
  have h23 : (l == [102, 105, 110, 100]) = false := by simpa using hn [102, 105, 110, 100] (by simp [sigT])
  have h24 : (l == [114, 111, 119, 115]) = false := by simpa using hn [114, 111, 119, 115] (by simp [sigT])
  have h25 : (l == [115, 112, 97, 110]) = false := by simpa using hn [115, 112, 97, 110] (by simp [sigT])
  have h26 : (l == [119, 105, 116, 104, 105, 110]) = false := by simpa using hn [119, 105, 116, 104, 105, 110] (by simp [sigT])
  have h27 : (l == [111, 118, 101, 114]) = false := by simpa using hn [111, 118, 101, 114] (by simp [sigT])
  have h28 : (l == [117, 110, 105, 111, 110]) = false := by simpa using hn [117, 110, 105, 111, 110] (by simp [sigT])
  have h29 : (l == [109, 105, 110, 117, 115]) = false := by simpa using hn [109, 105, 110, 117, 115] (by simp [sigT])
  have h30 : (l == [97, 102, 116, 101, 114]) = false := by simpa using hn [97, 102, 116, 101, 114] (by simp [sigT])
  have h31 : (l == [102, 105, 114, 115, 116]) = false := by simpa using hn [102, 105, 114, 115, 116] (by simp [sigT])
  clear hn
  go_enter Try.func15, Try.ntmps15
  go_wp2_with fail
  go_ret3
  exact ⟨Below.refl _ _, rfl⟩
theorem sig15_any (l : List UInt8) (w : World) : Calls Try.prog 15 #[.string ⟨l.toArray⟩] w (SigEnd w (sig l)) := by
  unfold sig sigT
  rw [sigF]
  by_cases h0 : l = [108, 101, 110]
  · rw [if_pos h0, h0]
    exact sig15_0 w
  rw [if_neg h0]
  rw [sigF]
  by_cases h1 : l = [108, 105, 110, 101, 115]
  · rw [if_pos h1, h1]
    exact sig15_1 w
  rw [if_neg h1]
  rw [sigF]
  by_cases h2 : l = [115, 105, 122, 101]
  · rw [if_pos h2, h2]
    exact sig15_2 w
  rw [if_neg h2]
  rw [sigF]
  by_cases h3 : l = [99, 111, 109, 109, 111, 110]
  · rw [if_pos h3, h3]
    exact sig15_3 w
  rw [if_neg h3]
  rw [sigF]
  by_cases h4 : l = [109, 105, 110]
  · rw [if_pos h4, h4]
    exact sig15_4 w
  rw [if_neg h4]
  rw [sigF]
  by_cases h5 : l = [109, 97, 120]
  · rw [if_pos h5, h5]
    exact sig15_5 w
  rw [if_neg h5]
  rw [sigF]
  by_cases h6 : l = [43]
  · rw [if_pos h6, h6]
    exact sig15_6 w
  rw [if_neg h6]
  rw [sigF]
  by_cases h7 : l = [45]
  · rw [if_pos h7, h7]
    exact sig15_7 w
  rw [if_neg h7]
  rw [sigF]
  by_cases h8 : l = [42]
  · rw [if_pos h8, h8]
    exact sig15_8 w
  rw [if_neg h8]
  rw [sigF]
  by_cases h9 : l = [99, 111, 117, 110, 116]
  · rw [if_pos h9, h9]
    exact sig15_9 w
  rw [if_neg h9]
  rw [sigF]
  by_cases h10 : l = [61, 61]
  · rw [if_pos h10, h10]
    exact sig15_10 w
  rw [if_neg h10]
  rw [sigF]
  by_cases h11 : l = [33, 61]
  · rw [if_pos h11, h11]
    exact sig15_11 w
  rw [if_neg h11]
  rw [sigF]
  by_cases h12 : l = [60]
  · rw [if_pos h12, h12]
    exact sig15_12 w
  rw [if_neg h12]
  rw [sigF]
  by_cases h13 : l = [60, 61]
  · rw [if_pos h13, h13]
    exact sig15_13 w
  rw [if_neg h13]
  rw [sigF]
  by_cases h14 : l = [97, 110, 100]
  · rw [if_pos h14, h14]
    exact sig15_14 w
  rw [if_neg h14]
  rw [sigF]
  by_cases h15 : l = [111, 114]
  · rw [if_pos h15, h15]
    exact sig15_15 w
  rw [if_neg h15]
  rw [sigF]
  by_cases h16 : l = [110, 111, 116]
  · rw [if_pos h16, h16]
    exact sig15_16 w
  rw [if_neg h16]
  rw [sigF]
  by_cases h17 : l = [104, 97, 115]
  · rw [if_pos h17, h17]
    exact sig15_17 w
  rw [if_neg h17]
  rw [sigF]
  by_cases h18 : l = [43, 43]
  · rw [if_pos h18, h18]
    exact sig15_18 w
  rw [if_neg h18]
  rw [sigF]
  by_cases h19 : l = [99, 117, 116]
  · rw [if_pos h19, h19]
    exact sig15_19 w
  rw [if_neg h19]
  rw [sigF]
  by_cases h20 : l = [108, 105, 110, 101]
  · rw [if_pos h20, h20]
    exact sig15_20 w
  rw [if_neg h20]
  rw [sigF]
  by_cases h21 : l = [114, 101, 112]
  · rw [if_pos h21, h21]
    exact sig15_21 w
  rw [if_neg h21]
  rw [sigF]
  by_cases h22 : l = [112, 105, 99, 107]
  · rw [if_pos h22, h22]
    exact sig15_22 w
  rw [if_neg h22]
  rw [sigF]
  by_cases h23 : l = [102, 105, 110, 100]
  · rw [if_pos h23, h23]
    exact sig15_23 w
  rw [if_neg h23]
  rw [sigF]
  by_cases h24 : l = [114, 111, 119, 115]
  · rw [if_pos h24, h24]
    exact sig15_24 w
  rw [if_neg h24]
  rw [sigF]
  by_cases h25 : l = [115, 112, 97, 110]
  · rw [if_pos h25, h25]
    exact sig15_25 w
  rw [if_neg h25]
  rw [sigF]
  by_cases h26 : l = [119, 105, 116, 104, 105, 110]
  · rw [if_pos h26, h26]
    exact sig15_26 w
  rw [if_neg h26]
  rw [sigF]
  by_cases h27 : l = [111, 118, 101, 114]
  · rw [if_pos h27, h27]
    exact sig15_27 w
  rw [if_neg h27]
  rw [sigF]
  by_cases h28 : l = [117, 110, 105, 111, 110]
  · rw [if_pos h28, h28]
    exact sig15_28 w
  rw [if_neg h28]
  rw [sigF]
  by_cases h29 : l = [109, 105, 110, 117, 115]
  · rw [if_pos h29, h29]
    exact sig15_29 w
  rw [if_neg h29]
  rw [sigF]
  by_cases h30 : l = [97, 102, 116, 101, 114]
  · rw [if_pos h30, h30]
    exact sig15_30 w
  rw [if_neg h30]
  rw [sigF]
  by_cases h31 : l = [102, 105, 114, 115, 116]
  · rw [if_pos h31, h31]
    exact sig15_31 w
  rw [if_neg h31]
  rw [sigF]
  refine sig15_none l w fun n hn => ?_
  simp only [sigT, List.map_cons, List.map_nil, List.mem_cons, List.not_mem_nil, or_false] at hn
  rcases hn with rfl | rfl | rfl | rfl | rfl | rfl | rfl | rfl | rfl | rfl | rfl | rfl | rfl | rfl | rfl | rfl | rfl | rfl | rfl | rfl | rfl | rfl | rfl | rfl | rfl | rfl | rfl | rfl | rfl | rfl | rfl | rfl <;> assumption
set_option maxRecDepth 100000 in
theorem sig16_0 (w : World) : Calls Try.prog 16 #[.string ⟨#[108, 101, 110]⟩] w (SigRef w (some ([3], 1))) := by
  go_enter Try.func16, Try.ntmps16
  go_wp2_with fail
  go_ret2
  exact ⟨below_alloc _ _, _, _, rfl, Reads.of_alloc w _ 3 (by simp) rfl⟩
set_option maxRecDepth 100000 in
theorem sig16_1 (w : World) : Calls Try.prog 16 #[.string ⟨#[108, 105, 110, 101, 115]⟩] w (SigRef w (some ([3], 1))) := by
  go_enter Try.func16, Try.ntmps16
  go_wp2_with fail
  go_ret2
  exact ⟨below_alloc _ _, _, _, rfl, Reads.of_alloc w _ 3 (by simp) rfl⟩
set_option maxRecDepth 100000 in
theorem sig16_2 (w : World) : Calls Try.prog 16 #[.string ⟨#[115, 105, 122, 101]⟩] w (SigRef w (some ([4], 1))) := by
  go_enter Try.func16, Try.ntmps16
  go_wp2_with fail
  go_ret2
  exact ⟨below_alloc _ _, _, _, rfl, Reads.of_alloc w _ 3 (by simp) rfl⟩
set_option maxRecDepth 100000 in
theorem sig16_3 (w : World) : Calls Try.prog 16 #[.string ⟨#[99, 111, 109, 109, 111, 110]⟩] w (SigRef w (some ([3, 3], 1))) := by
  go_enter Try.func16, Try.ntmps16
  go_wp2_with fail
  go_ret2
  exact ⟨below_alloc _ _, _, _, rfl, Reads.of_alloc w _ 3 (by simp) rfl⟩
set_option maxRecDepth 100000 in
theorem sig16_4 (w : World) : Calls Try.prog 16 #[.string ⟨#[109, 105, 110]⟩] w (SigRef w (some ([1, 1], 1))) := by
  go_enter Try.func16, Try.ntmps16
  go_wp2_with fail
  go_ret2
  exact ⟨below_alloc _ _, _, _, rfl, Reads.of_alloc w _ 3 (by simp) rfl⟩
set_option maxRecDepth 100000 in
theorem sig16_5 (w : World) : Calls Try.prog 16 #[.string ⟨#[109, 97, 120]⟩] w (SigRef w (some ([1, 1], 1))) := by
  go_enter Try.func16, Try.ntmps16
  go_wp2_with fail
  go_ret2
  exact ⟨below_alloc _ _, _, _, rfl, Reads.of_alloc w _ 3 (by simp) rfl⟩
set_option maxRecDepth 100000 in
theorem sig16_6 (w : World) : Calls Try.prog 16 #[.string ⟨#[43]⟩] w (SigRef w (some ([1, 1], 1))) := by
  go_enter Try.func16, Try.ntmps16
  go_wp2_with fail
  go_ret2
  exact ⟨below_alloc _ _, _, _, rfl, Reads.of_alloc w _ 3 (by simp) rfl⟩
set_option maxRecDepth 100000 in
theorem sig16_7 (w : World) : Calls Try.prog 16 #[.string ⟨#[45]⟩] w (SigRef w (some ([1, 1], 1))) := by
  go_enter Try.func16, Try.ntmps16
  go_wp2_with fail
  go_ret2
  exact ⟨below_alloc _ _, _, _, rfl, Reads.of_alloc w _ 3 (by simp) rfl⟩
set_option maxRecDepth 100000 in
theorem sig16_8 (w : World) : Calls Try.prog 16 #[.string ⟨#[42]⟩] w (SigRef w (some ([1, 1], 1))) := by
  go_enter Try.func16, Try.ntmps16
  go_wp2_with fail
  go_ret2
  exact ⟨below_alloc _ _, _, _, rfl, Reads.of_alloc w _ 3 (by simp) rfl⟩
set_option maxRecDepth 100000 in
theorem sig16_9 (w : World) : Calls Try.prog 16 #[.string ⟨#[99, 111, 117, 110, 116]⟩] w (SigRef w (some ([3, 0], 1))) := by
  go_enter Try.func16, Try.ntmps16
  go_wp2_with fail
  go_ret2
  exact ⟨below_alloc _ _, _, _, rfl, Reads.of_alloc w _ 3 (by simp) rfl⟩
set_option maxRecDepth 100000 in
theorem sig16_10 (w : World) : Calls Try.prog 16 #[.string ⟨#[61, 61]⟩] w (SigRef w (some ([1, 1], 2))) := by
  go_enter Try.func16, Try.ntmps16
  go_wp2_with fail
  go_ret2
  exact ⟨below_alloc _ _, _, _, rfl, Reads.of_alloc w _ 3 (by simp) rfl⟩
set_option maxRecDepth 100000 in
theorem sig16_11 (w : World) : Calls Try.prog 16 #[.string ⟨#[33, 61]⟩] w (SigRef w (some ([1, 1], 2))) := by
  go_enter Try.func16, Try.ntmps16
  go_wp2_with fail
  go_ret2
  exact ⟨below_alloc _ _, _, _, rfl, Reads.of_alloc w _ 3 (by simp) rfl⟩
set_option maxRecDepth 100000 in
theorem sig16_12 (w : World) : Calls Try.prog 16 #[.string ⟨#[60]⟩] w (SigRef w (some ([1, 1], 2))) := by
  go_enter Try.func16, Try.ntmps16
  go_wp2_with fail
  go_ret2
  exact ⟨below_alloc _ _, _, _, rfl, Reads.of_alloc w _ 3 (by simp) rfl⟩
set_option maxRecDepth 100000 in
theorem sig16_13 (w : World) : Calls Try.prog 16 #[.string ⟨#[60, 61]⟩] w (SigRef w (some ([1, 1], 2))) := by
  go_enter Try.func16, Try.ntmps16
  go_wp2_with fail
  go_ret2
  exact ⟨below_alloc _ _, _, _, rfl, Reads.of_alloc w _ 3 (by simp) rfl⟩
set_option maxRecDepth 100000 in
theorem sig16_14 (w : World) : Calls Try.prog 16 #[.string ⟨#[97, 110, 100]⟩] w (SigRef w (some ([2, 2], 2))) := by
  go_enter Try.func16, Try.ntmps16
  go_wp2_with fail
  go_ret2
  exact ⟨below_alloc _ _, _, _, rfl, Reads.of_alloc w _ 3 (by simp) rfl⟩
set_option maxRecDepth 100000 in
theorem sig16_15 (w : World) : Calls Try.prog 16 #[.string ⟨#[111, 114]⟩] w (SigRef w (some ([2, 2], 2))) := by
  go_enter Try.func16, Try.ntmps16
  go_wp2_with fail
  go_ret2
  exact ⟨below_alloc _ _, _, _, rfl, Reads.of_alloc w _ 3 (by simp) rfl⟩
set_option maxRecDepth 100000 in
theorem sig16_16 (w : World) : Calls Try.prog 16 #[.string ⟨#[110, 111, 116]⟩] w (SigRef w (some ([2], 2))) := by
  go_enter Try.func16, Try.ntmps16
  go_wp2_with fail
  go_ret2
  exact ⟨below_alloc _ _, _, _, rfl, Reads.of_alloc w _ 3 (by simp) rfl⟩
set_option maxRecDepth 100000 in
theorem sig16_17 (w : World) : Calls Try.prog 16 #[.string ⟨#[104, 97, 115]⟩] w (SigRef w (some ([3, 0], 2))) := by
  go_enter Try.func16, Try.ntmps16
  go_wp2_with fail
  go_ret2
  exact ⟨below_alloc _ _, _, _, rfl, Reads.of_alloc w _ 3 (by simp) rfl⟩
set_option maxRecDepth 100000 in
theorem sig16_18 (w : World) : Calls Try.prog 16 #[.string ⟨#[43, 43]⟩] w (SigRef w (some ([3, 3], 3))) := by
  go_enter Try.func16, Try.ntmps16
  go_wp2_with fail
  go_ret2
  exact ⟨below_alloc _ _, _, _, rfl, Reads.of_alloc w _ 3 (by simp) rfl⟩
set_option maxRecDepth 100000 in
theorem sig16_19 (w : World) : Calls Try.prog 16 #[.string ⟨#[99, 117, 116]⟩] w (SigRef w (some ([3, 1, 1], 3))) := by
  go_enter Try.func16, Try.ntmps16
  go_wp2_with fail
  go_ret2
  exact ⟨below_alloc _ _, _, _, rfl, Reads.of_alloc w _ 3 (by simp) rfl⟩
set_option maxRecDepth 100000 in
theorem sig16_20 (w : World) : Calls Try.prog 16 #[.string ⟨#[108, 105, 110, 101]⟩] w (SigRef w (some ([3, 1], 3))) := by
  go_enter Try.func16, Try.ntmps16
  go_wp2_with fail
  go_ret2
  exact ⟨below_alloc _ _, _, _, rfl, Reads.of_alloc w _ 3 (by simp) rfl⟩
set_option maxRecDepth 100000 in
theorem sig16_21 (w : World) : Calls Try.prog 16 #[.string ⟨#[114, 101, 112]⟩] w (SigRef w (some ([3, 1], 3))) := by
  go_enter Try.func16, Try.ntmps16
  go_wp2_with fail
  go_ret2
  exact ⟨below_alloc _ _, _, _, rfl, Reads.of_alloc w _ 3 (by simp) rfl⟩
set_option maxRecDepth 100000 in
theorem sig16_22 (w : World) : Calls Try.prog 16 #[.string ⟨#[112, 105, 99, 107]⟩] w (SigRef w (some ([3, 4, 1], 3))) := by
  go_enter Try.func16, Try.ntmps16
  go_wp2_with fail
  go_ret2
  exact ⟨below_alloc _ _, _, _, rfl, Reads.of_alloc w _ 3 (by simp) rfl⟩
set_option maxRecDepth 100000 in
theorem sig16_23 (w : World) : Calls Try.prog 16 #[.string ⟨#[102, 105, 110, 100]⟩] w (SigRef w (some ([3, 0], 4))) := by
  go_enter Try.func16, Try.ntmps16
  go_wp2_with fail
  go_ret2
  exact ⟨below_alloc _ _, _, _, rfl, Reads.of_alloc w _ 3 (by simp) rfl⟩
set_option maxRecDepth 100000 in
theorem sig16_24 (w : World) : Calls Try.prog 16 #[.string ⟨#[114, 111, 119, 115]⟩] w (SigRef w (some ([3], 4))) := by
  go_enter Try.func16, Try.ntmps16
  go_wp2_with fail
  go_ret2
  exact ⟨below_alloc _ _, _, _, rfl, Reads.of_alloc w _ 3 (by simp) rfl⟩
set_option maxRecDepth 100000 in
theorem sig16_25 (w : World) : Calls Try.prog 16 #[.string ⟨#[115, 112, 97, 110]⟩] w (SigRef w (some ([1, 1], 4))) := by
  go_enter Try.func16, Try.ntmps16
  go_wp2_with fail
  go_ret2
  exact ⟨below_alloc _ _, _, _, rfl, Reads.of_alloc w _ 3 (by simp) rfl⟩
set_option maxRecDepth 100000 in
theorem sig16_26 (w : World) : Calls Try.prog 16 #[.string ⟨#[119, 105, 116, 104, 105, 110]⟩] w (SigRef w (some ([4, 4], 4))) := by
  go_enter Try.func16, Try.ntmps16
  go_wp2_with fail
  go_ret2
  exact ⟨below_alloc _ _, _, _, rfl, Reads.of_alloc w _ 3 (by simp) rfl⟩
set_option maxRecDepth 100000 in
theorem sig16_27 (w : World) : Calls Try.prog 16 #[.string ⟨#[111, 118, 101, 114]⟩] w (SigRef w (some ([4, 4], 4))) := by
  go_enter Try.func16, Try.ntmps16
  go_wp2_with fail
  go_ret2
  exact ⟨below_alloc _ _, _, _, rfl, Reads.of_alloc w _ 3 (by simp) rfl⟩
set_option maxRecDepth 100000 in
theorem sig16_28 (w : World) : Calls Try.prog 16 #[.string ⟨#[117, 110, 105, 111, 110]⟩] w (SigRef w (some ([4, 4], 4))) := by
  go_enter Try.func16, Try.ntmps16
  go_wp2_with fail
  go_ret2
  exact ⟨below_alloc _ _, _, _, rfl, Reads.of_alloc w _ 3 (by simp) rfl⟩
set_option maxRecDepth 100000 in
theorem sig16_29 (w : World) : Calls Try.prog 16 #[.string ⟨#[109, 105, 110, 117, 115]⟩] w (SigRef w (some ([4, 4], 4))) := by
  go_enter Try.func16, Try.ntmps16
  go_wp2_with fail
  go_ret2
  exact ⟨below_alloc _ _, _, _, rfl, Reads.of_alloc w _ 3 (by simp) rfl⟩
set_option maxRecDepth 100000 in
theorem sig16_30 (w : World) : Calls Try.prog 16 #[.string ⟨#[97, 102, 116, 101, 114]⟩] w (SigRef w (some ([4, 4, 1], 4))) := by
  go_enter Try.func16, Try.ntmps16
  go_wp2_with fail
  go_ret2
  exact ⟨below_alloc _ _, _, _, rfl, Reads.of_alloc w _ 3 (by simp) rfl⟩
set_option maxRecDepth 100000 in
theorem sig16_31 (w : World) : Calls Try.prog 16 #[.string ⟨#[102, 105, 114, 115, 116]⟩] w (SigRef w (some ([4, 1], 4))) := by
  go_enter Try.func16, Try.ntmps16
  go_wp2_with fail
  go_ret2
  exact ⟨below_alloc _ _, _, _, rfl, Reads.of_alloc w _ 3 (by simp) rfl⟩
set_option maxRecDepth 100000 in
set_option maxHeartbeats 1000000 in
theorem sig16_none (l : List UInt8) (w : World) (hn : ∀ n ∈ sigT.map (·.1), l ≠ n) : Calls Try.prog 16 #[.string ⟨l.toArray⟩] w (SigRef w none) := by
  have h0 : (l == [108, 101, 110]) = false := by simpa using hn [108, 101, 110] (by simp [sigT])
  have h1 : (l == [108, 105, 110, 101, 115]) = false := by simpa using hn [108, 105, 110, 101, 115] (by simp [sigT])
  have h2 : (l == [115, 105, 122, 101]) = false := by simpa using hn [115, 105, 122, 101] (by simp [sigT])
  have h3 : (l == [99, 111, 109, 109, 111, 110]) = false := by simpa using hn [99, 111, 109, 109, 111, 110] (by simp [sigT])
  have h4 : (l == [109, 105, 110]) = false := by simpa using hn [109, 105, 110] (by simp [sigT])
  have h5 : (l == [109, 97, 120]) = false := by simpa using hn [109, 97, 120] (by simp [sigT])
  have h6 : (l == [43]) = false := by simpa using hn [43] (by simp [sigT])
  have h7 : (l == [45]) = false := by simpa using hn [45] (by simp [sigT])
  have h8 : (l == [42]) = false := by simpa using hn [42] (by simp [sigT])
  have h9 : (l == [99, 111, 117, 110, 116]) = false := by simpa using hn [99, 111, 117, 110, 116] (by simp [sigT])
  have h10 : (l == [61, 61]) = false := by simpa using hn [61, 61] (by simp [sigT])
  have h11 : (l == [33, 61]) = false := by simpa using hn [33, 61] (by simp [sigT])
  have h12 : (l == [60]) = false := by simpa using hn [60] (by simp [sigT])
  have h13 : (l == [60, 61]) = false := by simpa using hn [60, 61] (by simp [sigT])
  have h14 : (l == [97, 110, 100]) = false := by simpa using hn [97, 110, 100] (by simp [sigT])
  have h15 : (l == [111, 114]) = false := by simpa using hn [111, 114] (by simp [sigT])
  have h16 : (l == [110, 111, 116]) = false := by simpa using hn [110, 111, 116] (by simp [sigT])
  have h17 : (l == [104, 97, 115]) = false := by simpa using hn [104, 97, 115] (by simp [sigT])
  have h18 : (l == [43, 43]) = false := by simpa using hn [43, 43] (by simp [sigT])
  have h19 : (l == [99, 117, 116]) = false := by simpa using hn [99, 117, 116] (by simp [sigT])
  have h20 : (l == [108, 105, 110, 101]) = false := by simpa using hn [108, 105, 110, 101] (by simp [sigT])
  have h21 : (l == [114, 101, 112]) = false := by simpa using hn [114, 101, 112] (by simp [sigT])
  have h22 : (l == [112, 105, 99, 107]) = false := by simpa using hn [112, 105, 99, 107] (by simp [sigT])
  have h23 : (l == [102, 105, 110, 100]) = false := by simpa using hn [102, 105, 110, 100] (by simp [sigT])
  have h24 : (l == [114, 111, 119, 115]) = false := by simpa using hn [114, 111, 119, 115] (by simp [sigT])
  have h25 : (l == [115, 112, 97, 110]) = false := by simpa using hn [115, 112, 97, 110] (by simp [sigT])
  have h26 : (l == [119, 105, 116, 104, 105, 110]) = false := by simpa using hn [119, 105, 116, 104, 105, 110] (by simp [sigT])
  have h27 : (l == [111, 118, 101, 114]) = false := by simpa using hn [111, 118, 101, 114] (by simp [sigT])
  have h28 : (l == [117, 110, 105, 111, 110]) = false := by simpa using hn [117, 110, 105, 111, 110] (by simp [sigT])
  have h29 : (l == [109, 105, 110, 117, 115]) = false := by simpa using hn [109, 105, 110, 117, 115] (by simp [sigT])
  have h30 : (l == [97, 102, 116, 101, 114]) = false := by simpa using hn [97, 102, 116, 101, 114] (by simp [sigT])
  have h31 : (l == [102, 105, 114, 115, 116]) = false := by simpa using hn [102, 105, 114, 115, 116] (by simp [sigT])
  clear hn
  go_enter Try.func16, Try.ntmps16
  go_wp2_with fail
  go_ret2
  exact ⟨Below.refl _ _, rfl⟩
theorem sig16_any (l : List UInt8) (w : World) : Calls Try.prog 16 #[.string ⟨l.toArray⟩] w (SigRef w (sig l)) := by
  unfold sig sigT
  rw [sigF]
  by_cases h0 : l = [108, 101, 110]
  · rw [if_pos h0, h0]
    exact sig16_0 w
  rw [if_neg h0]
  rw [sigF]
  by_cases h1 : l = [108, 105, 110, 101, 115]
  · rw [if_pos h1, h1]
    exact sig16_1 w
  rw [if_neg h1]
  rw [sigF]
  by_cases h2 : l = [115, 105, 122, 101]
  · rw [if_pos h2, h2]
    exact sig16_2 w
  rw [if_neg h2]
  rw [sigF]
  by_cases h3 : l = [99, 111, 109, 109, 111, 110]
  · rw [if_pos h3, h3]
    exact sig16_3 w
  rw [if_neg h3]
  rw [sigF]
  by_cases h4 : l = [109, 105, 110]
  · rw [if_pos h4, h4]
    exact sig16_4 w
  rw [if_neg h4]
  rw [sigF]
  by_cases h5 : l = [109, 97, 120]
  · rw [if_pos h5, h5]
    exact sig16_5 w
  rw [if_neg h5]
  rw [sigF]
  by_cases h6 : l = [43]
  · rw [if_pos h6, h6]
    exact sig16_6 w
  rw [if_neg h6]
  rw [sigF]
  by_cases h7 : l = [45]
  · rw [if_pos h7, h7]
    exact sig16_7 w
  rw [if_neg h7]
  rw [sigF]
  by_cases h8 : l = [42]
  · rw [if_pos h8, h8]
    exact sig16_8 w
  rw [if_neg h8]
  rw [sigF]
  by_cases h9 : l = [99, 111, 117, 110, 116]
  · rw [if_pos h9, h9]
    exact sig16_9 w
  rw [if_neg h9]
  rw [sigF]
  by_cases h10 : l = [61, 61]
  · rw [if_pos h10, h10]
    exact sig16_10 w
  rw [if_neg h10]
  rw [sigF]
  by_cases h11 : l = [33, 61]
  · rw [if_pos h11, h11]
    exact sig16_11 w
  rw [if_neg h11]
  rw [sigF]
  by_cases h12 : l = [60]
  · rw [if_pos h12, h12]
    exact sig16_12 w
  rw [if_neg h12]
  rw [sigF]
  by_cases h13 : l = [60, 61]
  · rw [if_pos h13, h13]
    exact sig16_13 w
  rw [if_neg h13]
  rw [sigF]
  by_cases h14 : l = [97, 110, 100]
  · rw [if_pos h14, h14]
    exact sig16_14 w
  rw [if_neg h14]
  rw [sigF]
  by_cases h15 : l = [111, 114]
  · rw [if_pos h15, h15]
    exact sig16_15 w
  rw [if_neg h15]
  rw [sigF]
  by_cases h16 : l = [110, 111, 116]
  · rw [if_pos h16, h16]
    exact sig16_16 w
  rw [if_neg h16]
  rw [sigF]
  by_cases h17 : l = [104, 97, 115]
  · rw [if_pos h17, h17]
    exact sig16_17 w
  rw [if_neg h17]
  rw [sigF]
  by_cases h18 : l = [43, 43]
  · rw [if_pos h18, h18]
    exact sig16_18 w
  rw [if_neg h18]
  rw [sigF]
  by_cases h19 : l = [99, 117, 116]
  · rw [if_pos h19, h19]
    exact sig16_19 w
  rw [if_neg h19]
  rw [sigF]
  by_cases h20 : l = [108, 105, 110, 101]
  · rw [if_pos h20, h20]
    exact sig16_20 w
  rw [if_neg h20]
  rw [sigF]
  by_cases h21 : l = [114, 101, 112]
  · rw [if_pos h21, h21]
    exact sig16_21 w
  rw [if_neg h21]
  rw [sigF]
  by_cases h22 : l = [112, 105, 99, 107]
  · rw [if_pos h22, h22]
    exact sig16_22 w
  rw [if_neg h22]
  rw [sigF]
  by_cases h23 : l = [102, 105, 110, 100]
  · rw [if_pos h23, h23]
    exact sig16_23 w
  rw [if_neg h23]
  rw [sigF]
  by_cases h24 : l = [114, 111, 119, 115]
  · rw [if_pos h24, h24]
    exact sig16_24 w
  rw [if_neg h24]
  rw [sigF]
  by_cases h25 : l = [115, 112, 97, 110]
  · rw [if_pos h25, h25]
    exact sig16_25 w
  rw [if_neg h25]
  rw [sigF]
  by_cases h26 : l = [119, 105, 116, 104, 105, 110]
  · rw [if_pos h26, h26]
    exact sig16_26 w
  rw [if_neg h26]
  rw [sigF]
  by_cases h27 : l = [111, 118, 101, 114]
  · rw [if_pos h27, h27]
    exact sig16_27 w
  rw [if_neg h27]
  rw [sigF]
  by_cases h28 : l = [117, 110, 105, 111, 110]
  · rw [if_pos h28, h28]
    exact sig16_28 w
  rw [if_neg h28]
  rw [sigF]
  by_cases h29 : l = [109, 105, 110, 117, 115]
  · rw [if_pos h29, h29]
    exact sig16_29 w
  rw [if_neg h29]
  rw [sigF]
  by_cases h30 : l = [97, 102, 116, 101, 114]
  · rw [if_pos h30, h30]
    exact sig16_30 w
  rw [if_neg h30]
  rw [sigF]
  by_cases h31 : l = [102, 105, 114, 115, 116]
  · rw [if_pos h31, h31]
    exact sig16_31 w
  rw [if_neg h31]
  rw [sigF]
  refine sig16_none l w fun n hn => ?_
  simp only [sigT, List.map_cons, List.map_nil, List.mem_cons, List.not_mem_nil, or_false] at hn
  rcases hn with rfl | rfl | rfl | rfl | rfl | rfl | rfl | rfl | rfl | rfl | rfl | rfl | rfl | rfl | rfl | rfl | rfl | rfl | rfl | rfl | rfl | rfl | rfl | rfl | rfl | rfl | rfl | rfl | rfl | rfl | rfl | rfl <;> assumption
end Go.Proofs.Ytnloagofnbklmaa
