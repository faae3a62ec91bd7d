/- The walks of Signature, and of the reference's. -/
import Derived.Test.YtniefnjcimempaaProg
import Derived.Test.YtniefnjcimempaarMem
import Derived.WalkKit
import Derived.WalkSpells
import Derived.WalkLawsBesides
import Derived.Lib.Hide
namespace Go.Proofs.Ytniefnjcimempaa
open Go.RowKit Go.WideMaps
def sigT : List (List UInt8 × List Int × Int) := [
  ([108, 101, 110], [3], 1),
  ([108, 105, 110, 101, 115], [3], 1),
  ([115, 105, 122, 101], [4], 1),
  ([99, 111, 109, 109, 111, 110], [3, 3], 1),
  ([109, 105, 110], [1, 1], 1),
  ([109, 97, 120], [1, 1], 1),
  ([43], [1, 1], 1),
  ([45], [1, 1], 1),
  ([42], [1, 1], 1),
  ([99, 111, 117, 110, 116], [3, 0], 1),
  ([61, 61], [1, 1], 2),
  ([33, 61], [1, 1], 2),
  ([60], [1, 1], 2),
  ([60, 61], [1, 1], 2),
  ([97, 110, 100], [2, 2], 2),
  ([111, 114], [2, 2], 2),
  ([110, 111, 116], [2], 2),
  ([104, 97, 115], [3, 0], 2),
  ([43, 43], [3, 3], 3),
  ([99, 117, 116], [3, 1, 1], 3),
  ([108, 105, 110, 101], [3, 1], 3),
  ([114, 101, 112], [3, 1], 3),
  ([112, 105, 99, 107], [3, 4, 1], 3),
  ([102, 105, 110, 100], [3, 0], 4),
  ([114, 111, 119, 115], [3], 4),
  ([115, 112, 97, 110], [1, 1], 4),
  ([119, 105, 116, 104, 105, 110], [4, 4], 4),
  ([111, 118, 101, 114], [4, 4], 4),
  ([117, 110, 105, 111, 110], [4, 4], 4),
  ([109, 105, 110, 117, 115], [4, 4], 4),
  ([97, 102, 116, 101, 114], [4, 4, 1], 4),
  ([102, 105, 114, 115, 116], [4, 1], 4)]
def sigF (l : List UInt8) : List (List UInt8 × List Int × Int) → Option (List Int × Int)
  | [] => none
  | (n, a, r) :: t => if l = n then some (a, r) else sigF l t
def sig (l : List UInt8) : Option (List Int × Int) := sigF l sigT
def SigEnd (w : World) (r : Option (List Int × Int)) (e : Ending) (w' : World) : Prop :=
  Below w.heap.size w w' ∧ match r with
    | some (a, r) => ∃ c, e = .returned (.tuple #[.slice (some ⟨w.heap.size, 0, none⟩) a.length c, .int .i64 r, .bool true]) ∧ Blk w' w.heap.size 3 (a.map (Value.int .i64)).toArray
    | none => e = .returned (.tuple #[.slice none 0 0, .int .i64 0, .bool false])
theorem below_alloc (w : World) (o : Obj) : Below w.heap.size w (w.alloc o) := (Below.refl _ _).alloc (Nat.le_refl _) _
set_option maxRecDepth 100000 in
theorem sigX_0 (w : World) : Calls Try.prog 46 #[.string ⟨#[108, 101, 110]⟩] w (SigEnd w (some ([3], 1))) := by
  go_enter Try.func46, Try.ntmps46
  go_wp2_with fail
  go_ret3
  exact ⟨below_alloc _ _, _, rfl, Blk.new _ _ _⟩
set_option maxRecDepth 100000 in
theorem sigX_1 (w : World) : Calls Try.prog 46 #[.string ⟨#[108, 105, 110, 101, 115]⟩] w (SigEnd w (some ([3], 1))) := by
  go_enter Try.func46, Try.ntmps46
  go_wp2_with fail
  go_ret3
  exact ⟨below_alloc _ _, _, rfl, Blk.new _ _ _⟩
set_option maxRecDepth 100000 in
theorem sigX_2 (w : World) : Calls Try.prog 46 #[.string ⟨#[115, 105, 122, 101]⟩] w (SigEnd w (some ([4], 1))) := by
  go_enter Try.func46, Try.ntmps46
  go_wp2_with fail
  go_ret3
  exact ⟨below_alloc _ _, _, rfl, Blk.new _ _ _⟩
set_option maxRecDepth 100000 in
theorem sigX_3 (w : World) : Calls Try.prog 46 #[.string ⟨#[99, 111, 109, 109, 111, 110]⟩] w (SigEnd w (some ([3, 3], 1))) := by
  go_enter Try.func46, Try.ntmps46
  go_wp2_with fail
  go_ret3
  exact ⟨below_alloc _ _, _, rfl, Blk.new _ _ _⟩
set_option maxRecDepth 100000 in
theorem sigX_4 (w : World) : Calls Try.prog 46 #[.string ⟨#[109, 105, 110]⟩] w (SigEnd w (some ([1, 1], 1))) := by
  go_enter Try.func46, Try.ntmps46
  go_wp2_with fail
  go_ret3
  exact ⟨below_alloc _ _, _, rfl, Blk.new _ _ _⟩
set_option maxRecDepth 100000 in
theorem sigX_5 (w : World) : Calls Try.prog 46 #[.string ⟨#[109, 97, 120]⟩] w (SigEnd w (some ([1, 1], 1))) := by
  go_enter Try.func46, Try.ntmps46
  go_wp2_with fail
  go_ret3
  exact ⟨below_alloc _ _, _, rfl, Blk.new _ _ _⟩
set_option maxRecDepth 100000 in
theorem sigX_6 (w : World) : Calls Try.prog 46 #[.string ⟨#[43]⟩] w (SigEnd w (some ([1, 1], 1))) := by
  go_enter Try.func46, Try.ntmps46
  go_wp2_with fail
  go_ret3
  exact ⟨below_alloc _ _, _, rfl, Blk.new _ _ _⟩
set_option maxRecDepth 100000 in
theorem sigX_7 (w : World) : Calls Try.prog 46 #[.string ⟨#[45]⟩] w (SigEnd w (some ([1, 1], 1))) := by
  go_enter Try.func46, Try.ntmps46
  go_wp2_with fail
  go_ret3
  exact ⟨below_alloc _ _, _, rfl, Blk.new _ _ _⟩
set_option maxRecDepth 100000 in
theorem sigX_8 (w : World) : Calls Try.prog 46 #[.string ⟨#[42]⟩] w (SigEnd w (some ([1, 1], 1))) := by
  go_enter Try.func46, Try.ntmps46
  go_wp2_with fail
  go_ret3
  exact ⟨below_alloc _ _, _, rfl, Blk.new _ _ _⟩
set_option maxRecDepth 100000 in
theorem sigX_9 (w : World) : Calls Try.prog 46 #[.string ⟨#[99, 111, 117, 110, 116]⟩] w (SigEnd w (some ([3, 0], 1))) := by
  go_enter Try.func46, Try.ntmps46
  go_wp2_with fail
  go_ret3
  exact ⟨below_alloc _ _, _, rfl, Blk.new _ _ _⟩
set_option maxRecDepth 100000 in
theorem sigX_10 (w : World) : Calls Try.prog 46 #[.string ⟨#[61, 61]⟩] w (SigEnd w (some ([1, 1], 2))) := by
  go_enter Try.func46, Try.ntmps46
  go_wp2_with fail
  go_ret3
  exact ⟨below_alloc _ _, _, rfl, Blk.new _ _ _⟩
set_option maxRecDepth 100000 in
theorem sigX_11 (w : World) : Calls Try.prog 46 #[.string ⟨#[33, 61]⟩] w (SigEnd w (some ([1, 1], 2))) := by
  go_enter Try.func46, Try.ntmps46
  go_wp2_with fail
  go_ret3
  exact ⟨below_alloc _ _, _, rfl, Blk.new _ _ _⟩
set_option maxRecDepth 100000 in
theorem sigX_12 (w : World) : Calls Try.prog 46 #[.string ⟨#[60]⟩] w (SigEnd w (some ([1, 1], 2))) := by
  go_enter Try.func46, Try.ntmps46
  go_wp2_with fail
  go_ret3
  exact ⟨below_alloc _ _, _, rfl, Blk.new _ _ _⟩
set_option maxRecDepth 100000 in
theorem sigX_13 (w : World) : Calls Try.prog 46 #[.string ⟨#[60, 61]⟩] w (SigEnd w (some ([1, 1], 2))) := by
  go_enter Try.func46, Try.ntmps46
  go_wp2_with fail
  go_ret3
  exact ⟨below_alloc _ _, _, rfl, Blk.new _ _ _⟩
set_option maxRecDepth 100000 in
theorem sigX_14 (w : World) : Calls Try.prog 46 #[.string ⟨#[97, 110, 100]⟩] w (SigEnd w (some ([2, 2], 2))) := by
  go_enter Try.func46, Try.ntmps46
  go_wp2_with fail
  go_ret3
  exact ⟨below_alloc _ _, _, rfl, Blk.new _ _ _⟩
set_option maxRecDepth 100000 in
theorem sigX_15 (w : World) : Calls Try.prog 46 #[.string ⟨#[111, 114]⟩] w (SigEnd w (some ([2, 2], 2))) := by
  go_enter Try.func46, Try.ntmps46
  go_wp2_with fail
  go_ret3
  exact ⟨below_alloc _ _, _, rfl, Blk.new _ _ _⟩
set_option maxRecDepth 100000 in
theorem sigX_16 (w : World) : Calls Try.prog 46 #[.string ⟨#[110, 111, 116]⟩] w (SigEnd w (some ([2], 2))) := by
  go_enter Try.func46, Try.ntmps46
  go_wp2_with fail
  go_ret3
  exact ⟨below_alloc _ _, _, rfl, Blk.new _ _ _⟩
set_option maxRecDepth 100000 in
theorem sigX_17 (w : World) : Calls Try.prog 46 #[.string ⟨#[104, 97, 115]⟩] w (SigEnd w (some ([3, 0], 2))) := by
  go_enter Try.func46, Try.ntmps46
  go_wp2_with fail
  go_ret3
  exact ⟨below_alloc _ _, _, rfl, Blk.new _ _ _⟩
set_option maxRecDepth 100000 in
theorem sigX_18 (w : World) : Calls Try.prog 46 #[.string ⟨#[43, 43]⟩] w (SigEnd w (some ([3, 3], 3))) := by
  go_enter Try.func46, Try.ntmps46
  go_wp2_with fail
  go_ret3
  exact ⟨below_alloc _ _, _, rfl, Blk.new _ _ _⟩
set_option maxRecDepth 100000 in
theorem sigX_19 (w : World) : Calls Try.prog 46 #[.string ⟨#[99, 117, 116]⟩] w (SigEnd w (some ([3, 1, 1], 3))) := by
  go_enter Try.func46, Try.ntmps46
  go_wp2_with fail
  go_ret3
  exact ⟨below_alloc _ _, _, rfl, Blk.new _ _ _⟩
set_option maxRecDepth 100000 in
theorem sigX_20 (w : World) : Calls Try.prog 46 #[.string ⟨#[108, 105, 110, 101]⟩] w (SigEnd w (some ([3, 1], 3))) := by
  go_enter Try.func46, Try.ntmps46
  go_wp2_with fail
  go_ret3
  exact ⟨below_alloc _ _, _, rfl, Blk.new _ _ _⟩
set_option maxRecDepth 100000 in
theorem sigX_21 (w : World) : Calls Try.prog 46 #[.string ⟨#[114, 101, 112]⟩] w (SigEnd w (some ([3, 1], 3))) := by
  go_enter Try.func46, Try.ntmps46
  go_wp2_with fail
  go_ret3
  exact ⟨below_alloc _ _, _, rfl, Blk.new _ _ _⟩
set_option maxRecDepth 100000 in
theorem sigX_22 (w : World) : Calls Try.prog 46 #[.string ⟨#[112, 105, 99, 107]⟩] w (SigEnd w (some ([3, 4, 1], 3))) := by
  go_enter Try.func46, Try.ntmps46
  go_wp2_with fail
  go_ret3
  exact ⟨below_alloc _ _, _, rfl, Blk.new _ _ _⟩
set_option maxRecDepth 100000 in
theorem sigX_23 (w : World) : Calls Try.prog 46 #[.string ⟨#[102, 105, 110, 100]⟩] w (SigEnd w (some ([3, 0], 4))) := by
  go_enter Try.func46, Try.ntmps46
  go_wp2_with fail
  go_ret3
  exact ⟨below_alloc _ _, _, rfl, Blk.new _ _ _⟩
set_option maxRecDepth 100000 in
theorem sigX_24 (w : World) : Calls Try.prog 46 #[.string ⟨#[114, 111, 119, 115]⟩] w (SigEnd w (some ([3], 4))) := by
  go_enter Try.func46, Try.ntmps46
  go_wp2_with fail
  go_ret3
  exact ⟨below_alloc _ _, _, rfl, Blk.new _ _ _⟩
set_option maxRecDepth 100000 in
theorem sigX_25 (w : World) : Calls Try.prog 46 #[.string ⟨#[115, 112, 97, 110]⟩] w (SigEnd w (some ([1, 1], 4))) := by
  go_enter Try.func46, Try.ntmps46
  go_wp2_with fail
  go_ret3
  exact ⟨below_alloc _ _, _, rfl, Blk.new _ _ _⟩
set_option maxRecDepth 100000 in
theorem sigX_26 (w : World) : Calls Try.prog 46 #[.string ⟨#[119, 105, 116, 104, 105, 110]⟩] w (SigEnd w (some ([4, 4], 4))) := by
  go_enter Try.func46, Try.ntmps46
  go_wp2_with fail
  go_ret3
  exact ⟨below_alloc _ _, _, rfl, Blk.new _ _ _⟩
set_option maxRecDepth 100000 in
theorem sigX_27 (w : World) : Calls Try.prog 46 #[.string ⟨#[111, 118, 101, 114]⟩] w (SigEnd w (some ([4, 4], 4))) := by
  go_enter Try.func46, Try.ntmps46
  go_wp2_with fail
  go_ret3
  exact ⟨below_alloc _ _, _, rfl, Blk.new _ _ _⟩
set_option maxRecDepth 100000 in
theorem sigX_28 (w : World) : Calls Try.prog 46 #[.string ⟨#[117, 110, 105, 111, 110]⟩] w (SigEnd w (some ([4, 4], 4))) := by
  go_enter Try.func46, Try.ntmps46
  go_wp2_with fail
  go_ret3
  exact ⟨below_alloc _ _, _, rfl, Blk.new _ _ _⟩
set_option maxRecDepth 100000 in
theorem sigX_29 (w : World) : Calls Try.prog 46 #[.string ⟨#[109, 105, 110, 117, 115]⟩] w (SigEnd w (some ([4, 4], 4))) := by
  go_enter Try.func46, Try.ntmps46
  go_wp2_with fail
  go_ret3
  exact ⟨below_alloc _ _, _, rfl, Blk.new _ _ _⟩
set_option maxRecDepth 100000 in
theorem sigX_30 (w : World) : Calls Try.prog 46 #[.string ⟨#[97, 102, 116, 101, 114]⟩] w (SigEnd w (some ([4, 4, 1], 4))) := by
  go_enter Try.func46, Try.ntmps46
  go_wp2_with fail
  go_ret3
  exact ⟨below_alloc _ _, _, rfl, Blk.new _ _ _⟩
set_option maxRecDepth 100000 in
theorem sigX_31 (w : World) : Calls Try.prog 46 #[.string ⟨#[102, 105, 114, 115, 116]⟩] w (SigEnd w (some ([4, 1], 4))) := by
  go_enter Try.func46, Try.ntmps46
  go_wp2_with fail
  go_ret3
  exact ⟨below_alloc _ _, _, rfl, Blk.new _ _ _⟩
set_option maxRecDepth 100000 in
set_option maxHeartbeats 1000000 in
theorem sigX_none (l : List UInt8) (w : World) (hn : ∀ n ∈ sigT.map (·.1), l ≠ n) : Calls Try.prog 46 #[.string ⟨l.toArray⟩] w (SigEnd w none) := by
  have h0 : (l == [108, 101, 110]) = false := by simpa using hn [108, 101, 110] (by simp [sigT])
  have h1 : (l == [108, 105, 110, 101, 115]) = false := by simpa using hn [108, 105, 110, 101, 115] (by simp [sigT])
  have h2 : (l == [115, 105, 122, 101]) = false := by simpa using hn [115, 105, 122, 101] (by simp [sigT])
  have h3 : (l == [99, 111, 109, 109, 111, 110]) = false := by simpa using hn [99, 111, 109, 109, 111, 110] (by simp [sigT])
  have h4 : (l == [109, 105, 110]) = false := by simpa using hn [109, 105, 110] (by simp [sigT])
  have h5 : (l == [109, 97, 120]) = false := by simpa using hn [109, 97, 120] (by simp [sigT])
  have h6 : (l == [43]) = false := by simpa using hn [43] (by simp [sigT])
  have h7 : (l == [45]) = false := by simpa using hn [45] (by simp [sigT])
  have h8 : (l == [42]) = false := by simpa using hn [42] (by simp [sigT])
  have h9 : (l == [99, 111, 117, 110, 116]) = false := by simpa using hn [99, 111, 117, 110, 116] (by simp [sigT])
  have h10 : (l == [61, 61]) = false := by simpa using hn [61, 61] (by simp [sigT])
  have h11 : (l == [33, 61]) = false := by simpa using hn [33, 61] (by simp [sigT])
  have h12 : (l == [60]) = false := by simpa using hn [60] (by simp [sigT])
  have h13 : (l == [60, 61]) = false := by simpa using hn [60, 61] (by simp [sigT])
  have h14 : (l == [97, 110, 100]) = false := by simpa using hn [97, 110, 100] (by simp [sigT])
  have h15 : (l == [111, 114]) = false := by simpa using hn [111, 114] (by simp [sigT])
  have h16 : (l == [110, 111, 116]) = false := by simpa using hn [110, 111, 116] (by simp [sigT])
  have h17 : (l == [104, 97, 115]) = false := by simpa using hn [104, 97, 115] (by simp [sigT])
  have h18 : (l == [43, 43]) = false := by simpa using hn [43, 43] (by simp [sigT])
  have h19 : (l == [99, 117, 116]) = false := by simpa using hn [99, 117, 116] (by simp [sigT])
  have h20 : (l == [108, 105, 110, 101]) = false := by simpa using hn [108, 105, 110, 101] (by simp [sigT])
  have h21 : (l == [114, 101, 112]) = false := by simpa using hn [114, 101, 112] (by simp [sigT])
  have h22 : (l == [112, 105, 99, 107]) = false := by simpa using hn [112, 105, 99, 107] (by simp [sigT])
  have h23 : (l == [102, 105, 110, 100]) = false := by simpa using hn [102, 105, 110, 100] (by simp [sigT])
  have h24 : (l == [114, 111, 119, 115]) = false := by simpa using hn [114, 111, 119, 115] (by simp [sigT])
  have h25 : (l == [115, 112, 97, 110]) = false := by simpa using hn [115, 112, 97, 110] (by simp [sigT])
  have h26 : (l == [119, 105, 116, 104, 105, 110]) = false := by simpa using hn [119, 105, 116, 104, 105, 110] (by simp [sigT])
  have h27 : (l == [111, 118, 101, 114]) = false := by simpa using hn [111, 118, 101, 114] (by simp [sigT])
  have h28 : (l == [117, 110, 105, 111, 110]) = false := by simpa using hn [117, 110, 105, 111, 110] (by simp [sigT])
  have h29 : (l == [109, 105, 110, 117, 115]) = false := by simpa using hn [109, 105, 110, 117, 115] (by simp [sigT])
  have h30 : (l == [97, 102, 116, 101, 114]) = false := by simpa using hn [97, 102, 116, 101, 114] (by simp [sigT])
  have h31 : (l == [102, 105, 114, 115, 116]) = false := by simpa using hn [102, 105, 114, 115, 116] (by simp [sigT])
  clear hn
  go_enter Try.func46, Try.ntmps46
  go_wp2_with fail
  go_ret3
  exact ⟨Below.refl _ _, rfl⟩
theorem sigX_any (l : List UInt8) (w : World) : Calls Try.prog 46 #[.string ⟨l.toArray⟩] w (SigEnd w (sig l)) := by
  unfold sig sigT
  rw [sigF]
  by_cases h0 : l = [108, 101, 110]
  · rw [if_pos h0, h0]
    exact sigX_0 w
  rw [if_neg h0]
  rw [sigF]
  by_cases h1 : l = [108, 105, 110, 101, 115]
  · rw [if_pos h1, h1]
    exact sigX_1 w
  rw [if_neg h1]
  rw [sigF]
  by_cases h2 : l = [115, 105, 122, 101]
  · rw [if_pos h2, h2]
    exact sigX_2 w
  rw [if_neg h2]
  rw [sigF]
  by_cases h3 : l = [99, 111, 109, 109, 111, 110]
  · rw [if_pos h3, h3]
    exact sigX_3 w
  rw [if_neg h3]
  rw [sigF]
  by_cases h4 : l = [109, 105, 110]
  · rw [if_pos h4, h4]
    exact sigX_4 w
  rw [if_neg h4]
  rw [sigF]
  by_cases h5 : l = [109, 97, 120]
  · rw [if_pos h5, h5]
    exact sigX_5 w
  rw [if_neg h5]
  rw [sigF]
  by_cases h6 : l = [43]
  · rw [if_pos h6, h6]
    exact sigX_6 w
  rw [if_neg h6]
  rw [sigF]
  by_cases h7 : l = [45]
  · rw [if_pos h7, h7]
    exact sigX_7 w
  rw [if_neg h7]
  rw [sigF]
  by_cases h8 : l = [42]
  · rw [if_pos h8, h8]
    exact sigX_8 w
  rw [if_neg h8]
  rw [sigF]
  by_cases h9 : l = [99, 111, 117, 110, 116]
  · rw [if_pos h9, h9]
    exact sigX_9 w
  rw [if_neg h9]
  rw [sigF]
  by_cases h10 : l = [61, 61]
  · rw [if_pos h10, h10]
    exact sigX_10 w
  rw [if_neg h10]
  rw [sigF]
  by_cases h11 : l = [33, 61]
  · rw [if_pos h11, h11]
    exact sigX_11 w
  rw [if_neg h11]
  rw [sigF]
  by_cases h12 : l = [60]
  · rw [if_pos h12, h12]
    exact sigX_12 w
  rw [if_neg h12]
  rw [sigF]
  by_cases h13 : l = [60, 61]
  · rw [if_pos h13, h13]
    exact sigX_13 w
  rw [if_neg h13]
  rw [sigF]
  by_cases h14 : l = [97, 110, 100]
  · rw [if_pos h14, h14]
    exact sigX_14 w
  rw [if_neg h14]
  rw [sigF]
  by_cases h15 : l = [111, 114]
  · rw [if_pos h15, h15]
    exact sigX_15 w
  rw [if_neg h15]
  rw [sigF]
  by_cases h16 : l = [110, 111, 116]
  · rw [if_pos h16, h16]
    exact sigX_16 w
  rw [if_neg h16]
  rw [sigF]
  by_cases h17 : l = [104, 97, 115]
  · rw [if_pos h17, h17]
    exact sigX_17 w
  rw [if_neg h17]
  rw [sigF]
  by_cases h18 : l = [43, 43]
  · rw [if_pos h18, h18]
    exact sigX_18 w
  rw [if_neg h18]
  rw [sigF]
  by_cases h19 : l = [99, 117, 116]
  · rw [if_pos h19, h19]
    exact sigX_19 w
  rw [if_neg h19]
  rw [sigF]
  by_cases h20 : l = [108, 105, 110, 101]
  · rw [if_pos h20, h20]
    exact sigX_20 w
  rw [if_neg h20]
  rw [sigF]
  by_cases h21 : l = [114, 101, 112]
  · rw [if_pos h21, h21]
    exact sigX_21 w
  rw [if_neg h21]
  rw [sigF]
  by_cases h22 : l = [112, 105, 99, 107]
  · rw [if_pos h22, h22]
    exact sigX_22 w
  rw [if_neg h22]
  rw [sigF]
  by_cases h23 : l = [102, 105, 110, 100]
  · rw [if_pos h23, h23]
    exact sigX_23 w
  rw [if_neg h23]
  rw [sigF]
  by_cases h24 : l = [114, 111, 119, 115]
  · rw [if_pos h24, h24]
    exact sigX_24 w
  rw [if_neg h24]
  rw [sigF]
  by_cases h25 : l = [115, 112, 97, 110]
  · rw [if_pos h25, h25]
    exact sigX_25 w
  rw [if_neg h25]
  rw [sigF]
  by_cases h26 : l = [119, 105, 116, 104, 105, 110]
  · rw [if_pos h26, h26]
    exact sigX_26 w
  rw [if_neg h26]
  rw [sigF]
  by_cases h27 : l = [111, 118, 101, 114]
  · rw [if_pos h27, h27]
    exact sigX_27 w
  rw [if_neg h27]
  rw [sigF]
  by_cases h28 : l = [117, 110, 105, 111, 110]
  · rw [if_pos h28, h28]
    exact sigX_28 w
  rw [if_neg h28]
  rw [sigF]
  by_cases h29 : l = [109, 105, 110, 117, 115]
  · rw [if_pos h29, h29]
    exact sigX_29 w
  rw [if_neg h29]
  rw [sigF]
  by_cases h30 : l = [97, 102, 116, 101, 114]
  · rw [if_pos h30, h30]
    exact sigX_30 w
  rw [if_neg h30]
  rw [sigF]
  by_cases h31 : l = [102, 105, 114, 115, 116]
  · rw [if_pos h31, h31]
    exact sigX_31 w
  rw [if_neg h31]
  rw [sigF]
  refine sigX_none l w fun n hn => ?_
  simp only [sigT, List.map_cons, List.map_nil, List.mem_cons, List.not_mem_nil, or_false] at hn
  rcases hn with rfl | rfl | rfl | rfl | rfl | rfl | rfl | rfl | rfl | rfl | rfl | rfl | rfl | rfl | rfl | rfl | rfl | rfl | rfl | rfl | rfl | rfl | rfl | rfl | rfl | rfl | rfl | rfl | rfl | rfl | rfl | rfl <;> assumption
end Go.Proofs.Ytniefnjcimempaa
