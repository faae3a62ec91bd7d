/- The helpers of the laws on types: word, number, call, sample. -/
import Derived.Test.YtfdpohceoabinaaOfT
import Derived.Test.YtfdpohceoabinaaBase
import Derived.Deep.QuietTactic
import Derived.BigQuiet
namespace Go.Proofs.Ytfdpohceoabinaa
open Go.RowKit
theorem lw_word (s : ByteArray) (w : World) : Calls Try.prog 13 #[.string s] w fun e w' => e = .returned (.agg #[.int .i64 2, .string s, .int .i64 0, .slice none 0 0]) ∧ Below w.heap.size w w' := by
  go_enter Try.func13, Try.ntmps13
  go_wp2_with fail
  exact bodyPost_ret (v := .agg #[.int .i64 2, .string s, .int .i64 0, .slice none 0 0]) (by simp [results, Try.results13, go_sem]) rfl ⟨rfl, (Below.refl _ _).alloc (Nat.le_refl _) _⟩
theorem lw_number (n : Int) (w : World) : Calls Try.prog 16 #[.int .i64 n] w fun e w' => e = .returned (.agg #[.int .i64 1, .string ⟨#[]⟩, .int .i64 n, .slice none 0 0]) ∧ Below w.heap.size w w' := by
  go_enter Try.func16, Try.ntmps16
  go_wp2_with fail
  exact bodyPost_ret (v := .agg #[.int .i64 1, .string ⟨#[]⟩, .int .i64 n, .slice none 0 0]) (by simp [results, Try.results16, go_sem]) rfl ⟨rfl, (Below.refl _ _).alloc (Nat.le_refl _) _⟩
theorem lw_call (s : ByteArray) (A : Option Addr) (n c : Nat) (w : World) : Calls Try.prog 7 #[.string s, .slice A n c] w fun e w' => e = .returned (.agg #[.int .i64 4, .string s, .int .i64 0, .slice A n c]) ∧ Below w.heap.size w w' := by
  go_enter Try.func7, Try.ntmps7
  go_wp2_with fail
  exact bodyPost_ret (v := .agg #[.int .i64 4, .string s, .int .i64 0, .slice A n c]) (by simp [results, Try.results7, go_sem]) rfl ⟨rfl, (Below.refl _ _).alloc (Nat.le_refl _) _⟩
def numT (n : Int) : Tx := .node 1 [] n []
/-- What sample answers. -/
def sampleT (t : Int) : Tx := if t = 0 then .node 2 [97, 42] 0 [] else if t = 1 then numT 3 else if t = 2 then .node 4 [61, 61] 0 [numT 1, numT 2] else if t = 3 then .node 3 [109, 97, 105, 110] 0 [] else .node 4 [115, 112, 97, 110] 0 [numT 1, numT 2]
def SampleEnd (t : Int) (w : World) (e : Ending) (w' : World) : Prop := ∃ cs, e = .returned (.agg cs.toArray) ∧ NodeV w' (rng w.heap.size w'.heap.size) (sampleT t) cs ∧ Below w.heap.size w w'
theorem blk4 {w : World} {g : Nat} {t : TypeId} {a b c d : Value} (h : Blk w g t #[a, b, c, d]) : w.cell? ⟨g, 0, none⟩ = some a ∧ w.cell? ⟨g, 1, none⟩ = some b ∧ w.cell? ⟨g, 2, none⟩ = some c ∧ w.cell? ⟨g, 3, none⟩ = some d ∧
    w.frozen? ⟨g, 0, none⟩ = false ∧ w.frozen? ⟨g, 1, none⟩ = false ∧ w.frozen? ⟨g, 2, none⟩ = false ∧ w.frozen? ⟨g, 3, none⟩ = false :=
  ⟨h.cell 0, h.cell 1, h.cell 2, h.cell 3, h.frozen 0, h.frozen 1, h.frozen 2, h.frozen 3⟩
theorem four_set {w w1 : World} {g : Nat} {a b c d : Value} (h : Below w.heap.size w w1) (hg : w.heap.size ≤ g) : Below w.heap.size w ((((w1.setCell ⟨g, 0, none⟩ a).setCell ⟨g, 1, none⟩ b).setCell ⟨g, 2, none⟩ c).setCell ⟨g, 3, none⟩ d) :=
  (((h.setCell hg a).setCell hg b).setCell hg c).setCell hg d
theorem four_old {w1 : World} {g i : Nat} {a b c d : Value} (h : i ≠ g) : ((((w1.setCell ⟨g, 0, none⟩ a).setCell ⟨g, 1, none⟩ b).setCell ⟨g, 2, none⟩ c).setCell ⟨g, 3, none⟩ d).heap[i]? = w1.heap[i]? :=
  (Below.heap_setCell _ ⟨g, 3, none⟩ d i h).trans ((Below.heap_setCell _ ⟨g, 2, none⟩ c i h).trans ((Below.heap_setCell _ ⟨g, 1, none⟩ b i h).trans (Below.heap_setCell _ ⟨g, 0, none⟩ a i h)))
theorem sample_0 (w : World) : Calls Try.prog 8 #[.int .i64 0] w (SampleEnd 0 w) := by
  have hB0 := Blk.new w 29 #[.int .i64 0, .string ⟨#[]⟩, .int .i64 0, .slice none 0 0]
  have HB0 := Lib.hid hB0
  clear hB0
  go_enter Try.func8, Try.ntmps8
  go_wp2_with fail
  refine (lw_word _ _).mono ?_
  rintro e w1 ⟨rfl, hb1⟩
  have hB1 := HB0.out.below hb1 (by simp)
  obtain ⟨c0, c1, c2, c3, f0, f1, f2, f3⟩ := blk4 hB1
  have HB1 := Lib.hid hb1
  clear hb1 hB1
  go_wp2_with fail
  exact bodyPost_ret (v := .agg #[.int .i64 2, .string ⟨#[97, 42]⟩, .int .i64 0, .slice none 0 0]) (by simp [results, Try.results8, go_sem, c0, c1, c2, c3]) rfl ⟨[.int .i64 2, .string ⟨#[97, 42]⟩, .int .i64 0, .slice none 0 0], rfl, NodeV.leaf _ _ 2 [97, 42] 0, four_set (((Below.refl _ _).alloc (Nat.le_refl _) _).trans (HB1.out.mono (by simp))) (Nat.le_refl _)⟩
theorem sample_1 (w : World) : Calls Try.prog 8 #[.int .i64 1] w (SampleEnd 1 w) := by
  have hB0 := Blk.new w 29 #[.int .i64 0, .string ⟨#[]⟩, .int .i64 0, .slice none 0 0]
  have HB0 := Lib.hid hB0
  clear hB0
  go_enter Try.func8, Try.ntmps8
  go_wp2_with fail
  refine (lw_number _ _).mono ?_
  rintro e w1 ⟨rfl, hb1⟩
  have hB1 := HB0.out.below hb1 (by simp)
  obtain ⟨c0, c1, c2, c3, f0, f1, f2, f3⟩ := blk4 hB1
  have HB1 := Lib.hid hb1
  clear hb1 hB1
  go_wp2_with fail
  exact bodyPost_ret (v := .agg #[.int .i64 1, .string ⟨#[]⟩, .int .i64 3, .slice none 0 0]) (by simp [results, Try.results8, go_sem, c0, c1, c2, c3]) rfl ⟨[.int .i64 1, .string ⟨#[]⟩, .int .i64 3, .slice none 0 0], rfl, NodeV.leaf _ _ 1 [] 3, four_set (((Below.refl _ _).alloc (Nat.le_refl _) _).trans (HB1.out.mono (by simp))) (Nat.le_refl _)⟩
theorem sample_3 (w : World) : Calls Try.prog 8 #[.int .i64 3] w (SampleEnd 3 w) := by
  have hB0 := Blk.new w 29 #[.int .i64 0, .string ⟨#[]⟩, .int .i64 0, .slice none 0 0]
  have HB0 := Lib.hid hB0
  clear hB0
  go_enter Try.func8, Try.ntmps8
  go_wp2_with fail
  exact bodyPost_ret (v := .agg #[.int .i64 3, .string ⟨#[109, 97, 105, 110]⟩, .int .i64 0, .slice none 0 0]) (by simp [results, Try.results8, go_sem]) rfl ⟨[.int .i64 3, .string ⟨#[109, 97, 105, 110]⟩, .int .i64 0, .slice none 0 0], rfl, NodeV.leaf _ _ 3 [109, 97, 105, 110] 0, (Below.refl _ _).alloc (Nat.le_refl _) _⟩
theorem sample_2 (t : Int) (h2 : t = 2) (w : World) : Calls Try.prog 8 #[.int .i64 t] w (SampleEnd t w) := by
  have hT : sampleT t = .node 4 [61, 61] 0 [numT 1, numT 2] := by
    unfold sampleT
    rw [if_neg (by omega), if_neg (by omega), if_pos h2]
  have HT := Lib.hid hT
  clear hT
  subst h2
  skip
  skip
  skip
  have hB0 := Blk.new w 29 #[.int .i64 0, .string ⟨#[]⟩, .int .i64 0, .slice none 0 0]
  have HB0 := Lib.hid hB0
  clear hB0
  go_enter Try.func8, Try.ntmps8
  go_wp2_with fail
  refine (lw_number _ _).mono ?_
  rintro e w1 ⟨rfl, hb1⟩
  have HB1 := Lib.hid hb1
  have hz1 := hb1.size
  simp at hz1
  clear hb1
  go_wp2_with fail
  refine (lw_number _ _).mono ?_
  rintro e w2 ⟨rfl, hb2⟩
  have HB2 := Lib.hid hb2
  have hz2 := hb2.size
  clear hb2
  go_wp2_with fail
  refine (lw_call _ _ _ _ _).mono ?_
  rintro e w3 ⟨rfl, hb3⟩
  have hB3 := (((HB0.out.below HB1.out (by simp)).below HB2.out (by omega)).alloc _).below hb3 (by simp; omega)
  have hR3 := (Blk.new w2 29 _).below hb3 (by simp)
  have HR3 := Lib.hid hR3
  obtain ⟨c0, c1, c2, c3, f0, f1, f2, f3⟩ := blk4 hB3
  have HB3 := Lib.hid hb3
  have hz3 := hb3.size
  simp at hz3
  clear hb3 hB3 hR3
  go_wp2_with fail
  have hB := ((((Below.refl w.heap.size w).alloc (Nat.le_refl _) (.cells #[.int .i64 0, .string ⟨#[]⟩, .int .i64 0, .slice none 0 0] 29)).trans (HB1.out.mono (by simp))).trans (HB2.out.mono (by omega))).alloc (by omega) (.cells #[.int .i64 1, .string ⟨#[]⟩, .int .i64 1, .slice none 0 0, .int .i64 1, .string ⟨#[]⟩, .int .i64 2, .slice none 0 0] 29)
  have hBB := hB.trans (HB3.out.mono (by simp; omega))
  refine bodyPost_ret (v := .agg #[.int .i64 4, .string ⟨#[61, 61]⟩, .int .i64 0, .slice (some ⟨w2.heap.size, 0, none⟩) 2 2]) (by simp [results, Try.results8, go_sem, c0, c1, c2, c3]) rfl ⟨[.int .i64 4, .string ⟨#[61, 61]⟩, .int .i64 0, .slice (some ⟨w2.heap.size, 0, none⟩) 2 2], rfl, ?_, four_set hBB (Nat.le_refl _)⟩
  rw [HT.out]
  have hR : Blk ((((w3.setCell ⟨w.heap.size, 0, none⟩ (.int .i64 4)).setCell ⟨w.heap.size, 1, none⟩ (.string ⟨#[61, 61]⟩)).setCell ⟨w.heap.size, 2, none⟩ (.int .i64 0)).setCell ⟨w.heap.size, 3, none⟩ (.slice (some ⟨w2.heap.size, 0, none⟩) 2 2)) w2.heap.size _ _ := (four_old (by omega)).trans HR3.out
  obtain ⟨xs, hx1, hx2⟩ := lx_row (F := rng w.heap.size ((((w3.setCell ⟨w.heap.size, 0, none⟩ (.int .i64 4)).setCell ⟨w.heap.size, 1, none⟩ (.string ⟨#[61, 61]⟩)).setCell ⟨w.heap.size, 2, none⟩ (.int .i64 0)).setCell ⟨w.heap.size, 3, none⟩ (.slice (some ⟨w2.heap.size, 0, none⟩) 2 2)).heap.size) hR ⟨by omega, by simp; omega⟩ [numT 1, numT 2] [.int .i64 1, .string ⟨#[]⟩, .int .i64 1, .slice none 0 0, .int .i64 1, .string ⟨#[]⟩, .int .i64 2, .slice none 0 0] 0
    ⟨[.int .i64 1, .string ⟨#[]⟩, .int .i64 1, .slice none 0 0], [.int .i64 1, .string ⟨#[]⟩, .int .i64 2, .slice none 0 0], rfl, NodeV.leaf _ _ 1 [] 1, NodeVs.one (NodeV.leaf _ _ 1 [] 2)⟩ (fun j u hj => by rw [Nat.zero_mul, Nat.zero_add]; simpa using hj)
  exact NodeV.call 4 [61, 61] 0 hx1 hx2 rfl
theorem sample_o (t : Int) (h : ¬ (0 ≤ t ∧ t ≤ 3)) (w : World) : Calls Try.prog 8 #[.int .i64 t] w (SampleEnd t w) := by
  have hT : sampleT t = .node 4 [115, 112, 97, 110] 0 [numT 1, numT 2] := by
    unfold sampleT
    rw [if_neg (by omega), if_neg (by omega), if_neg (by omega), if_neg (by omega)]
  have HT := Lib.hid hT
  clear hT
  have e0 : (t == 0) = false := by simp; omega
  have e1 : (t == 1) = false := by simp; omega
  have e2 : (t == 2) = false := by simp; omega
  have e3 : (t == 3) = false := by simp; omega
  have hB0 := Blk.new w 29 #[.int .i64 0, .string ⟨#[]⟩, .int .i64 0, .slice none 0 0]
  have HB0 := Lib.hid hB0
  clear hB0
  go_enter Try.func8, Try.ntmps8
  go_wp2_with fail
  refine (lw_number _ _).mono ?_
  rintro e w1 ⟨rfl, hb1⟩
  have HB1 := Lib.hid hb1
  have hz1 := hb1.size
  simp at hz1
  clear hb1
  go_wp2_with fail
  refine (lw_number _ _).mono ?_
  rintro e w2 ⟨rfl, hb2⟩
  have HB2 := Lib.hid hb2
  have hz2 := hb2.size
  clear hb2
  go_wp2_with fail
  refine (lw_call _ _ _ _ _).mono ?_
  rintro e w3 ⟨rfl, hb3⟩
  have hB3 := (((HB0.out.below HB1.out (by simp)).below HB2.out (by omega)).alloc _).below hb3 (by simp; omega)
  have hR3 := (Blk.new w2 29 _).below hb3 (by simp)
  have HR3 := Lib.hid hR3
  obtain ⟨c0, c1, c2, c3, f0, f1, f2, f3⟩ := blk4 hB3
  have HB3 := Lib.hid hb3
  have hz3 := hb3.size
  simp at hz3
  clear hb3 hB3 hR3
  go_wp2_with fail
  have hB := ((((Below.refl w.heap.size w).alloc (Nat.le_refl _) (.cells #[.int .i64 0, .string ⟨#[]⟩, .int .i64 0, .slice none 0 0] 29)).trans (HB1.out.mono (by simp))).trans (HB2.out.mono (by omega))).alloc (by omega) (.cells #[.int .i64 1, .string ⟨#[]⟩, .int .i64 1, .slice none 0 0, .int .i64 1, .string ⟨#[]⟩, .int .i64 2, .slice none 0 0] 29)
  have hBB := hB.trans (HB3.out.mono (by simp; omega))
  refine bodyPost_ret (v := .agg #[.int .i64 4, .string ⟨#[115, 112, 97, 110]⟩, .int .i64 0, .slice (some ⟨w2.heap.size, 0, none⟩) 2 2]) (by simp [results, Try.results8, go_sem, c0, c1, c2, c3]) rfl ⟨[.int .i64 4, .string ⟨#[115, 112, 97, 110]⟩, .int .i64 0, .slice (some ⟨w2.heap.size, 0, none⟩) 2 2], rfl, ?_, four_set hBB (Nat.le_refl _)⟩
  rw [HT.out]
  have hR : Blk ((((w3.setCell ⟨w.heap.size, 0, none⟩ (.int .i64 4)).setCell ⟨w.heap.size, 1, none⟩ (.string ⟨#[115, 112, 97, 110]⟩)).setCell ⟨w.heap.size, 2, none⟩ (.int .i64 0)).setCell ⟨w.heap.size, 3, none⟩ (.slice (some ⟨w2.heap.size, 0, none⟩) 2 2)) w2.heap.size _ _ := (four_old (by omega)).trans HR3.out
  obtain ⟨xs, hx1, hx2⟩ := lx_row (F := rng w.heap.size ((((w3.setCell ⟨w.heap.size, 0, none⟩ (.int .i64 4)).setCell ⟨w.heap.size, 1, none⟩ (.string ⟨#[115, 112, 97, 110]⟩)).setCell ⟨w.heap.size, 2, none⟩ (.int .i64 0)).setCell ⟨w.heap.size, 3, none⟩ (.slice (some ⟨w2.heap.size, 0, none⟩) 2 2)).heap.size) hR ⟨by omega, by simp; omega⟩ [numT 1, numT 2] [.int .i64 1, .string ⟨#[]⟩, .int .i64 1, .slice none 0 0, .int .i64 1, .string ⟨#[]⟩, .int .i64 2, .slice none 0 0] 0
    ⟨[.int .i64 1, .string ⟨#[]⟩, .int .i64 1, .slice none 0 0], [.int .i64 1, .string ⟨#[]⟩, .int .i64 2, .slice none 0 0], rfl, NodeV.leaf _ _ 1 [] 1, NodeVs.one (NodeV.leaf _ _ 1 [] 2)⟩ (fun j u hj => by rw [Nat.zero_mul, Nat.zero_add]; simpa using hj)
  exact NodeV.call 4 [115, 112, 97, 110] 0 hx1 hx2 rfl
theorem sample_any (t : Int) (w : World) : Calls Try.prog 8 #[.int .i64 t] w (SampleEnd t w) := by
  by_cases h0 : t = 0
  · subst h0; exact sample_0 w
  by_cases h1 : t = 1
  · subst h1; exact sample_1 w
  by_cases h2 : t = 2
  · exact sample_2 t h2 w
  by_cases h3 : t = 3
  · subst h3; exact sample_3 w
  exact sample_o t (by omega) w
end Go.Proofs.Ytfdpohceoabinaa
