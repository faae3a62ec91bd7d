/- The walk of intern.New. -/
import Derived.Test.YtphpfkhpihlalaaAv3
namespace Go.Proofs.Ytphpfkhpihlalaa
open Go.RowKit
set_option maxRecDepth 100000 in
theorem new_any (n : Int) (w : World) : Calls Try.prog 10 #[.int .i64 n] w fun e w' => ∃ p, w.heap.size ≤ p ∧ e = .returned (ptr p) ∧ Below w.heap.size w w' ∧ StAt w' (fun i => w.heap.size ≤ i ∧ i < w'.heap.size) p (max 0 (min n 1048576)).toNat [] := by
  have hc := clip_any n 0 1048576 w (by decide)
  have hmn : ((max 0 (min n 1048576)).toNat : Int) = max 0 (min n 1048576) := by omega
  have hmx : (max 0 (min n 1048576)).toNat ≤ 1048576 := by omega
  generalize (max 0 (min n 1048576)).toNat = m at hmn hmx ⊢
  rw [← hmn] at hc
  clear hmn
  have hmm : ∀ (W : World), (Instr.makeMap 88 none).run Try.prog W = .ok (.map (some W.heap.size)) (W.alloc (.map #[] 0)) := fun W => by
    simp [Instr.makeMap, run_underlying Try.underlying88]
  unfold ptr
  go_enter Try.func10, Try.ntmps10
  go_wp2_with fail
  refine hc.mono ?_
  rintro _ w1 ⟨rfl, hw1⟩
  rw [hw1]
  clear hc hw1 w1
  go_wp2_with fail
  have HB1 : Below w.heap.size w (w.alloc (.map #[] 0)) := (Below.refl _ _).alloc (Nat.le_refl _) _
  have HM : MapIs (w.alloc (.map #[] 0)) w.heap.size encR (mapF 0 []) := MapIs.new w encR 0
  have hs1 : (w.alloc (.map #[] 0)).heap.size = w.heap.size + 1 := by simp
  obtain ⟨w1, hw1⟩ : ∃ w1, w1 = w.alloc (.map #[] 0) := ⟨_, rfl⟩
  have HK := Blk.new w1 91 #[.int .i64 (m : Int), .slice none 0 0, .map (some w.heap.size)]
  have HB2 := HB1.alloc (by omega) (.cells #[.int .i64 (m : Int), .slice none 0 0, .map (some w.heap.size)] 91)
  rw [← hw1] at HB1 HM hs1 HB2 ⊢
  have HM2 := HM.keep (w' := w1.alloc (.cells #[.int .i64 (m : Int), .slice none 0 0, .map (some w.heap.size)] 91)) (Below.heap_alloc w1 _ w.heap.size (by omega))
  have hs2 : (w1.alloc (.cells #[.int .i64 (m : Int), .slice none 0 0, .map (some w.heap.size)] 91)).heap.size = w.heap.size + 1 + 1 := by simp; omega
  rw [hs1] at HK
  obtain ⟨w2, hw2⟩ : ∃ w2, w2 = w1.alloc (.cells #[.int .i64 (m : Int), .slice none 0 0, .map (some w.heap.size)] 91) := ⟨_, rfl⟩
  rw [← hw2] at HK HB2 HM2 hs2 ⊢
  have HF := Lib.hid (show StAt w2 (fun i => w.heap.size ≤ i ∧ i < w2.heap.size) (w.heap.size + 1) m [] from ⟨w.heap.size, none, 0, ⟨HK, World.ownsRow_nil _ _ _ _, HM2, ⟨by omega, by omega⟩, ⟨by omega, by omega⟩, fun _ hi => (by cases hi), fun _ hi => hi.2, hmx, Nat.zero_le _⟩⟩)
  have HBB := Lib.hid HB2
  clear hw1 hw2 HB1 HM HK HB2 HM2 hmm
  go_ret
  exact ⟨w.heap.size + 1, by omega, rfl, HBB.out, HF.out⟩
end Go.Proofs.Ytphpfkhpihlalaa
