/- The walk of weight.Join. -/
import Derived.Test.YtphpfkhpihlalaaWtK
import Derived.Deep.RegionWith
import Derived.Test.YtphpfkhpihlalaaIn1
import Derived.Test.YtphpfkhpihlalaaRwH
import Derived.Deep.RegionHeld3
namespace Go.Proofs.Ytphpfkhpihlalaa
open Go.RowKit
theorem setL_far {w : World} {g g' : Nat} {t : TypeId} {cs : Array Value} (h : Blk w g t cs) (hg : g ≠ g') (k : Nat) (vs : List Value) : Blk (setL w g' k vs) g t cs := by
  induction vs generalizing w k with
  | nil => exact h
  | cons v vs ih => exact ih (h.far (p := ⟨g', k, none⟩) hg v) (k + 1)
theorem over_alloc {a W w' : World} (h : Below a.heap.size a W) (hb : Below W.heap.size W w') : Below a.heap.size a w' := h.trans (hb.mono h.size)
set_option maxRecDepth 100000 in
set_option maxHeartbeats 2000000 in
theorem wjoin_any (a b : Wt) (w : World) (ha : a.ok) (hb : b.ok) (h : a.len + b.len ≤ 1152921504606846976) : Calls Try.prog 89 #[a.val, b.val] w fun e w' => e = .returned (.tuple #[(a.join b).val, .nilIface]) ∧ Below w.heap.size w w' := by
  have hva := fun W => wvalid_any a W ha
  have hvb := fun W => wvalid_any b W hb
  have hadd := fun W => ladd_any a.len b.len W ha.len0 hb.len0 h
  have hdj := fun W => djoin_any a.dig b.dig W ha.small hb.small
  have l1 := ha.lines1
  have l2 := hb.lines1
  have l3 := ha.lines0
  have l4 := hb.lines0
  have l5 := ha.head1
  have l6 := hb.head1
  have s1 : IntKind.i64.wrap (a.lines + b.lines) = a.lines + b.lines := IntWalk.i64_in _ (by omega)
  have s2 : IntKind.i64.wrap (a.len + b.head) = a.len + b.head := IntWalk.i64_in _ (by omega)
  have s3 : IntKind.i64.wrap (b.len + a.tail) = b.len + a.tail := IntWalk.i64_in _ (by omega)
  clear ha hb h l1 l2 l3 l4 l5 l6
  obtain ⟨aL, aN, aH, aT, ad⟩ := a
  obtain ⟨bL, bN, bH, bT, bd⟩ := b
  unfold Wt.val at hva hvb ⊢
  unfold Dig.val at hdj
  simp only [Wt.join] at hva hvb hadd hdj s1 s2 s3 ⊢
  obtain ⟨jv, hjv⟩ : ∃ jv : Int, jv = (ad.join bd).v := ⟨_, rfl⟩
  obtain ⟨js, hjs⟩ : ∃ js : Int, js = (ad.join bd).s := ⟨_, rfl⟩
  rw [← hjv, ← hjs] at hdj ⊢
  clear hjv hjs
  generalize (ad.v : Int) = av at *
  generalize (ad.s : Int) = sa at *
  generalize (bd.v : Int) = bv at *
  generalize (bd.s : Int) = sb at *
  obtain ⟨sN, hsN⟩ : ∃ x : Int, x = aN + bN := ⟨_, rfl⟩
  have s1' : IntKind.i64.wrap (aN + bN) = sN := by rw [s1, hsN]
  rw [← hsN]
  clear s1 hsN
  go_enter Try.func89, Try.ntmps89
  go_upto_region 1 with (fail)
  obtain ⟨w1, hw1⟩ : ∃ w1, w1 = ((w.alloc (.cells #[.int .i64 aL, .int .i64 aN, .int .i64 aH, .int .i64 aT, .int .u64 av, .int .u64 sa] 38)).alloc (.cells #[.int .i64 bL, .int .i64 bN, .int .i64 bH, .int .i64 bT, .int .u64 bv, .int .u64 sb] 38)).alloc (.cells #[.int .i64 0, .int .i64 0, .int .i64 0, .int .i64 0, .int .u64 0, .int .u64 0] 38) := ⟨_, rfl⟩
  have k0 : Blk w1 w.heap.size 38 #[.int .i64 aL, .int .i64 aN, .int .i64 aH, .int .i64 aT, .int .u64 av, .int .u64 sa] := by rw [hw1]; exact ((Blk.new _ _ _).alloc _).alloc _
  have k1 : Blk w1 (w.heap.size + 1) 38 #[.int .i64 bL, .int .i64 bN, .int .i64 bH, .int .i64 bT, .int .u64 bv, .int .u64 sb] := by rw [hw1]; exact Blk.alloc (by have := Blk.new (w.alloc (.cells #[.int .i64 aL, .int .i64 aN, .int .i64 aH, .int .i64 aT, .int .u64 av, .int .u64 sa] 38)) 38 #[.int .i64 bL, .int .i64 bN, .int .i64 bH, .int .i64 bT, .int .u64 bv, .int .u64 sb]; simpa using this) _
  have k2 : Blk w1 (w.heap.size + 1 + 1) 38 #[.int .i64 0, .int .i64 0, .int .i64 0, .int .i64 0, .int .u64 0, .int .u64 0] := by rw [hw1]; have := Blk.new ((w.alloc (.cells #[.int .i64 aL, .int .i64 aN, .int .i64 aH, .int .i64 aT, .int .u64 av, .int .u64 sa] 38)).alloc (.cells #[.int .i64 bL, .int .i64 bN, .int .i64 bH, .int .i64 bT, .int .u64 bv, .int .u64 sb] 38)) 38 #[.int .i64 0, .int .i64 0, .int .i64 0, .int .i64 0, .int .u64 0, .int .u64 0]; simpa using this
  have hq1 : Below w.heap.size w w1 := by rw [hw1]; exact (((Below.refl _ _).alloc (Nat.le_refl _) _).alloc (by simp) _).alloc (by simp; omega) _
  rw [← hw1]
  clear hw1
  have x0 := k0.cell 0
  have x1 := k0.cell 1
  have x2 := k0.cell 2
  have x3 := k0.cell 3
  have x4 := k0.cell 4
  have x5 := k0.cell 5
  simp only [List.getElem?_toArray, List.getElem?_cons_zero, List.getElem?_cons_succ] at x0 x1 x2 x3 x4 x5
  have y0 := k1.cell 0
  have y1 := k1.cell 1
  have y2 := k1.cell 2
  have y3 := k1.cell 3
  have y4 := k1.cell 4
  have y5 := k1.cell 5
  simp only [List.getElem?_toArray, List.getElem?_cons_zero, List.getElem?_cons_succ] at y0 y1 y2 y3 y4 y5
  go_wp2_with fail
  refine (hva _).mono ?_
  clear hva
  rintro e w2 ⟨rfl, hb2⟩
  have k0' := k0.below hb2 k0.lt
  have k1' := k1.below hb2 k1.lt
  have k2' := k2.below hb2 k2.lt
  have hq2 := hq1.trans (hb2.mono hq1.size)
  clear k0 k1 k2 hq1 hb2 x0 x1 x2 x3 x4 x5 y0 y1 y2 y3 y4 y5
  have y0 := k1'.cell 0
  have y1 := k1'.cell 1
  have y2 := k1'.cell 2
  have y3 := k1'.cell 3
  have y4 := k1'.cell 4
  have y5 := k1'.cell 5
  simp only [List.getElem?_toArray, List.getElem?_cons_zero, List.getElem?_cons_succ] at y0 y1 y2 y3 y4 y5
  go_wp2_with fail
  refine (hvb _).mono ?_
  clear hvb
  rintro e w3 ⟨rfl, hb3⟩
  have k0 := k0'.below hb3 k0'.lt
  have k1 := k1'.below hb3 k1'.lt
  have k2 := k2'.below hb3 k2'.lt
  have hq3 := hq2.trans (hb3.mono hq2.size)
  clear k0' k1' k2' hq2 hb3 y0 y1 y2 y3 y4 y5
  have x0 := k0.cell 0
  have x1 := k0.cell 1
  have x2 := k0.cell 2
  have x3 := k0.cell 3
  have x4 := k0.cell 4
  have x5 := k0.cell 5
  simp only [List.getElem?_toArray, List.getElem?_cons_zero, List.getElem?_cons_succ] at x0 x1 x2 x3 x4 x5
  have y0 := k1.cell 0
  have y1 := k1.cell 1
  have y2 := k1.cell 2
  have y3 := k1.cell 3
  have y4 := k1.cell 4
  have y5 := k1.cell 5
  simp only [List.getElem?_toArray, List.getElem?_cons_zero, List.getElem?_cons_succ] at y0 y1 y2 y3 y4 y5
  go_wp2_with fail
  refine (hadd _).mono ?_
  clear hadd
  rintro e w4 ⟨rfl, rfl⟩
  have HK0 := Lib.hid k0
  have HK1 := Lib.hid k1
  have HK2 := Lib.hid k2
  have HQ := Lib.hid hq3
  have hl0 : w.heap.size < w4.heap.size := k0.lt
  have hl1 : w.heap.size + 1 < w4.heap.size := k1.lt
  have hl2 : w.heap.size + 1 + 1 < w4.heap.size := k2.lt
  clear k0 k1 k2 hq3
  go_upto_region 6 with (fail)
  refine wp_region_noPanic ?_
  refine wp_region_held_drew (S := (fun w' => w'.cell? ⟨w.heap.size, 0, none⟩ = some (.int .i64 aL) ∧ w'.cell? ⟨w.heap.size, 1, none⟩ = some (.int .i64 aN) ∧ w'.cell? ⟨w.heap.size, 2, none⟩ = some (.int .i64 aH) ∧ w'.cell? ⟨w.heap.size, 3, none⟩ = some (.int .i64 aT) ∧ w'.cell? ⟨w.heap.size, 4, none⟩ = some (.int .u64 av) ∧ w'.cell? ⟨w.heap.size, 5, none⟩ = some (.int .u64 sa) ∧ w'.cell? ⟨w.heap.size + 1, 0, none⟩ = some (.int .i64 bL) ∧ w'.cell? ⟨w.heap.size + 1, 1, none⟩ = some (.int .i64 bN) ∧ w'.cell? ⟨w.heap.size + 1, 2, none⟩ = some (.int .i64 bH) ∧ w'.cell? ⟨w.heap.size + 1, 3, none⟩ = some (.int .i64 bT) ∧ w'.cell? ⟨w.heap.size + 1, 4, none⟩ = some (.int .u64 bv) ∧ w'.cell? ⟨w.heap.size + 1, 5, none⟩ = some (.int .u64 sb))) (by kernel_rfl) ⟨x0, x1, x2, x3, x4, x5, y0, y1, y2, y3, y4, y5⟩ (fun hHeld => ?_)
  refine wpAnyH_take (i := 0) (v := ?_) rfl (by kernel_rfl) (by kernel_rfl) (by kernel_rfl) (fun _ _ _ h => h) (Or.inl ⟨by kernel_rfl, ?_⟩) hHeld ?_
  rotate_left
  · intro w' hSw
    (try dsimp only at hSw)
    go_simp <;> with_reducible rfl
  try simp only [Act.put, List.setIfInBounds_toArray, List.set_cons_zero, List.set_cons_succ]
  refine wpAnyH_take (i := 1) (v := ?_) rfl (by kernel_rfl) (by kernel_rfl) (by kernel_rfl) (fun _ _ _ h => h) (Or.inl ⟨by kernel_rfl, ?_⟩) hHeld ?_
  rotate_left
  · intro w' hSw
    (try dsimp only at hSw)
    go_simp <;> with_reducible rfl
  try simp only [Act.put, List.setIfInBounds_toArray, List.set_cons_zero, List.set_cons_succ]
  refine wpAnyH_take (i := 2) (v := ?_) rfl (by kernel_rfl) (by kernel_rfl) (by kernel_rfl) (fun _ _ _ h => h) (Or.inl ⟨by kernel_rfl, ?_⟩) hHeld ?_
  rotate_left
  · intro w' hSw
    (try dsimp only at hSw)
    go_simp <;> with_reducible rfl
  try simp only [Act.put, List.setIfInBounds_toArray, List.set_cons_zero, List.set_cons_succ]
  refine wpAnyH_take (i := 3) (v := ?_) rfl (by kernel_rfl) (by kernel_rfl) (by kernel_rfl) (fun _ _ _ h => h) (Or.inl ⟨by kernel_rfl, ?_⟩) hHeld ?_
  rotate_left
  · intro w' hSw
    (try dsimp only at hSw)
    go_simp <;> with_reducible rfl
  try simp only [Act.put, List.setIfInBounds_toArray, List.set_cons_zero, List.set_cons_succ]
  refine wpAnyH_take (i := 4) (v := ?_) rfl (by kernel_rfl) (by kernel_rfl) (by kernel_rfl) (fun _ _ _ h => h) (Or.inl ⟨by kernel_rfl, ?_⟩) hHeld ?_
  rotate_left
  · intro w' hSw
    (try dsimp only at hSw)
    go_simp <;> with_reducible rfl
  try simp only [Act.put, List.setIfInBounds_toArray, List.set_cons_zero, List.set_cons_succ]
  refine wpAnyH_take (i := 5) (v := ?_) rfl (by kernel_rfl) (by kernel_rfl) (by kernel_rfl) (fun _ _ _ h => h) (Or.inl ⟨by kernel_rfl, ?_⟩) hHeld ?_
  rotate_left
  · intro w' hSw
    (try dsimp only at hSw)
    go_simp <;> with_reducible rfl
  try simp only [Act.put, List.setIfInBounds_toArray, List.set_cons_zero, List.set_cons_succ]
  refine wpAnyH_take (i := 6) (v := ?_) rfl (by kernel_rfl) (by kernel_rfl) (by kernel_rfl) (fun _ _ _ h => h) (Or.inl ⟨by kernel_rfl, ?_⟩) hHeld ?_
  rotate_left
  · intro w' hSw
    (try dsimp only at hSw)
    go_simp <;> with_reducible rfl
  try simp only [Act.put, List.setIfInBounds_toArray, List.set_cons_zero, List.set_cons_succ]
  refine wpAnyH_take (i := 7) (v := ?_) rfl (by kernel_rfl) (by kernel_rfl) (by kernel_rfl) (fun _ _ _ h => h) (Or.inl ⟨by kernel_rfl, ?_⟩) hHeld ?_
  rotate_left
  · intro w' hSw
    (try dsimp only at hSw)
    go_simp <;> with_reducible rfl
  try simp only [Act.put, List.setIfInBounds_toArray, List.set_cons_zero, List.set_cons_succ]
  refine wpAnyH_take (i := 8) (v := ?_) rfl (by kernel_rfl) (by kernel_rfl) (by kernel_rfl) (fun _ _ _ h => h) (Or.inl ⟨by kernel_rfl, ?_⟩) hHeld ?_
  rotate_left
  · intro w' hSw
    (try dsimp only at hSw)
    go_simp <;> with_reducible rfl
  try simp only [Act.put, List.setIfInBounds_toArray, List.set_cons_zero, List.set_cons_succ]
  refine wpAnyH_take (i := 9) (v := ?_) rfl (by kernel_rfl) (by kernel_rfl) (by kernel_rfl) (fun _ _ _ h => h) (Or.inl ⟨by kernel_rfl, ?_⟩) hHeld ?_
  rotate_left
  · intro w' hSw
    (try dsimp only at hSw)
    go_simp <;> with_reducible rfl
  try simp only [Act.put, List.setIfInBounds_toArray, List.set_cons_zero, List.set_cons_succ]
  refine wpAnyH_take (i := 10) (v := ?_) rfl (by kernel_rfl) (by kernel_rfl) (by kernel_rfl) (fun _ _ _ h => h) (Or.inl ⟨by kernel_rfl, ?_⟩) hHeld ?_
  rotate_left
  · intro w' hSw
    (try dsimp only at hSw)
    go_simp <;> with_reducible rfl
  try simp only [Act.put, List.setIfInBounds_toArray, List.set_cons_zero, List.set_cons_succ]
  refine wpAnyH_take (i := 11) (v := ?_) rfl (by kernel_rfl) (by kernel_rfl) (by kernel_rfl) (fun _ _ _ h => h) (Or.inl ⟨by kernel_rfl, ?_⟩) hHeld ?_
  rotate_left
  · intro w' hSw
    (try dsimp only at hSw)
    go_simp <;> with_reducible rfl
  try simp only [Act.put, List.setIfInBounds_toArray, List.set_cons_zero, List.set_cons_succ]
  refine wpAnyH_take (i := 12) (v := ?_) rfl (by kernel_rfl) (by kernel_rfl) (by kernel_rfl) (fun _ _ _ h => h) (Or.inl ⟨by kernel_rfl, ?_⟩) hHeld ?_
  rotate_left
  · intro w' hSw
    (try dsimp only at hSw)
    go_simp <;> with_reducible rfl
  try simp only [Act.put, List.setIfInBounds_toArray, List.set_cons_zero, List.set_cons_succ]
  refine wpAnyH_take (i := 13) (v := ?_) rfl (by kernel_rfl) (by kernel_rfl) (by kernel_rfl) (fun _ _ _ h => h) (Or.inl ⟨by kernel_rfl, ?_⟩) hHeld ?_
  rotate_left
  · intro w' hSw
    (try dsimp only at hSw)
    go_simp <;> with_reducible rfl
  try simp only [Act.put, List.setIfInBounds_toArray, List.set_cons_zero, List.set_cons_succ]
  refine wpAnyH_two (i := 14) (j := 16) (by kernel_rfl) rfl rfl (fun K hK => ?_) (fun K hK => ?_)
  · go_simp
    go_at_call 19
    refine (hdj _).mono ?_
    rintro e w5 ⟨rfl, hb5⟩
    have hb5' : Below w4.heap.size w4 w5 := ((Below.refl _ w4).drew).trans hb5
    have HK05 := Lib.hid (HK0.out.below hb5' HK0.out.lt)
    have HK15 := Lib.hid (HK1.out.below hb5' HK1.out.lt)
    have HK25 := Lib.hid (HK2.out.below hb5' HK2.out.lt)
    have HQ5 := Lib.hid (HQ.out.trans (hb5'.mono HQ.out.size))
    have hs5 := hb5'.size
    clear hb5 hb5' hHeld x0 x1 x2 x3 x4 x5 y0 y1 y2 y3 y4 y5
    have x0 := HK05.out.cell 0
    have x1 := HK05.out.cell 1
    have x2 := HK05.out.cell 2
    have x3 := HK05.out.cell 3
    have x4 := HK05.out.cell 4
    have x5 := HK05.out.cell 5
    simp only [List.getElem?_toArray, List.getElem?_cons_zero, List.getElem?_cons_succ] at x0 x1 x2 x3 x4 x5
    have y0 := HK15.out.cell 0
    have y1 := HK15.out.cell 1
    have y2 := HK15.out.cell 2
    have y3 := HK15.out.cell 3
    have y4 := HK15.out.cell 4
    have y5 := HK15.out.cell 5
    simp only [List.getElem?_toArray, List.getElem?_cons_zero, List.getElem?_cons_succ] at y0 y1 y2 y3 y4 y5
    have hHeld := And.intro x0 (And.intro x1 (And.intro x2 (And.intro x3 (And.intro x4 (And.intro x5 (And.intro y0 (And.intro y1 (And.intro y2 (And.intro y3 (And.intro y4 y5))))))))))
    refine hK.out _ _ hHeld ?_
    clear hK K
    try simp only [Act.put, List.setIfInBounds_toArray, List.set_cons_zero, List.set_cons_succ]
    refine wpAnyH_take (i := 15) (v := ?_) rfl (by kernel_rfl) (by kernel_rfl) (by kernel_rfl) (fun _ _ _ h => h) (Or.inl ⟨by kernel_rfl, ?_⟩) hHeld ?_
    rotate_left
    · intro w' hSw
      (try dsimp only at hSw)
      go_simp <;> with_reducible rfl
    try simp only [Act.put, List.setIfInBounds_toArray, List.set_cons_zero, List.set_cons_succ]
    refine wpAnyH_one (i := 16) (by kernel_rfl) rfl (fun K hK => ?_)
    go_simp
    have hb6 : Below w5.heap.size w5 (w5.alloc (.cells #[.int .i64 0, .int .i64 0, .int .i64 0, .int .i64 0, .int .u64 0, .int .u64 0] 38)) := (Below.refl _ _).alloc (Nat.le_refl _) _
    have HZ := Lib.hid (Blk.new w5 38 #[.int .i64 0, .int .i64 0, .int .i64 0, .int .i64 0, .int .u64 0, .int .u64 0])
    obtain ⟨w6, hw6⟩ : ∃ w6, w6 = w5.alloc (.cells #[.int .i64 0, .int .i64 0, .int .i64 0, .int .i64 0, .int .u64 0, .int .u64 0] 38) := ⟨_, rfl⟩
    rw [← hw6] at hb6 HZ ⊢
    clear hw6
    have HK06 := Lib.hid (HK05.out.below hb6 HK05.out.lt)
    have HK16 := Lib.hid (HK15.out.below hb6 HK15.out.lt)
    have HK26 := Lib.hid (HK25.out.below hb6 HK25.out.lt)
    have HQ6 := Lib.hid (HQ5.out.trans (hb6.mono HQ5.out.size))
    clear hb6 hHeld x0 x1 x2 x3 x4 x5 y0 y1 y2 y3 y4 y5
    have x0 := HK06.out.cell 0
    have x1 := HK06.out.cell 1
    have x2 := HK06.out.cell 2
    have x3 := HK06.out.cell 3
    have x4 := HK06.out.cell 4
    have x5 := HK06.out.cell 5
    simp only [List.getElem?_toArray, List.getElem?_cons_zero, List.getElem?_cons_succ] at x0 x1 x2 x3 x4 x5
    have y0 := HK16.out.cell 0
    have y1 := HK16.out.cell 1
    have y2 := HK16.out.cell 2
    have y3 := HK16.out.cell 3
    have y4 := HK16.out.cell 4
    have y5 := HK16.out.cell 5
    simp only [List.getElem?_toArray, List.getElem?_cons_zero, List.getElem?_cons_succ] at y0 y1 y2 y3 y4 y5
    have hHeld := And.intro x0 (And.intro x1 (And.intro x2 (And.intro x3 (And.intro x4 (And.intro x5 (And.intro y0 (And.intro y1 (And.intro y2 (And.intro y3 (And.intro y4 y5))))))))))
    refine hK.out _ _ hHeld ?_
    clear hK K
    try simp only [Act.put, List.setIfInBounds_toArray, List.set_cons_zero, List.set_cons_succ]
    refine wpAnyH_one (i := 17) (by kernel_rfl) rfl (fun K hK => ?_)
    have z0 := HZ.out.cell 0
    have z1 := HZ.out.cell 1
    have z2 := HZ.out.cell 2
    have z3 := HZ.out.cell 3
    have z4 := HZ.out.cell 4
    have z5 := HZ.out.cell 5
    simp only [List.getElem?_toArray, List.getElem?_cons_zero, List.getElem?_cons_succ] at z0 z1 z2 z3 z4 z5
    have q0 := HZ.out.frozen 0
    have q1 := HZ.out.frozen 1
    have q2 := HZ.out.frozen 2
    have q3 := HZ.out.frozen 3
    have q4 := HZ.out.frozen 4
    have q5 := HZ.out.frozen 5
    go_simp
    obtain ⟨wF, hwF⟩ : ∃ wF, wF = (setL w6 (w5.heap.size) 0 [.int .i64 (aL + bL), .int .i64 sN, .int .i64 aH, .int .i64 bT, .int .u64 jv, .int .u64 js]) := ⟨_, rfl⟩
    have HKF := Lib.hid (show Blk wF (w5.heap.size) 38 #[.int .i64 (aL + bL), .int .i64 sN, .int .i64 aH, .int .i64 bT, .int .u64 jv, .int .u64 js] by rw [hwF]; exact setL_all HZ.out _ rfl)
    have HK0F := Lib.hid (show Blk wF w.heap.size 38 _ by rw [hwF]; exact setL_far HK06.out (by omega) 0 _)
    have HK1F := Lib.hid (show Blk wF (w.heap.size + 1) 38 _ by rw [hwF]; exact setL_far HK16.out (by omega) 0 _)
    have HK2F := Lib.hid (show Blk wF (w.heap.size + 1 + 1) 38 _ by rw [hwF]; exact setL_far HK26.out (by omega) 0 _)
    have HQF := Lib.hid (show Below w.heap.size w wF by rw [hwF]; exact setL_below HQ6.out (by omega) 0 _)
    simp only [setL, Nat.zero_add, Nat.reduceAdd] at hwF
    rw [← hwF]
    clear hwF hHeld x0 x1 x2 x3 x4 x5 y0 y1 y2 y3 y4 y5 z0 z1 z2 z3 z4 z5 q0 q1 q2 q3 q4 q5
    have x0 := HK0F.out.cell 0
    have x1 := HK0F.out.cell 1
    have x2 := HK0F.out.cell 2
    have x3 := HK0F.out.cell 3
    have x4 := HK0F.out.cell 4
    have x5 := HK0F.out.cell 5
    simp only [List.getElem?_toArray, List.getElem?_cons_zero, List.getElem?_cons_succ] at x0 x1 x2 x3 x4 x5
    have y0 := HK1F.out.cell 0
    have y1 := HK1F.out.cell 1
    have y2 := HK1F.out.cell 2
    have y3 := HK1F.out.cell 3
    have y4 := HK1F.out.cell 4
    have y5 := HK1F.out.cell 5
    simp only [List.getElem?_toArray, List.getElem?_cons_zero, List.getElem?_cons_succ] at y0 y1 y2 y3 y4 y5
    refine hK.out _ _ ⟨x0, x1, x2, x3, x4, x5, y0, y1, y2, y3, y4, y5⟩ ?_
    clear hK K
    try simp only [Act.put, List.setIfInBounds_toArray, List.set_cons_zero, List.set_cons_succ]
    refine wpAnyH_done (by kernel_rfl) ?_ _
    refine NoPanic.normal ?_
    try simp only [Act.put, List.setIfInBounds_toArray, List.set_cons_zero, List.set_cons_succ]
    have hG0 : w.heap.size + 1 + 1 < w5.heap.size := by omega
    clear x0 x1 x2 x3 x4 x5 y0 y1 y2 y3 y4 y5
    by_cases ha : aN = 0
    · have ea : (aN == 0) = true := by simp [ha]
      have HA := Lib.hid ha
      clear ha
      have x0 := HK0F.out.cell 0
      have x1 := HK0F.out.cell 1
      have x2 := HK0F.out.cell 2
      have x3 := HK0F.out.cell 3
      have x4 := HK0F.out.cell 4
      have x5 := HK0F.out.cell 5
      simp only [List.getElem?_toArray, List.getElem?_cons_zero, List.getElem?_cons_succ] at x0 x1 x2 x3 x4 x5
      have y0 := HK1F.out.cell 0
      have y1 := HK1F.out.cell 1
      have y2 := HK1F.out.cell 2
      have y3 := HK1F.out.cell 3
      have y4 := HK1F.out.cell 4
      have y5 := HK1F.out.cell 5
      simp only [List.getElem?_toArray, List.getElem?_cons_zero, List.getElem?_cons_succ] at y0 y1 y2 y3 y4 y5
      have u0 := HKF.out.cell 0
      have u1 := HKF.out.cell 1
      have u2 := HKF.out.cell 2
      have u3 := HKF.out.cell 3
      have u4 := HKF.out.cell 4
      have u5 := HKF.out.cell 5
      simp only [List.getElem?_toArray, List.getElem?_cons_zero, List.getElem?_cons_succ] at u0 u1 u2 u3 u4 u5
      have v0 := HKF.out.frozen 0
      have v1 := HKF.out.frozen 1
      have v2 := HKF.out.frozen 2
      have v3 := HKF.out.frozen 3
      have v4 := HKF.out.frozen 4
      have v5 := HKF.out.frozen 5
      go_upto_region 9 with (fail)
      obtain ⟨wA, hwn⟩ : ∃ wA, wA = wF.setCell ⟨w5.heap.size, 2, none⟩ (.int .i64 (aL + bH)) := ⟨_, rfl⟩
      have HKA := Lib.hid (show Blk wA (w5.heap.size) 38 #[.int .i64 (aL + bL), .int .i64 sN, .int .i64 (aL + bH), .int .i64 bT, .int .u64 jv, .int .u64 js] by rw [hwn]; exact HKF.out.set_ 2 (.int .i64 (aL + bH)))
      have HK0A := Lib.hid (HK0F.out.far (p := ⟨w5.heap.size, 2, none⟩) (show w.heap.size ≠ w5.heap.size by omega) (.int .i64 (aL + bH)))
      rw [← hwn] at HK0A
      have HK1A := Lib.hid (HK1F.out.far (p := ⟨w5.heap.size, 2, none⟩) (show w.heap.size + 1 ≠ w5.heap.size by omega) (.int .i64 (aL + bH)))
      rw [← hwn] at HK1A
      have HK2A := Lib.hid (HK2F.out.far (p := ⟨w5.heap.size, 2, none⟩) (show w.heap.size + 1 + 1 ≠ w5.heap.size by omega) (.int .i64 (aL + bH)))
      rw [← hwn] at HK2A
      have HQA := Lib.hid (HQF.out.setCell (p := ⟨w5.heap.size, 2, none⟩) (show w.heap.size ≤ w5.heap.size by omega) (.int .i64 (aL + bH)))
      rw [← hwn] at HQA ⊢
      clear hwn x0 x1 x2 x3 x4 x5 y0 y1 y2 y3 y4 y5 u0 u1 u2 u3 u4 u5 v0 v1 v2 v3 v4 v5
      have x0 := HK0A.out.cell 0
      have x1 := HK0A.out.cell 1
      have x2 := HK0A.out.cell 2
      have x3 := HK0A.out.cell 3
      have x4 := HK0A.out.cell 4
      have x5 := HK0A.out.cell 5
      simp only [List.getElem?_toArray, List.getElem?_cons_zero, List.getElem?_cons_succ] at x0 x1 x2 x3 x4 x5
      have y0 := HK1A.out.cell 0
      have y1 := HK1A.out.cell 1
      have y2 := HK1A.out.cell 2
      have y3 := HK1A.out.cell 3
      have y4 := HK1A.out.cell 4
      have y5 := HK1A.out.cell 5
      simp only [List.getElem?_toArray, List.getElem?_cons_zero, List.getElem?_cons_succ] at y0 y1 y2 y3 y4 y5
      have u0 := HKA.out.cell 0
      have u1 := HKA.out.cell 1
      have u2 := HKA.out.cell 2
      have u3 := HKA.out.cell 3
      have u4 := HKA.out.cell 4
      have u5 := HKA.out.cell 5
      simp only [List.getElem?_toArray, List.getElem?_cons_zero, List.getElem?_cons_succ] at u0 u1 u2 u3 u4 u5
      have v0 := HKA.out.frozen 0
      have v1 := HKA.out.frozen 1
      have v2 := HKA.out.frozen 2
      have v3 := HKA.out.frozen 3
      have v4 := HKA.out.frozen 4
      have v5 := HKA.out.frozen 5
      by_cases hb : bN = 0
      · have eb : (bN == 0) = true := by simp [hb]
        have HB := Lib.hid hb
        clear hb
        go_upto_region 11 with (fail)
        obtain ⟨wB, hwn⟩ : ∃ wB, wB = wA.setCell ⟨w5.heap.size, 3, none⟩ (.int .i64 (bL + aT)) := ⟨_, rfl⟩
        have HKB := Lib.hid (show Blk wB (w5.heap.size) 38 #[.int .i64 (aL + bL), .int .i64 sN, .int .i64 (aL + bH), .int .i64 (bL + aT), .int .u64 jv, .int .u64 js] by rw [hwn]; exact HKA.out.set_ 3 (.int .i64 (bL + aT)))
        have HK0B := Lib.hid (HK0A.out.far (p := ⟨w5.heap.size, 3, none⟩) (show w.heap.size ≠ w5.heap.size by omega) (.int .i64 (bL + aT)))
        rw [← hwn] at HK0B
        have HK1B := Lib.hid (HK1A.out.far (p := ⟨w5.heap.size, 3, none⟩) (show w.heap.size + 1 ≠ w5.heap.size by omega) (.int .i64 (bL + aT)))
        rw [← hwn] at HK1B
        have HK2B := Lib.hid (HK2A.out.far (p := ⟨w5.heap.size, 3, none⟩) (show w.heap.size + 1 + 1 ≠ w5.heap.size by omega) (.int .i64 (bL + aT)))
        rw [← hwn] at HK2B
        have HQB := Lib.hid (HQA.out.setCell (p := ⟨w5.heap.size, 3, none⟩) (show w.heap.size ≤ w5.heap.size by omega) (.int .i64 (bL + aT)))
        rw [← hwn] at HQB ⊢
        clear hwn x0 x1 x2 x3 x4 x5 y0 y1 y2 y3 y4 y5 u0 u1 u2 u3 u4 u5 v0 v1 v2 v3 v4 v5
        have x0 := HK0B.out.cell 0
        have x1 := HK0B.out.cell 1
        have x2 := HK0B.out.cell 2
        have x3 := HK0B.out.cell 3
        have x4 := HK0B.out.cell 4
        have x5 := HK0B.out.cell 5
        simp only [List.getElem?_toArray, List.getElem?_cons_zero, List.getElem?_cons_succ] at x0 x1 x2 x3 x4 x5
        have y0 := HK1B.out.cell 0
        have y1 := HK1B.out.cell 1
        have y2 := HK1B.out.cell 2
        have y3 := HK1B.out.cell 3
        have y4 := HK1B.out.cell 4
        have y5 := HK1B.out.cell 5
        simp only [List.getElem?_toArray, List.getElem?_cons_zero, List.getElem?_cons_succ] at y0 y1 y2 y3 y4 y5
        have u0 := HKB.out.cell 0
        have u1 := HKB.out.cell 1
        have u2 := HKB.out.cell 2
        have u3 := HKB.out.cell 3
        have u4 := HKB.out.cell 4
        have u5 := HKB.out.cell 5
        simp only [List.getElem?_toArray, List.getElem?_cons_zero, List.getElem?_cons_succ] at u0 u1 u2 u3 u4 u5
        have v0 := HKB.out.frozen 0
        have v1 := HKB.out.frozen 1
        have v2 := HKB.out.frozen 2
        have v3 := HKB.out.frozen 3
        have v4 := HKB.out.frozen 4
        have v5 := HKB.out.frozen 5
        have r0 := HK2B.out.cell 0
        have r1 := HK2B.out.cell 1
        have r2 := HK2B.out.cell 2
        have r3 := HK2B.out.cell 3
        have r4 := HK2B.out.cell 4
        have r5 := HK2B.out.cell 5
        simp only [List.getElem?_toArray, List.getElem?_cons_zero, List.getElem?_cons_succ] at r0 r1 r2 r3 r4 r5
        have s0 := HK2B.out.frozen 0
        have s1 := HK2B.out.frozen 1
        have s2 := HK2B.out.frozen 2
        have s3 := HK2B.out.frozen 3
        have s4 := HK2B.out.frozen 4
        have s5 := HK2B.out.frozen 5
        go_wp2_with fail
        obtain ⟨wE, hwE⟩ : ∃ wE, wE = (setL wB (w.heap.size + 1 + 1) 0 [.int .i64 (aL + bL), .int .i64 sN, .int .i64 (aL + bH), .int .i64 (bL + aT), .int .u64 jv, .int .u64 js]) := ⟨_, rfl⟩
        have kwE : Blk wE (w.heap.size + 1 + 1) 38 #[.int .i64 (aL + bL), .int .i64 sN, .int .i64 (aL + bH), .int .i64 (bL + aT), .int .u64 jv, .int .u64 js] := by rw [hwE]; exact setL_all HK2B.out _ rfl
        have bwE : Below w.heap.size w wE := by rw [hwE]; exact (setL_below HQB.out (by omega) 0 _)
        simp only [setL, Nat.zero_add, Nat.reduceAdd] at hwE
        rw [← hwE]
        clear hwE
        have f0 := kwE.cell 0
        have f1 := kwE.cell 1
        have f2 := kwE.cell 2
        have f3 := kwE.cell 3
        have f4 := kwE.cell 4
        have f5 := kwE.cell 5
        simp only [List.getElem?_toArray, List.getElem?_cons_zero, List.getElem?_cons_succ] at f0 f1 f2 f3 f4 f5
        refine bodyPost_ret (v := .tuple #[.agg #[.int .i64 (aL + bL), .int .i64 sN, .int .i64 (aL + bH), .int .i64 (bL + aT), .int .u64 jv, .int .u64 js], .nilIface]) (by simp [results, Try.results89, go_sem, f0, f1, f2, f3, f4, f5]) rfl ?_
        exact ⟨by first | rw [if_pos HA.out, if_pos HB.out] | rw [if_pos HA.out] | rw [if_pos HB.out] | rfl, bwE⟩
      · have eb : (bN == 0) = false := by simp [hb]
        have HB := Lib.hid hb
        clear hb
        go_upto_region 11 with (fail)
        have r0 := HK2A.out.cell 0
        have r1 := HK2A.out.cell 1
        have r2 := HK2A.out.cell 2
        have r3 := HK2A.out.cell 3
        have r4 := HK2A.out.cell 4
        have r5 := HK2A.out.cell 5
        simp only [List.getElem?_toArray, List.getElem?_cons_zero, List.getElem?_cons_succ] at r0 r1 r2 r3 r4 r5
        have s0 := HK2A.out.frozen 0
        have s1 := HK2A.out.frozen 1
        have s2 := HK2A.out.frozen 2
        have s3 := HK2A.out.frozen 3
        have s4 := HK2A.out.frozen 4
        have s5 := HK2A.out.frozen 5
        go_wp2_with fail
        obtain ⟨wE, hwE⟩ : ∃ wE, wE = (setL wA (w.heap.size + 1 + 1) 0 [.int .i64 (aL + bL), .int .i64 sN, .int .i64 (aL + bH), .int .i64 bT, .int .u64 jv, .int .u64 js]) := ⟨_, rfl⟩
        have kwE : Blk wE (w.heap.size + 1 + 1) 38 #[.int .i64 (aL + bL), .int .i64 sN, .int .i64 (aL + bH), .int .i64 bT, .int .u64 jv, .int .u64 js] := by rw [hwE]; exact setL_all HK2A.out _ rfl
        have bwE : Below w.heap.size w wE := by rw [hwE]; exact (setL_below HQA.out (by omega) 0 _)
        simp only [setL, Nat.zero_add, Nat.reduceAdd] at hwE
        rw [← hwE]
        clear hwE
        have f0 := kwE.cell 0
        have f1 := kwE.cell 1
        have f2 := kwE.cell 2
        have f3 := kwE.cell 3
        have f4 := kwE.cell 4
        have f5 := kwE.cell 5
        simp only [List.getElem?_toArray, List.getElem?_cons_zero, List.getElem?_cons_succ] at f0 f1 f2 f3 f4 f5
        refine bodyPost_ret (v := .tuple #[.agg #[.int .i64 (aL + bL), .int .i64 sN, .int .i64 (aL + bH), .int .i64 bT, .int .u64 jv, .int .u64 js], .nilIface]) (by simp [results, Try.results89, go_sem, f0, f1, f2, f3, f4, f5]) rfl ?_
        exact ⟨by first | rw [if_pos HA.out, if_neg HB.out] | rw [if_pos HA.out] | rw [if_neg HB.out] | rfl, bwE⟩
    · have ea : (aN == 0) = false := by simp [ha]
      have HA := Lib.hid ha
      clear ha
      have x0 := HK0F.out.cell 0
      have x1 := HK0F.out.cell 1
      have x2 := HK0F.out.cell 2
      have x3 := HK0F.out.cell 3
      have x4 := HK0F.out.cell 4
      have x5 := HK0F.out.cell 5
      simp only [List.getElem?_toArray, List.getElem?_cons_zero, List.getElem?_cons_succ] at x0 x1 x2 x3 x4 x5
      have y0 := HK1F.out.cell 0
      have y1 := HK1F.out.cell 1
      have y2 := HK1F.out.cell 2
      have y3 := HK1F.out.cell 3
      have y4 := HK1F.out.cell 4
      have y5 := HK1F.out.cell 5
      simp only [List.getElem?_toArray, List.getElem?_cons_zero, List.getElem?_cons_succ] at y0 y1 y2 y3 y4 y5
      have u0 := HKF.out.cell 0
      have u1 := HKF.out.cell 1
      have u2 := HKF.out.cell 2
      have u3 := HKF.out.cell 3
      have u4 := HKF.out.cell 4
      have u5 := HKF.out.cell 5
      simp only [List.getElem?_toArray, List.getElem?_cons_zero, List.getElem?_cons_succ] at u0 u1 u2 u3 u4 u5
      have v0 := HKF.out.frozen 0
      have v1 := HKF.out.frozen 1
      have v2 := HKF.out.frozen 2
      have v3 := HKF.out.frozen 3
      have v4 := HKF.out.frozen 4
      have v5 := HKF.out.frozen 5
      go_upto_region 9 with (fail)
      by_cases hb : bN = 0
      · have eb : (bN == 0) = true := by simp [hb]
        have HB := Lib.hid hb
        clear hb
        go_upto_region 11 with (fail)
        obtain ⟨wB, hwn⟩ : ∃ wB, wB = wF.setCell ⟨w5.heap.size, 3, none⟩ (.int .i64 (bL + aT)) := ⟨_, rfl⟩
        have HKB := Lib.hid (show Blk wB (w5.heap.size) 38 #[.int .i64 (aL + bL), .int .i64 sN, .int .i64 aH, .int .i64 (bL + aT), .int .u64 jv, .int .u64 js] by rw [hwn]; exact HKF.out.set_ 3 (.int .i64 (bL + aT)))
        have HK0B := Lib.hid (HK0F.out.far (p := ⟨w5.heap.size, 3, none⟩) (show w.heap.size ≠ w5.heap.size by omega) (.int .i64 (bL + aT)))
        rw [← hwn] at HK0B
        have HK1B := Lib.hid (HK1F.out.far (p := ⟨w5.heap.size, 3, none⟩) (show w.heap.size + 1 ≠ w5.heap.size by omega) (.int .i64 (bL + aT)))
        rw [← hwn] at HK1B
        have HK2B := Lib.hid (HK2F.out.far (p := ⟨w5.heap.size, 3, none⟩) (show w.heap.size + 1 + 1 ≠ w5.heap.size by omega) (.int .i64 (bL + aT)))
        rw [← hwn] at HK2B
        have HQB := Lib.hid (HQF.out.setCell (p := ⟨w5.heap.size, 3, none⟩) (show w.heap.size ≤ w5.heap.size by omega) (.int .i64 (bL + aT)))
        rw [← hwn] at HQB ⊢
        clear hwn x0 x1 x2 x3 x4 x5 y0 y1 y2 y3 y4 y5 u0 u1 u2 u3 u4 u5 v0 v1 v2 v3 v4 v5
        have x0 := HK0B.out.cell 0
        have x1 := HK0B.out.cell 1
        have x2 := HK0B.out.cell 2
        have x3 := HK0B.out.cell 3
        have x4 := HK0B.out.cell 4
        have x5 := HK0B.out.cell 5
        simp only [List.getElem?_toArray, List.getElem?_cons_zero, List.getElem?_cons_succ] at x0 x1 x2 x3 x4 x5
        have y0 := HK1B.out.cell 0
        have y1 := HK1B.out.cell 1
        have y2 := HK1B.out.cell 2
        have y3 := HK1B.out.cell 3
        have y4 := HK1B.out.cell 4
        have y5 := HK1B.out.cell 5
        simp only [List.getElem?_toArray, List.getElem?_cons_zero, List.getElem?_cons_succ] at y0 y1 y2 y3 y4 y5
        have u0 := HKB.out.cell 0
        have u1 := HKB.out.cell 1
        have u2 := HKB.out.cell 2
        have u3 := HKB.out.cell 3
        have u4 := HKB.out.cell 4
        have u5 := HKB.out.cell 5
        simp only [List.getElem?_toArray, List.getElem?_cons_zero, List.getElem?_cons_succ] at u0 u1 u2 u3 u4 u5
        have v0 := HKB.out.frozen 0
        have v1 := HKB.out.frozen 1
        have v2 := HKB.out.frozen 2
        have v3 := HKB.out.frozen 3
        have v4 := HKB.out.frozen 4
        have v5 := HKB.out.frozen 5
        have r0 := HK2B.out.cell 0
        have r1 := HK2B.out.cell 1
        have r2 := HK2B.out.cell 2
        have r3 := HK2B.out.cell 3
        have r4 := HK2B.out.cell 4
        have r5 := HK2B.out.cell 5
        simp only [List.getElem?_toArray, List.getElem?_cons_zero, List.getElem?_cons_succ] at r0 r1 r2 r3 r4 r5
        have s0 := HK2B.out.frozen 0
        have s1 := HK2B.out.frozen 1
        have s2 := HK2B.out.frozen 2
        have s3 := HK2B.out.frozen 3
        have s4 := HK2B.out.frozen 4
        have s5 := HK2B.out.frozen 5
        go_wp2_with fail
        obtain ⟨wE, hwE⟩ : ∃ wE, wE = (setL wB (w.heap.size + 1 + 1) 0 [.int .i64 (aL + bL), .int .i64 sN, .int .i64 aH, .int .i64 (bL + aT), .int .u64 jv, .int .u64 js]) := ⟨_, rfl⟩
        have kwE : Blk wE (w.heap.size + 1 + 1) 38 #[.int .i64 (aL + bL), .int .i64 sN, .int .i64 aH, .int .i64 (bL + aT), .int .u64 jv, .int .u64 js] := by rw [hwE]; exact setL_all HK2B.out _ rfl
        have bwE : Below w.heap.size w wE := by rw [hwE]; exact (setL_below HQB.out (by omega) 0 _)
        simp only [setL, Nat.zero_add, Nat.reduceAdd] at hwE
        rw [← hwE]
        clear hwE
        have f0 := kwE.cell 0
        have f1 := kwE.cell 1
        have f2 := kwE.cell 2
        have f3 := kwE.cell 3
        have f4 := kwE.cell 4
        have f5 := kwE.cell 5
        simp only [List.getElem?_toArray, List.getElem?_cons_zero, List.getElem?_cons_succ] at f0 f1 f2 f3 f4 f5
        refine bodyPost_ret (v := .tuple #[.agg #[.int .i64 (aL + bL), .int .i64 sN, .int .i64 aH, .int .i64 (bL + aT), .int .u64 jv, .int .u64 js], .nilIface]) (by simp [results, Try.results89, go_sem, f0, f1, f2, f3, f4, f5]) rfl ?_
        exact ⟨by first | rw [if_neg HA.out, if_pos HB.out] | rw [if_neg HA.out] | rw [if_pos HB.out] | rfl, bwE⟩
      · have eb : (bN == 0) = false := by simp [hb]
        have HB := Lib.hid hb
        clear hb
        go_upto_region 11 with (fail)
        have r0 := HK2F.out.cell 0
        have r1 := HK2F.out.cell 1
        have r2 := HK2F.out.cell 2
        have r3 := HK2F.out.cell 3
        have r4 := HK2F.out.cell 4
        have r5 := HK2F.out.cell 5
        simp only [List.getElem?_toArray, List.getElem?_cons_zero, List.getElem?_cons_succ] at r0 r1 r2 r3 r4 r5
        have s0 := HK2F.out.frozen 0
        have s1 := HK2F.out.frozen 1
        have s2 := HK2F.out.frozen 2
        have s3 := HK2F.out.frozen 3
        have s4 := HK2F.out.frozen 4
        have s5 := HK2F.out.frozen 5
        go_wp2_with fail
        obtain ⟨wE, hwE⟩ : ∃ wE, wE = (setL wF (w.heap.size + 1 + 1) 0 [.int .i64 (aL + bL), .int .i64 sN, .int .i64 aH, .int .i64 bT, .int .u64 jv, .int .u64 js]) := ⟨_, rfl⟩
        have kwE : Blk wE (w.heap.size + 1 + 1) 38 #[.int .i64 (aL + bL), .int .i64 sN, .int .i64 aH, .int .i64 bT, .int .u64 jv, .int .u64 js] := by rw [hwE]; exact setL_all HK2F.out _ rfl
        have bwE : Below w.heap.size w wE := by rw [hwE]; exact (setL_below HQF.out (by omega) 0 _)
        simp only [setL, Nat.zero_add, Nat.reduceAdd] at hwE
        rw [← hwE]
        clear hwE
        have f0 := kwE.cell 0
        have f1 := kwE.cell 1
        have f2 := kwE.cell 2
        have f3 := kwE.cell 3
        have f4 := kwE.cell 4
        have f5 := kwE.cell 5
        simp only [List.getElem?_toArray, List.getElem?_cons_zero, List.getElem?_cons_succ] at f0 f1 f2 f3 f4 f5
        refine bodyPost_ret (v := .tuple #[.agg #[.int .i64 (aL + bL), .int .i64 sN, .int .i64 aH, .int .i64 bT, .int .u64 jv, .int .u64 js], .nilIface]) (by simp [results, Try.results89, go_sem, f0, f1, f2, f3, f4, f5]) rfl ?_
        exact ⟨by first | rw [if_neg HA.out, if_neg HB.out] | rw [if_neg HA.out] | rw [if_neg HB.out] | rfl, bwE⟩
  · go_simp
    have hb5 : Below w4.heap.size w4 ((w4.alloc (.cells #[.int .i64 0, .int .i64 0, .int .i64 0, .int .i64 0, .int .u64 0, .int .u64 0] 38)).drew) := ((Below.refl _ _).alloc (Nat.le_refl _) _).drew
    have HZ5 := Lib.hid (Blk.new w4 38 #[.int .i64 0, .int .i64 0, .int .i64 0, .int .i64 0, .int .u64 0, .int .u64 0]).drew
    obtain ⟨w5, hw5⟩ : ∃ w5, w5 = (w4.alloc (.cells #[.int .i64 0, .int .i64 0, .int .i64 0, .int .i64 0, .int .u64 0, .int .u64 0] 38)).drew := ⟨_, rfl⟩
    rw [← hw5] at hb5 HZ5 ⊢
    clear hw5
    have HK05 := Lib.hid (HK0.out.below hb5 HK0.out.lt)
    have HK15 := Lib.hid (HK1.out.below hb5 HK1.out.lt)
    have HK25 := Lib.hid (HK2.out.below hb5 HK2.out.lt)
    have HQ5 := Lib.hid (HQ.out.trans (hb5.mono HQ.out.size))
    clear hb5 hHeld x0 x1 x2 x3 x4 x5 y0 y1 y2 y3 y4 y5
    have x0 := HK05.out.cell 0
    have x1 := HK05.out.cell 1
    have x2 := HK05.out.cell 2
    have x3 := HK05.out.cell 3
    have x4 := HK05.out.cell 4
    have x5 := HK05.out.cell 5
    simp only [List.getElem?_toArray, List.getElem?_cons_zero, List.getElem?_cons_succ] at x0 x1 x2 x3 x4 x5
    have y0 := HK15.out.cell 0
    have y1 := HK15.out.cell 1
    have y2 := HK15.out.cell 2
    have y3 := HK15.out.cell 3
    have y4 := HK15.out.cell 4
    have y5 := HK15.out.cell 5
    simp only [List.getElem?_toArray, List.getElem?_cons_zero, List.getElem?_cons_succ] at y0 y1 y2 y3 y4 y5
    have hHeld := And.intro x0 (And.intro x1 (And.intro x2 (And.intro x3 (And.intro x4 (And.intro x5 (And.intro y0 (And.intro y1 (And.intro y2 (And.intro y3 (And.intro y4 y5))))))))))
    refine hK.out _ _ hHeld ?_
    clear hK K
    try simp only [Act.put, List.setIfInBounds_toArray, List.set_cons_zero, List.set_cons_succ]
    refine wpAnyH_one (i := 14) (by kernel_rfl) rfl (fun K hK => ?_)
    go_simp
    go_at_call 19
    refine (hdj _).mono ?_
    rintro e w6 ⟨rfl, hb6⟩
    have HZ := Lib.hid (HZ5.out.below hb6 HZ5.out.lt)
    have HK06 := Lib.hid (HK05.out.below hb6 HK05.out.lt)
    have HK16 := Lib.hid (HK15.out.below hb6 HK15.out.lt)
    have HK26 := Lib.hid (HK25.out.below hb6 HK25.out.lt)
    have HQ6 := Lib.hid (HQ5.out.trans (hb6.mono HQ5.out.size))
    clear hb6 hHeld x0 x1 x2 x3 x4 x5 y0 y1 y2 y3 y4 y5
    have x0 := HK06.out.cell 0
    have x1 := HK06.out.cell 1
    have x2 := HK06.out.cell 2
    have x3 := HK06.out.cell 3
    have x4 := HK06.out.cell 4
    have x5 := HK06.out.cell 5
    simp only [List.getElem?_toArray, List.getElem?_cons_zero, List.getElem?_cons_succ] at x0 x1 x2 x3 x4 x5
    have y0 := HK16.out.cell 0
    have y1 := HK16.out.cell 1
    have y2 := HK16.out.cell 2
    have y3 := HK16.out.cell 3
    have y4 := HK16.out.cell 4
    have y5 := HK16.out.cell 5
    simp only [List.getElem?_toArray, List.getElem?_cons_zero, List.getElem?_cons_succ] at y0 y1 y2 y3 y4 y5
    have hHeld := And.intro x0 (And.intro x1 (And.intro x2 (And.intro x3 (And.intro x4 (And.intro x5 (And.intro y0 (And.intro y1 (And.intro y2 (And.intro y3 (And.intro y4 y5))))))))))
    refine hK.out _ _ hHeld ?_
    clear hK K
    try simp only [Act.put, List.setIfInBounds_toArray, List.set_cons_zero, List.set_cons_succ]
    refine wpAnyH_take (i := 15) (v := ?_) rfl (by kernel_rfl) (by kernel_rfl) (by kernel_rfl) (fun _ _ _ h => h) (Or.inl ⟨by kernel_rfl, ?_⟩) hHeld ?_
    rotate_left
    · intro w' hSw
      (try dsimp only at hSw)
      go_simp <;> with_reducible rfl
    try simp only [Act.put, List.setIfInBounds_toArray, List.set_cons_zero, List.set_cons_succ]
    refine wpAnyH_one (i := 17) (by kernel_rfl) rfl (fun K hK => ?_)
    have z0 := HZ.out.cell 0
    have z1 := HZ.out.cell 1
    have z2 := HZ.out.cell 2
    have z3 := HZ.out.cell 3
    have z4 := HZ.out.cell 4
    have z5 := HZ.out.cell 5
    simp only [List.getElem?_toArray, List.getElem?_cons_zero, List.getElem?_cons_succ] at z0 z1 z2 z3 z4 z5
    have q0 := HZ.out.frozen 0
    have q1 := HZ.out.frozen 1
    have q2 := HZ.out.frozen 2
    have q3 := HZ.out.frozen 3
    have q4 := HZ.out.frozen 4
    have q5 := HZ.out.frozen 5
    go_simp
    obtain ⟨wF, hwF⟩ : ∃ wF, wF = (setL w6 (w4.heap.size) 0 [.int .i64 (aL + bL), .int .i64 sN, .int .i64 aH, .int .i64 bT, .int .u64 jv, .int .u64 js]) := ⟨_, rfl⟩
    have HKF := Lib.hid (show Blk wF (w4.heap.size) 38 #[.int .i64 (aL + bL), .int .i64 sN, .int .i64 aH, .int .i64 bT, .int .u64 jv, .int .u64 js] by rw [hwF]; exact setL_all HZ.out _ rfl)
    have HK0F := Lib.hid (show Blk wF w.heap.size 38 _ by rw [hwF]; exact setL_far HK06.out (by omega) 0 _)
    have HK1F := Lib.hid (show Blk wF (w.heap.size + 1) 38 _ by rw [hwF]; exact setL_far HK16.out (by omega) 0 _)
    have HK2F := Lib.hid (show Blk wF (w.heap.size + 1 + 1) 38 _ by rw [hwF]; exact setL_far HK26.out (by omega) 0 _)
    have HQF := Lib.hid (show Below w.heap.size w wF by rw [hwF]; exact setL_below HQ6.out (by omega) 0 _)
    simp only [setL, Nat.zero_add, Nat.reduceAdd] at hwF
    rw [← hwF]
    clear hwF hHeld x0 x1 x2 x3 x4 x5 y0 y1 y2 y3 y4 y5 z0 z1 z2 z3 z4 z5 q0 q1 q2 q3 q4 q5
    have x0 := HK0F.out.cell 0
    have x1 := HK0F.out.cell 1
    have x2 := HK0F.out.cell 2
    have x3 := HK0F.out.cell 3
    have x4 := HK0F.out.cell 4
    have x5 := HK0F.out.cell 5
    simp only [List.getElem?_toArray, List.getElem?_cons_zero, List.getElem?_cons_succ] at x0 x1 x2 x3 x4 x5
    have y0 := HK1F.out.cell 0
    have y1 := HK1F.out.cell 1
    have y2 := HK1F.out.cell 2
    have y3 := HK1F.out.cell 3
    have y4 := HK1F.out.cell 4
    have y5 := HK1F.out.cell 5
    simp only [List.getElem?_toArray, List.getElem?_cons_zero, List.getElem?_cons_succ] at y0 y1 y2 y3 y4 y5
    refine hK.out _ _ ⟨x0, x1, x2, x3, x4, x5, y0, y1, y2, y3, y4, y5⟩ ?_
    clear hK K
    try simp only [Act.put, List.setIfInBounds_toArray, List.set_cons_zero, List.set_cons_succ]
    refine wpAnyH_done (by kernel_rfl) ?_ _
    refine NoPanic.normal ?_
    try simp only [Act.put, List.setIfInBounds_toArray, List.set_cons_zero, List.set_cons_succ]
    have hG0 : w.heap.size + 1 + 1 < w4.heap.size := by omega
    clear x0 x1 x2 x3 x4 x5 y0 y1 y2 y3 y4 y5
    by_cases ha : aN = 0
    · have ea : (aN == 0) = true := by simp [ha]
      have HA := Lib.hid ha
      clear ha
      have x0 := HK0F.out.cell 0
      have x1 := HK0F.out.cell 1
      have x2 := HK0F.out.cell 2
      have x3 := HK0F.out.cell 3
      have x4 := HK0F.out.cell 4
      have x5 := HK0F.out.cell 5
      simp only [List.getElem?_toArray, List.getElem?_cons_zero, List.getElem?_cons_succ] at x0 x1 x2 x3 x4 x5
      have y0 := HK1F.out.cell 0
      have y1 := HK1F.out.cell 1
      have y2 := HK1F.out.cell 2
      have y3 := HK1F.out.cell 3
      have y4 := HK1F.out.cell 4
      have y5 := HK1F.out.cell 5
      simp only [List.getElem?_toArray, List.getElem?_cons_zero, List.getElem?_cons_succ] at y0 y1 y2 y3 y4 y5
      have u0 := HKF.out.cell 0
      have u1 := HKF.out.cell 1
      have u2 := HKF.out.cell 2
      have u3 := HKF.out.cell 3
      have u4 := HKF.out.cell 4
      have u5 := HKF.out.cell 5
      simp only [List.getElem?_toArray, List.getElem?_cons_zero, List.getElem?_cons_succ] at u0 u1 u2 u3 u4 u5
      have v0 := HKF.out.frozen 0
      have v1 := HKF.out.frozen 1
      have v2 := HKF.out.frozen 2
      have v3 := HKF.out.frozen 3
      have v4 := HKF.out.frozen 4
      have v5 := HKF.out.frozen 5
      go_upto_region 9 with (fail)
      obtain ⟨wA, hwn⟩ : ∃ wA, wA = wF.setCell ⟨w4.heap.size, 2, none⟩ (.int .i64 (aL + bH)) := ⟨_, rfl⟩
      have HKA := Lib.hid (show Blk wA (w4.heap.size) 38 #[.int .i64 (aL + bL), .int .i64 sN, .int .i64 (aL + bH), .int .i64 bT, .int .u64 jv, .int .u64 js] by rw [hwn]; exact HKF.out.set_ 2 (.int .i64 (aL + bH)))
      have HK0A := Lib.hid (HK0F.out.far (p := ⟨w4.heap.size, 2, none⟩) (show w.heap.size ≠ w4.heap.size by omega) (.int .i64 (aL + bH)))
      rw [← hwn] at HK0A
      have HK1A := Lib.hid (HK1F.out.far (p := ⟨w4.heap.size, 2, none⟩) (show w.heap.size + 1 ≠ w4.heap.size by omega) (.int .i64 (aL + bH)))
      rw [← hwn] at HK1A
      have HK2A := Lib.hid (HK2F.out.far (p := ⟨w4.heap.size, 2, none⟩) (show w.heap.size + 1 + 1 ≠ w4.heap.size by omega) (.int .i64 (aL + bH)))
      rw [← hwn] at HK2A
      have HQA := Lib.hid (HQF.out.setCell (p := ⟨w4.heap.size, 2, none⟩) (show w.heap.size ≤ w4.heap.size by omega) (.int .i64 (aL + bH)))
      rw [← hwn] at HQA ⊢
      clear hwn x0 x1 x2 x3 x4 x5 y0 y1 y2 y3 y4 y5 u0 u1 u2 u3 u4 u5 v0 v1 v2 v3 v4 v5
      have x0 := HK0A.out.cell 0
      have x1 := HK0A.out.cell 1
      have x2 := HK0A.out.cell 2
      have x3 := HK0A.out.cell 3
      have x4 := HK0A.out.cell 4
      have x5 := HK0A.out.cell 5
      simp only [List.getElem?_toArray, List.getElem?_cons_zero, List.getElem?_cons_succ] at x0 x1 x2 x3 x4 x5
      have y0 := HK1A.out.cell 0
      have y1 := HK1A.out.cell 1
      have y2 := HK1A.out.cell 2
      have y3 := HK1A.out.cell 3
      have y4 := HK1A.out.cell 4
      have y5 := HK1A.out.cell 5
      simp only [List.getElem?_toArray, List.getElem?_cons_zero, List.getElem?_cons_succ] at y0 y1 y2 y3 y4 y5
      have u0 := HKA.out.cell 0
      have u1 := HKA.out.cell 1
      have u2 := HKA.out.cell 2
      have u3 := HKA.out.cell 3
      have u4 := HKA.out.cell 4
      have u5 := HKA.out.cell 5
      simp only [List.getElem?_toArray, List.getElem?_cons_zero, List.getElem?_cons_succ] at u0 u1 u2 u3 u4 u5
      have v0 := HKA.out.frozen 0
      have v1 := HKA.out.frozen 1
      have v2 := HKA.out.frozen 2
      have v3 := HKA.out.frozen 3
      have v4 := HKA.out.frozen 4
      have v5 := HKA.out.frozen 5
      by_cases hb : bN = 0
      · have eb : (bN == 0) = true := by simp [hb]
        have HB := Lib.hid hb
        clear hb
        go_upto_region 11 with (fail)
        obtain ⟨wB, hwn⟩ : ∃ wB, wB = wA.setCell ⟨w4.heap.size, 3, none⟩ (.int .i64 (bL + aT)) := ⟨_, rfl⟩
        have HKB := Lib.hid (show Blk wB (w4.heap.size) 38 #[.int .i64 (aL + bL), .int .i64 sN, .int .i64 (aL + bH), .int .i64 (bL + aT), .int .u64 jv, .int .u64 js] by rw [hwn]; exact HKA.out.set_ 3 (.int .i64 (bL + aT)))
        have HK0B := Lib.hid (HK0A.out.far (p := ⟨w4.heap.size, 3, none⟩) (show w.heap.size ≠ w4.heap.size by omega) (.int .i64 (bL + aT)))
        rw [← hwn] at HK0B
        have HK1B := Lib.hid (HK1A.out.far (p := ⟨w4.heap.size, 3, none⟩) (show w.heap.size + 1 ≠ w4.heap.size by omega) (.int .i64 (bL + aT)))
        rw [← hwn] at HK1B
        have HK2B := Lib.hid (HK2A.out.far (p := ⟨w4.heap.size, 3, none⟩) (show w.heap.size + 1 + 1 ≠ w4.heap.size by omega) (.int .i64 (bL + aT)))
        rw [← hwn] at HK2B
        have HQB := Lib.hid (HQA.out.setCell (p := ⟨w4.heap.size, 3, none⟩) (show w.heap.size ≤ w4.heap.size by omega) (.int .i64 (bL + aT)))
        rw [← hwn] at HQB ⊢
        clear hwn x0 x1 x2 x3 x4 x5 y0 y1 y2 y3 y4 y5 u0 u1 u2 u3 u4 u5 v0 v1 v2 v3 v4 v5
        have x0 := HK0B.out.cell 0
        have x1 := HK0B.out.cell 1
        have x2 := HK0B.out.cell 2
        have x3 := HK0B.out.cell 3
        have x4 := HK0B.out.cell 4
        have x5 := HK0B.out.cell 5
        simp only [List.getElem?_toArray, List.getElem?_cons_zero, List.getElem?_cons_succ] at x0 x1 x2 x3 x4 x5
        have y0 := HK1B.out.cell 0
        have y1 := HK1B.out.cell 1
        have y2 := HK1B.out.cell 2
        have y3 := HK1B.out.cell 3
        have y4 := HK1B.out.cell 4
        have y5 := HK1B.out.cell 5
        simp only [List.getElem?_toArray, List.getElem?_cons_zero, List.getElem?_cons_succ] at y0 y1 y2 y3 y4 y5
        have u0 := HKB.out.cell 0
        have u1 := HKB.out.cell 1
        have u2 := HKB.out.cell 2
        have u3 := HKB.out.cell 3
        have u4 := HKB.out.cell 4
        have u5 := HKB.out.cell 5
        simp only [List.getElem?_toArray, List.getElem?_cons_zero, List.getElem?_cons_succ] at u0 u1 u2 u3 u4 u5
        have v0 := HKB.out.frozen 0
        have v1 := HKB.out.frozen 1
        have v2 := HKB.out.frozen 2
        have v3 := HKB.out.frozen 3
        have v4 := HKB.out.frozen 4
        have v5 := HKB.out.frozen 5
        have r0 := HK2B.out.cell 0
        have r1 := HK2B.out.cell 1
        have r2 := HK2B.out.cell 2
        have r3 := HK2B.out.cell 3
        have r4 := HK2B.out.cell 4
        have r5 := HK2B.out.cell 5
        simp only [List.getElem?_toArray, List.getElem?_cons_zero, List.getElem?_cons_succ] at r0 r1 r2 r3 r4 r5
        have s0 := HK2B.out.frozen 0
        have s1 := HK2B.out.frozen 1
        have s2 := HK2B.out.frozen 2
        have s3 := HK2B.out.frozen 3
        have s4 := HK2B.out.frozen 4
        have s5 := HK2B.out.frozen 5
        go_wp2_with fail
        obtain ⟨wE, hwE⟩ : ∃ wE, wE = (setL wB (w.heap.size + 1 + 1) 0 [.int .i64 (aL + bL), .int .i64 sN, .int .i64 (aL + bH), .int .i64 (bL + aT), .int .u64 jv, .int .u64 js]) := ⟨_, rfl⟩
        have kwE : Blk wE (w.heap.size + 1 + 1) 38 #[.int .i64 (aL + bL), .int .i64 sN, .int .i64 (aL + bH), .int .i64 (bL + aT), .int .u64 jv, .int .u64 js] := by rw [hwE]; exact setL_all HK2B.out _ rfl
        have bwE : Below w.heap.size w wE := by rw [hwE]; exact (setL_below HQB.out (by omega) 0 _)
        simp only [setL, Nat.zero_add, Nat.reduceAdd] at hwE
        rw [← hwE]
        clear hwE
        have f0 := kwE.cell 0
        have f1 := kwE.cell 1
        have f2 := kwE.cell 2
        have f3 := kwE.cell 3
        have f4 := kwE.cell 4
        have f5 := kwE.cell 5
        simp only [List.getElem?_toArray, List.getElem?_cons_zero, List.getElem?_cons_succ] at f0 f1 f2 f3 f4 f5
        refine bodyPost_ret (v := .tuple #[.agg #[.int .i64 (aL + bL), .int .i64 sN, .int .i64 (aL + bH), .int .i64 (bL + aT), .int .u64 jv, .int .u64 js], .nilIface]) (by simp [results, Try.results89, go_sem, f0, f1, f2, f3, f4, f5]) rfl ?_
        exact ⟨by first | rw [if_pos HA.out, if_pos HB.out] | rw [if_pos HA.out] | rw [if_pos HB.out] | rfl, bwE⟩
      · have eb : (bN == 0) = false := by simp [hb]
        have HB := Lib.hid hb
        clear hb
        go_upto_region 11 with (fail)
        have r0 := HK2A.out.cell 0
        have r1 := HK2A.out.cell 1
        have r2 := HK2A.out.cell 2
        have r3 := HK2A.out.cell 3
        have r4 := HK2A.out.cell 4
        have r5 := HK2A.out.cell 5
        simp only [List.getElem?_toArray, List.getElem?_cons_zero, List.getElem?_cons_succ] at r0 r1 r2 r3 r4 r5
        have s0 := HK2A.out.frozen 0
        have s1 := HK2A.out.frozen 1
        have s2 := HK2A.out.frozen 2
        have s3 := HK2A.out.frozen 3
        have s4 := HK2A.out.frozen 4
        have s5 := HK2A.out.frozen 5
        go_wp2_with fail
        obtain ⟨wE, hwE⟩ : ∃ wE, wE = (setL wA (w.heap.size + 1 + 1) 0 [.int .i64 (aL + bL), .int .i64 sN, .int .i64 (aL + bH), .int .i64 bT, .int .u64 jv, .int .u64 js]) := ⟨_, rfl⟩
        have kwE : Blk wE (w.heap.size + 1 + 1) 38 #[.int .i64 (aL + bL), .int .i64 sN, .int .i64 (aL + bH), .int .i64 bT, .int .u64 jv, .int .u64 js] := by rw [hwE]; exact setL_all HK2A.out _ rfl
        have bwE : Below w.heap.size w wE := by rw [hwE]; exact (setL_below HQA.out (by omega) 0 _)
        simp only [setL, Nat.zero_add, Nat.reduceAdd] at hwE
        rw [← hwE]
        clear hwE
        have f0 := kwE.cell 0
        have f1 := kwE.cell 1
        have f2 := kwE.cell 2
        have f3 := kwE.cell 3
        have f4 := kwE.cell 4
        have f5 := kwE.cell 5
        simp only [List.getElem?_toArray, List.getElem?_cons_zero, List.getElem?_cons_succ] at f0 f1 f2 f3 f4 f5
        refine bodyPost_ret (v := .tuple #[.agg #[.int .i64 (aL + bL), .int .i64 sN, .int .i64 (aL + bH), .int .i64 bT, .int .u64 jv, .int .u64 js], .nilIface]) (by simp [results, Try.results89, go_sem, f0, f1, f2, f3, f4, f5]) rfl ?_
        exact ⟨by first | rw [if_pos HA.out, if_neg HB.out] | rw [if_pos HA.out] | rw [if_neg HB.out] | rfl, bwE⟩
    · have ea : (aN == 0) = false := by simp [ha]
      have HA := Lib.hid ha
      clear ha
      have x0 := HK0F.out.cell 0
      have x1 := HK0F.out.cell 1
      have x2 := HK0F.out.cell 2
      have x3 := HK0F.out.cell 3
      have x4 := HK0F.out.cell 4
      have x5 := HK0F.out.cell 5
      simp only [List.getElem?_toArray, List.getElem?_cons_zero, List.getElem?_cons_succ] at x0 x1 x2 x3 x4 x5
      have y0 := HK1F.out.cell 0
      have y1 := HK1F.out.cell 1
      have y2 := HK1F.out.cell 2
      have y3 := HK1F.out.cell 3
      have y4 := HK1F.out.cell 4
      have y5 := HK1F.out.cell 5
      simp only [List.getElem?_toArray, List.getElem?_cons_zero, List.getElem?_cons_succ] at y0 y1 y2 y3 y4 y5
      have u0 := HKF.out.cell 0
      have u1 := HKF.out.cell 1
      have u2 := HKF.out.cell 2
      have u3 := HKF.out.cell 3
      have u4 := HKF.out.cell 4
      have u5 := HKF.out.cell 5
      simp only [List.getElem?_toArray, List.getElem?_cons_zero, List.getElem?_cons_succ] at u0 u1 u2 u3 u4 u5
      have v0 := HKF.out.frozen 0
      have v1 := HKF.out.frozen 1
      have v2 := HKF.out.frozen 2
      have v3 := HKF.out.frozen 3
      have v4 := HKF.out.frozen 4
      have v5 := HKF.out.frozen 5
      go_upto_region 9 with (fail)
      by_cases hb : bN = 0
      · have eb : (bN == 0) = true := by simp [hb]
        have HB := Lib.hid hb
        clear hb
        go_upto_region 11 with (fail)
        obtain ⟨wB, hwn⟩ : ∃ wB, wB = wF.setCell ⟨w4.heap.size, 3, none⟩ (.int .i64 (bL + aT)) := ⟨_, rfl⟩
        have HKB := Lib.hid (show Blk wB (w4.heap.size) 38 #[.int .i64 (aL + bL), .int .i64 sN, .int .i64 aH, .int .i64 (bL + aT), .int .u64 jv, .int .u64 js] by rw [hwn]; exact HKF.out.set_ 3 (.int .i64 (bL + aT)))
        have HK0B := Lib.hid (HK0F.out.far (p := ⟨w4.heap.size, 3, none⟩) (show w.heap.size ≠ w4.heap.size by omega) (.int .i64 (bL + aT)))
        rw [← hwn] at HK0B
        have HK1B := Lib.hid (HK1F.out.far (p := ⟨w4.heap.size, 3, none⟩) (show w.heap.size + 1 ≠ w4.heap.size by omega) (.int .i64 (bL + aT)))
        rw [← hwn] at HK1B
        have HK2B := Lib.hid (HK2F.out.far (p := ⟨w4.heap.size, 3, none⟩) (show w.heap.size + 1 + 1 ≠ w4.heap.size by omega) (.int .i64 (bL + aT)))
        rw [← hwn] at HK2B
        have HQB := Lib.hid (HQF.out.setCell (p := ⟨w4.heap.size, 3, none⟩) (show w.heap.size ≤ w4.heap.size by omega) (.int .i64 (bL + aT)))
        rw [← hwn] at HQB ⊢
        clear hwn x0 x1 x2 x3 x4 x5 y0 y1 y2 y3 y4 y5 u0 u1 u2 u3 u4 u5 v0 v1 v2 v3 v4 v5
        have x0 := HK0B.out.cell 0
        have x1 := HK0B.out.cell 1
        have x2 := HK0B.out.cell 2
        have x3 := HK0B.out.cell 3
        have x4 := HK0B.out.cell 4
        have x5 := HK0B.out.cell 5
        simp only [List.getElem?_toArray, List.getElem?_cons_zero, List.getElem?_cons_succ] at x0 x1 x2 x3 x4 x5
        have y0 := HK1B.out.cell 0
        have y1 := HK1B.out.cell 1
        have y2 := HK1B.out.cell 2
        have y3 := HK1B.out.cell 3
        have y4 := HK1B.out.cell 4
        have y5 := HK1B.out.cell 5
        simp only [List.getElem?_toArray, List.getElem?_cons_zero, List.getElem?_cons_succ] at y0 y1 y2 y3 y4 y5
        have u0 := HKB.out.cell 0
        have u1 := HKB.out.cell 1
        have u2 := HKB.out.cell 2
        have u3 := HKB.out.cell 3
        have u4 := HKB.out.cell 4
        have u5 := HKB.out.cell 5
        simp only [List.getElem?_toArray, List.getElem?_cons_zero, List.getElem?_cons_succ] at u0 u1 u2 u3 u4 u5
        have v0 := HKB.out.frozen 0
        have v1 := HKB.out.frozen 1
        have v2 := HKB.out.frozen 2
        have v3 := HKB.out.frozen 3
        have v4 := HKB.out.frozen 4
        have v5 := HKB.out.frozen 5
        have r0 := HK2B.out.cell 0
        have r1 := HK2B.out.cell 1
        have r2 := HK2B.out.cell 2
        have r3 := HK2B.out.cell 3
        have r4 := HK2B.out.cell 4
        have r5 := HK2B.out.cell 5
        simp only [List.getElem?_toArray, List.getElem?_cons_zero, List.getElem?_cons_succ] at r0 r1 r2 r3 r4 r5
        have s0 := HK2B.out.frozen 0
        have s1 := HK2B.out.frozen 1
        have s2 := HK2B.out.frozen 2
        have s3 := HK2B.out.frozen 3
        have s4 := HK2B.out.frozen 4
        have s5 := HK2B.out.frozen 5
        go_wp2_with fail
        obtain ⟨wE, hwE⟩ : ∃ wE, wE = (setL wB (w.heap.size + 1 + 1) 0 [.int .i64 (aL + bL), .int .i64 sN, .int .i64 aH, .int .i64 (bL + aT), .int .u64 jv, .int .u64 js]) := ⟨_, rfl⟩
        have kwE : Blk wE (w.heap.size + 1 + 1) 38 #[.int .i64 (aL + bL), .int .i64 sN, .int .i64 aH, .int .i64 (bL + aT), .int .u64 jv, .int .u64 js] := by rw [hwE]; exact setL_all HK2B.out _ rfl
        have bwE : Below w.heap.size w wE := by rw [hwE]; exact (setL_below HQB.out (by omega) 0 _)
        simp only [setL, Nat.zero_add, Nat.reduceAdd] at hwE
        rw [← hwE]
        clear hwE
        have f0 := kwE.cell 0
        have f1 := kwE.cell 1
        have f2 := kwE.cell 2
        have f3 := kwE.cell 3
        have f4 := kwE.cell 4
        have f5 := kwE.cell 5
        simp only [List.getElem?_toArray, List.getElem?_cons_zero, List.getElem?_cons_succ] at f0 f1 f2 f3 f4 f5
        refine bodyPost_ret (v := .tuple #[.agg #[.int .i64 (aL + bL), .int .i64 sN, .int .i64 aH, .int .i64 (bL + aT), .int .u64 jv, .int .u64 js], .nilIface]) (by simp [results, Try.results89, go_sem, f0, f1, f2, f3, f4, f5]) rfl ?_
        exact ⟨by first | rw [if_neg HA.out, if_pos HB.out] | rw [if_neg HA.out] | rw [if_pos HB.out] | rfl, bwE⟩
      · have eb : (bN == 0) = false := by simp [hb]
        have HB := Lib.hid hb
        clear hb
        go_upto_region 11 with (fail)
        have r0 := HK2F.out.cell 0
        have r1 := HK2F.out.cell 1
        have r2 := HK2F.out.cell 2
        have r3 := HK2F.out.cell 3
        have r4 := HK2F.out.cell 4
        have r5 := HK2F.out.cell 5
        simp only [List.getElem?_toArray, List.getElem?_cons_zero, List.getElem?_cons_succ] at r0 r1 r2 r3 r4 r5
        have s0 := HK2F.out.frozen 0
        have s1 := HK2F.out.frozen 1
        have s2 := HK2F.out.frozen 2
        have s3 := HK2F.out.frozen 3
        have s4 := HK2F.out.frozen 4
        have s5 := HK2F.out.frozen 5
        go_wp2_with fail
        obtain ⟨wE, hwE⟩ : ∃ wE, wE = (setL wF (w.heap.size + 1 + 1) 0 [.int .i64 (aL + bL), .int .i64 sN, .int .i64 aH, .int .i64 bT, .int .u64 jv, .int .u64 js]) := ⟨_, rfl⟩
        have kwE : Blk wE (w.heap.size + 1 + 1) 38 #[.int .i64 (aL + bL), .int .i64 sN, .int .i64 aH, .int .i64 bT, .int .u64 jv, .int .u64 js] := by rw [hwE]; exact setL_all HK2F.out _ rfl
        have bwE : Below w.heap.size w wE := by rw [hwE]; exact (setL_below HQF.out (by omega) 0 _)
        simp only [setL, Nat.zero_add, Nat.reduceAdd] at hwE
        rw [← hwE]
        clear hwE
        have f0 := kwE.cell 0
        have f1 := kwE.cell 1
        have f2 := kwE.cell 2
        have f3 := kwE.cell 3
        have f4 := kwE.cell 4
        have f5 := kwE.cell 5
        simp only [List.getElem?_toArray, List.getElem?_cons_zero, List.getElem?_cons_succ] at f0 f1 f2 f3 f4 f5
        refine bodyPost_ret (v := .tuple #[.agg #[.int .i64 (aL + bL), .int .i64 sN, .int .i64 aH, .int .i64 bT, .int .u64 jv, .int .u64 js], .nilIface]) (by simp [results, Try.results89, go_sem, f0, f1, f2, f3, f4, f5]) rfl ?_
        exact ⟨by first | rw [if_neg HA.out, if_neg HB.out] | rw [if_neg HA.out] | rw [if_neg HB.out] | rfl, bwE⟩
end Go.Proofs.Ytphpfkhpihlalaa
