/- The law: Parse answers the tree, or the error, that the document specifies for every string. Condition: the string's length is that of a machine's string. (Printed by gen_lreg.py.) -/
import Derived.Test.YtpiagfmjekcncaaDoorjGv
import Derived.Test.YtpiagfmjekcncaaDoorjGw
import Derived.Test.YtpiagfmjekcncaaDoorjBase
set_option linter.unusedVariables false
set_option linter.unusedSimpArgs false
set_option linter.unusedSectionVars false
namespace Go.Proofs.YtpiagfmjekcncaaDoor
open Go.RowKit
theorem parseE_num (T : List UInt8) : parseE T = errV (gparseN T) := by
  unfold parseE gparseN
  cases bigT T with
  | true => rfl
  | false =>
    rw [if_neg (by decide), if_neg (by decide)]
    cases parseP T with
    | none => rfl
    | some r =>
      dsimp only
      cases r.fits <;> rfl
theorem parseR_fits {T : List UInt8} {r : Rx} (h : parseR T = some r) : r.fits = true := by
  unfold parseR at h
  split at h
  · cases h
  split at h
  · cases h
  split at h
  · rename_i hf; injection h with h; subst h; exact hf
  · cases h
theorem fits_size {r : Rx} (h : r.fits = true) : r.size ≤ 256 := by
  unfold Rx.fits at h
  simp only [Bool.and_eq_true, decide_eq_true_eq] at h
  exact h.1.1.1
theorem treeOr_rxv {w w' : World} {T : List UInt8} {cs : List Value} (h : TreeOr w w' (parseR T) cs) : RxV w' (rng w.heap.size w'.heap.size) ((parseR T).getD Gr.zeroR) cs ∧ ((parseR T).getD Gr.zeroR).size ≤ 256 := by
  cases hp : parseR T with
  | none =>
    rw [hp] at h
    have h : cs = zeroC := h
    subst h
    refine ⟨?_, by decide⟩
    show RxV w' _ Gr.zeroR zeroC
    unfold Gr.zeroR RxV RxVs
    exact ⟨none, 0, [], rfl, ⟨rfl, fun h => absurd h (by decide)⟩, rfl⟩
  | some r =>
    rw [hp] at h
    exact ⟨h.1, fits_size (parseR_fits hp)⟩
theorem aliveR : parseR [97, 63] = some (.node 5 0 0 0 0 0 1 [Rx.one 97]) := by kernel_rfl
theorem aliveE : parseE [97, 63] = .nilIface := by kernel_rfl
theorem alive30_any (w : World) : Calls Tryd.prog 7 #[] w fun e w' => e = .returned (.bool true) ∧ Below w.heap.size w w' := by
  have HP := Lib.hid (parse_any [97, 63] w (by decide))
  go_enter Tryd.func7, Tryd.ntmps7
  go_wp2_with fail
  refine HP.out.mono ?_
  rintro e w1 ⟨⟨cs, rfl, ht⟩, hb⟩
  rw [aliveR] at ht
  rw [aliveE]
  obtain ⟨ht, -⟩ := ht
  unfold RxV at ht
  obtain ⟨A, c, css, rfl, -, -⟩ := ht
  have HB := Lib.hid hb
  have hsz := hb.size
  clear hb
  have hl : (([Rx.one 97].length : Nat) : Int) = 1 := rfl
  go_wp2_with fail
  go_ret
  exact ⟨rfl, HB.out.alloc hsz _⟩
set_option maxRecDepth 100000 in
set_option maxHeartbeats 8000000 in
theorem regexParses_law (T : List UInt8) (w : World) (hT : T.length ≤ 9223372036854775807) (hN : NoneAt w) : Calls Tryd.prog 3 #[.string ⟨T.toArray⟩] w (AwEnd w) := by
  have hsz : (ByteArray.mk T.toArray).size = T.length := by simp [ByteArray.size]
  by_cases hl : 2000 < T.length
  · have t1 : decide (2000 < (T.length : Int)) = true := decide_eq_true (by omega)
    clear hN
    go_enter Tryd.func3, Tryd.ntmps3
    go_wp2_with fail
    go_ret
    exact ⟨rfl, Below.refl _ _⟩
  · have t1 : decide (2000 < (T.length : Int)) = false := decide_eq_false (by omega)
    have HNN := Lib.hid hN
    have hnl := hN.1
    have HP := Lib.hid (parse_any T w hT)
    clear hN
    go_enter Tryd.func3, Tryd.ntmps3
    go_wp2_with fail
    refine HP.out.mono ?_
    rintro e w1 ⟨⟨cs, rfl, ht⟩, hb⟩
    obtain ⟨ht, hrs⟩ := treeOr_rxv ht
    rw [parseE_num]
    obtain ⟨t, htt⟩ : ∃ t, t = (parseR T).getD Gr.zeroR := ⟨_, rfl⟩
    obtain ⟨num, hnum⟩ : ∃ num, num = gparseN T := ⟨_, rfl⟩
    rw [← htt] at ht hrs
    rw [← hnum]
    obtain ⟨kdx, aax, abx, acx, adx, lox, hix, Ax, nx, cx, rfl⟩ := ht.eight
    have HB1 := Lib.hid (hb.alloc hb.size (.cells #[.int .i64 kdx, .int .u64 aax, .int .u64 abx, .int .u64 acx, .int .u64 adx, .int .i64 lox, .int .i64 hix, .slice Ax nx cx] 27))
    have HR1 := Lib.hid (show R8 (w1.alloc (.cells #[.int .i64 kdx, .int .u64 aax, .int .u64 abx, .int .u64 acx, .int .u64 adx, .int .i64 lox, .int .i64 hix, .slice Ax nx cx] 27)) w1.heap.size (.int .i64 kdx) (.int .u64 aax) (.int .u64 abx) (.int .u64 acx) (.int .u64 adx) (.int .i64 lox) (.int .i64 hix) (.slice Ax nx cx) from Blk.new w1 _ _)
    have HV1 := Lib.hid (ht.kept (G := rng w.heap.size w1.heap.size) ((Kept.refl (fun _ => False) w1).alloc (.cells #[.int .i64 kdx, .int .u64 aax, .int .u64 abx, .int .u64 acx, .int .u64 adx, .int .i64 lox, .int .i64 hix, .slice Ax nx cx] 27)) (fun _ _ _ => id) (fun i hh _ => hh))
    obtain ⟨w2, hw2⟩ : ∃ w2, w2 = w1.alloc (.cells #[.int .i64 kdx, .int .u64 aax, .int .u64 abx, .int .u64 acx, .int .u64 adx, .int .i64 lox, .int .i64 hix, .slice Ax nx cx] 27) := ⟨_, rfl⟩
    rw [← hw2] at HB1 HR1 HV1
    have HW2 := Lib.hid hw2
    obtain ⟨B, hB⟩ : ∃ B, B = w1.heap.size := ⟨_, rfl⟩
    rw [← hB] at HR1
    have HBQ := Lib.hid hB
    have HG := Lib.hid (gparse_any T w2 (by omega) (HNN.out.below HB1.out hnl))
    have HTT := Lib.hid htt
    have HNM := Lib.hid hnum
    clear ht hb hw2 hB htt hnum HP
    go_upto_block 0 with (fail)
    rw [← HW2.out, ← HBQ.out]
    clear HW2 HBQ
    go_wp2_with fail
    refine HG.out.mono ?_
    rintro e w3 ⟨⟨cs, rfl, ht⟩, hb⟩
    obtain ⟨ht, -⟩ := treeOr_rxv ht
    rw [← HTT.out] at ht
    rw [← HNM.out]
    obtain ⟨kdy, aay, aby, acy, ady, loy, hiy, Ay, ny, cy, rfl⟩ := ht.eight
    have HB3 := Lib.hid ((HB1.out.trans (hb.mono HB1.out.size)).alloc (Nat.le_trans HB1.out.size hb.size) (.cells #[.int .i64 kdy, .int .u64 aay, .int .u64 aby, .int .u64 acy, .int .u64 ady, .int .i64 loy, .int .i64 hiy, .slice Ay ny cy] 27))
    have HE3 := Lib.hid ((HR1.out.below hb HR1.out.lt).alloc (.cells #[.int .i64 kdy, .int .u64 aay, .int .u64 aby, .int .u64 acy, .int .u64 ady, .int .i64 loy, .int .i64 hiy, .slice Ay ny cy] 27))
    have HR3 := Lib.hid (show R8 (w3.alloc (.cells #[.int .i64 kdy, .int .u64 aay, .int .u64 aby, .int .u64 acy, .int .u64 ady, .int .i64 loy, .int .i64 hiy, .slice Ay ny cy] 27)) w3.heap.size (.int .i64 kdy) (.int .u64 aay) (.int .u64 aby) (.int .u64 acy) (.int .u64 ady) (.int .i64 loy) (.int .i64 hiy) (.slice Ay ny cy) from Blk.new w3 _ _)
    have HV3 := Lib.hid (ht.kept (G := rng w2.heap.size w3.heap.size) ((Kept.refl (fun _ => False) w3).alloc (.cells #[.int .i64 kdy, .int .u64 aay, .int .u64 aby, .int .u64 acy, .int .u64 ady, .int .i64 loy, .int .i64 hiy, .slice Ay ny cy] 27)) (fun _ _ _ => id) (fun i hh _ => hh))
    have HU3 := Lib.hid ((HV1.out.below hb).kept (G := rng w.heap.size w1.heap.size) ((Kept.refl (fun _ => False) w3).alloc (.cells #[.int .i64 kdy, .int .u64 aay, .int .u64 aby, .int .u64 acy, .int .u64 ady, .int .i64 loy, .int .i64 hiy, .slice Ay ny cy] 27)) (fun _ _ _ => id) (fun i hh _ => hh))
    obtain ⟨w4, hw4⟩ : ∃ w4, w4 = w3.alloc (.cells #[.int .i64 kdy, .int .u64 aay, .int .u64 aby, .int .u64 acy, .int .u64 ady, .int .i64 loy, .int .i64 hiy, .slice Ay ny cy] 27) := ⟨_, rfl⟩
    rw [← hw4] at HB3 HE3 HR3 HV3 HU3
    have HW4 := Lib.hid hw4
    obtain ⟨C, hC⟩ : ∃ C, C = w3.heap.size := ⟨_, rfl⟩
    rw [← hC] at HR3
    have HCQ := Lib.hid hC
    have HA := Lib.hid (alive30_any w4)
    clear ht hb hw4 hC HG HB1 HR1 HV1
    go_upto_block 0 with (fail)
    rw [← HW4.out, ← HCQ.out]
    clear HW4 HCQ
    go_wp2_with fail
    refine HA.out.mono ?_
    rintro e w5 ⟨rfl, hb⟩
    have HB5 := Lib.hid (HB3.out.trans (hb.mono HB3.out.size))
    have HE5 := Lib.hid (HE3.out.below hb HE3.out.lt)
    have HR5 := Lib.hid (HR3.out.below hb HR3.out.lt)
    have HV5 := Lib.hid (HV3.out.below hb)
    have HU5 := Lib.hid (HU3.out.below hb)
    have HEQ := Lib.hid (gequal_any t.size t (Nat.le_refl _) _ _ w5 _ _ HU5.out HV5.out (by omega))
    clear hb HA HB3 HE3 HR3 HV3 HU3
    obtain ⟨⟨⟨c0, c1⟩, c2, c3⟩, ⟨c4, c5⟩, c6, c7⟩ := HE5.out.cells
    obtain ⟨⟨⟨d0, d1⟩, d2, d3⟩, ⟨d4, d5⟩, d6, d7⟩ := HR5.out.cells
    have e1 : (num == num) = true := beq_self_eq_true _
    go_wp2_with fail
    refine (num_errV _ _).mono ?_
    rintro e w6 ⟨rfl, rfl⟩
    go_wp2_with fail
    refine HEQ.out.mono ?_
    rintro e w6 ⟨rfl, hb⟩
    have HB6 := Lib.hid (HB5.out.trans (hb.mono HB5.out.size))
    go_wp2_with fail
    go_ret
    exact ⟨rfl, HB6.out⟩
theorem regexParses_str (s : ByteArray) (w : World) (h : s.size ≤ 9223372036854775807) (hN : NoneAt w) : Calls Tryd.prog 3 #[.string s] w (AwEnd w) := by
  have e : s = ⟨s.data.toList.toArray⟩ := by cases s; simp
  have hl : s.data.toList.length ≤ 9223372036854775807 := by rw [Array.length_toList]; exact h
  rw [e]
  exact regexParses_law s.data.toList w hl hN
end Go.Proofs.YtpiagfmjekcncaaDoor
