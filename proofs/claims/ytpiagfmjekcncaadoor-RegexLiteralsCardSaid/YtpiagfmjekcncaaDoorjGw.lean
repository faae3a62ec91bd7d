/- The walk of the document's Parse (printed by gen_gw.py). -/
import Derived.Test.YtpiagfmjekcncaaDoorjGr
import Derived.Test.YtpiagfmjekcncaaDoorjGa
import Derived.Test.YtpiagfmjekcncaaDoorjGu
import Derived.Test.YtpiagfmjekcncaaDoorjParse
set_option linter.unusedVariables false
set_option linter.unusedSimpArgs false
set_option linter.unusedSectionVars false
namespace Go.Proofs.YtpiagfmjekcncaaDoor
open Go.RowKit
/-- The number of the error that the document's Parse answers. -/
def gparseN (T : List UInt8) : Int := if bigT T then 9 else match parseP T with
  | none => 4
  | some r => if r.fits then 0 else 9
def GPEnd (T : List UInt8) (w : World) (e : Ending) (w' : World) : Prop :=
  (∃ cs, e = .returned (.tuple #[.agg cs.toArray, .int .i64 (gparseN T)]) ∧ TreeOr w w' (parseR T) cs) ∧ Below w.heap.size w w'
theorem count_step {T : List UInt8} {k : Nat} {b c : UInt8} (h : T[k]? = some b) : Lib.countByte (T.take (k + 1)) c = Lib.countByte (T.take k) c + if b = c then 1 else 0 := by
  unfold Lib.countByte
  rw [List.take_add_one, h, List.count_append]
  simp [List.count_cons]
set_option maxRecDepth 100000 in
set_option maxHeartbeats 8000000 in
theorem gparse_big (T : List UInt8) (w : World) (hT : T.length ≤ 4611686018427387904) (hb : bigT T = true) : Calls Tryd.prog 6 #[.string ⟨T.toArray⟩] w (GPEnd T w) := by
  have HPN := Lib.hid (show gparseN T = 9 by unfold gparseN; exact if_pos hb)
  have HPR := Lib.hid (show parseR T = none by unfold parseR; exact if_pos hb)
  have hsz : (ByteArray.mk T.toArray).size = T.length := by simp [ByteArray.size]
  have HR1 := Lib.hid (R8.mk0 w w.heap.size rfl)
  have HB1 := Lib.hid ((Below.refl w.heap.size w).alloc (Nat.le_refl _) (.cells #[.int .i64 0, .int .u64 0, .int .u64 0, .int .u64 0, .int .u64 0, .int .i64 0, .int .i64 0, .slice none 0 0] 27))
  obtain ⟨w1, hw1⟩ : ∃ w1, w1 = w.alloc (.cells #[.int .i64 0, .int .u64 0, .int .u64 0, .int .u64 0, .int .u64 0, .int .i64 0, .int .i64 0, .slice none 0 0] 27) := ⟨_, rfl⟩
  rw [← hw1] at HR1 HB1
  have hw1s : w1.heap.size = w.heap.size + 1 := by rw [hw1]; simp
  have HW1 := Lib.hid hw1
  obtain ⟨cnt, hcn⟩ : ∃ cnt, cnt = Lib.countByte T 40 := ⟨_, rfl⟩
  have hcl : cnt ≤ T.length := by rw [hcn]; exact List.count_le_length
  have HCN := Lib.hid hcn
  clear hw1
  unfold bigT at hb
  rw [← hcn] at hb
  clear hcn
  go_enter Tryd.func6, Tryd.ntmps6
  go_upto_region 2 with (fail)
  rw [← HW1.out]
  clear HW1
  go_upto_block 0 with (fail)
  go_cut [4] (fun m wc => m = .int .i64 cnt ∧ w1 = wc)
  case first =>
    go_wp2_with fail
    go_loopg [4, 5] (T.length + 1) (fun f m i wr => ∃ k : Nat, k ≤ T.length ∧ T.length < k + f ∧ i = .int .i64 k ∧ m = .int .i64 (Lib.countByte (T.take k) 40) ∧ w1 = wr)
    case atStart => exact ⟨0, Nat.zero_le _, by omega, rfl, by rw [List.take_zero]; rfl, rfl⟩
    case round =>
      obtain ⟨k, hk, hkf, rfl, rfl, rfl⟩ := hrel
      obtain ⟨f, rfl⟩ : ∃ f, gk = f + 1 := ⟨gk - 1, by omega⟩
      by_cases hlt : k < T.length
      · obtain ⟨b, hb⟩ : ∃ b, T[k]? = some b := ⟨_, List.getElem?_eq_getElem hlt⟩
        have hix := idxT (P := Tryd.prog) Tryd.underlying9 hb
        have hcs := count_step (c := 40) hb
        obtain ⟨p, hp⟩ : ∃ p, p = Lib.countByte (T.take k) 40 := ⟨_, rfl⟩
        obtain ⟨q, hq⟩ : ∃ q, q = Lib.countByte (T.take (k + 1)) 40 := ⟨_, rfl⟩
        rw [← hp, ← hq] at hcs
        rw [← hp]
        have hpl : p ≤ T.length := by rw [hp]; exact Nat.le_trans List.count_le_length (by simp; omega)
        have HQ := Lib.hid hq
        clear hp hq hb
        obtain ⟨uc0, uc1⟩ := u8b b
        by_cases h40 : b = 40
        · have s40 : ((b.toNat : Int) == 40) = true := by rw [h40]; rfl
          rw [if_pos h40] at hcs
          go_wp2_with fail
          go_roundg f
          case measure => omega
          case rel => exact ⟨k + 1, hlt, by omega, rfl, by rw [← HQ.out, hcs]; rfl, rfl⟩
        · have s40 : ((b.toNat : Int) == 40) = false := glit (c := 40) h40
          rw [if_neg h40] at hcs
          go_wp2_with fail
          go_roundg f
          case measure => omega
          case rel => exact ⟨k + 1, hlt, by omega, rfl, by rw [← HQ.out, hcs]; rfl, rfl⟩
      · obtain rfl : k = T.length := by omega
        go_wp2_with fail
        go_meet
        case rel => exact ⟨by rw [List.take_length, ← HCN.out], rfl⟩
  case rest =>
    obtain ⟨rfl, rfl⟩ := hcut
    clear HCN
    by_cases h1 : 262144 < T.length
    · clear hb
      have t1 : decide (262144 < (T.length : Int)) = true := decide_eq_true (by omega)
      obtain ⟨⟨⟨c0, c1⟩, c2, c3⟩, ⟨c4, c5⟩, c6, c7⟩ := HR1.out.cells
      obtain ⟨⟨⟨z0, z1⟩, z2, z3⟩, ⟨z4, z5⟩, z6, z7⟩ := HR1.out.free
      have HF9 := Lib.hid (HR1.out.all (.int .i64 0) (.int .u64 0) (.int .u64 0) (.int .u64 0) (.int .u64 0) (.int .i64 0) (.int .i64 0) (.slice none 0 0))
      have HB9 := Lib.hid (below_set8 HB1.out (Nat.le_refl w.heap.size) (.int .i64 0) (.int .u64 0) (.int .u64 0) (.int .u64 0) (.int .u64 0) (.int .i64 0) (.int .i64 0) (.slice none 0 0))
      go_wp2_with fail
      obtain ⟨⟨⟨d0, d1⟩, d2, d3⟩, ⟨d4, d5⟩, d6, d7⟩ := HF9.out.cells
      unfold set8 at d0 d1 d2 d3 d4 d5 d6 d7
      refine bodyPost_ret (v := .tuple #[.agg #[.int .i64 0, .int .u64 0, .int .u64 0, .int .u64 0, .int .u64 0, .int .i64 0, .int .i64 0, .slice none 0 0], .int .i64 9]) (by simp [results, Tryd.results6, go_sem, d0, d1, d2, d3, d4, d5, d6, d7]) rfl ?_
      exact ⟨⟨zeroC, by rw [HPN.out]; rfl, by rw [HPR.out]; rfl⟩, HB9.out⟩
    · rw [decide_eq_false h1, Bool.false_or] at hb
      have h2 := of_decide_eq_true hb
      clear hb
      have t1 : decide (262144 < (T.length : Int)) = false := decide_eq_false (by omega)
      have t2 : decide (1024 < (cnt : Int)) = true := decide_eq_true (by omega)
      obtain ⟨⟨⟨c0, c1⟩, c2, c3⟩, ⟨c4, c5⟩, c6, c7⟩ := HR1.out.cells
      obtain ⟨⟨⟨z0, z1⟩, z2, z3⟩, ⟨z4, z5⟩, z6, z7⟩ := HR1.out.free
      have HF9 := Lib.hid (HR1.out.all (.int .i64 0) (.int .u64 0) (.int .u64 0) (.int .u64 0) (.int .u64 0) (.int .i64 0) (.int .i64 0) (.slice none 0 0))
      have HB9 := Lib.hid (below_set8 HB1.out (Nat.le_refl w.heap.size) (.int .i64 0) (.int .u64 0) (.int .u64 0) (.int .u64 0) (.int .u64 0) (.int .i64 0) (.int .i64 0) (.slice none 0 0))
      go_wp2_with fail
      obtain ⟨⟨⟨d0, d1⟩, d2, d3⟩, ⟨d4, d5⟩, d6, d7⟩ := HF9.out.cells
      unfold set8 at d0 d1 d2 d3 d4 d5 d6 d7
      refine bodyPost_ret (v := .tuple #[.agg #[.int .i64 0, .int .u64 0, .int .u64 0, .int .u64 0, .int .u64 0, .int .i64 0, .int .i64 0, .slice none 0 0], .int .i64 9]) (by simp [results, Tryd.results6, go_sem, d0, d1, d2, d3, d4, d5, d6, d7]) rfl ?_
      exact ⟨⟨zeroC, by rw [HPN.out]; rfl, by rw [HPR.out]; rfl⟩, HB9.out⟩
set_option maxRecDepth 100000 in
set_option maxHeartbeats 8000000 in
theorem gparse_small (T : List UInt8) (w : World) (hN : NoneAt w) (hb : bigT T = false) : Calls Tryd.prog 6 #[.string ⟨T.toArray⟩] w (GPEnd T w) := by
  have hsz : (ByteArray.mk T.toArray).size = T.length := by simp [ByteArray.size]
  have HR1 := Lib.hid (R8.mk0 w w.heap.size rfl)
  have HB1 := Lib.hid ((Below.refl w.heap.size w).alloc (Nat.le_refl _) (.cells #[.int .i64 0, .int .u64 0, .int .u64 0, .int .u64 0, .int .u64 0, .int .i64 0, .int .i64 0, .slice none 0 0] 27))
  obtain ⟨w1, hw1⟩ : ∃ w1, w1 = w.alloc (.cells #[.int .i64 0, .int .u64 0, .int .u64 0, .int .u64 0, .int .u64 0, .int .i64 0, .int .i64 0, .slice none 0 0] 27) := ⟨_, rfl⟩
  rw [← hw1] at HR1 HB1
  have hw1s : w1.heap.size = w.heap.size + 1 := by rw [hw1]; simp
  have HW1 := Lib.hid hw1
  obtain ⟨cnt, hcn⟩ : ∃ cnt, cnt = Lib.countByte T 40 := ⟨_, rfl⟩
  have hcl : cnt ≤ T.length := by rw [hcn]; exact List.count_le_length
  have HCN := Lib.hid hcn
  clear hw1
  have hbT := hb
  unfold bigT at hb
  rw [Bool.or_eq_false_iff, ← hcn] at hb
  have h1 := of_decide_eq_false hb.1
  have h2 := of_decide_eq_false hb.2
  have t1 : decide (262144 < (T.length : Int)) = false := decide_eq_false (by omega)
  have t2 : decide (1024 < (cnt : Int)) = false := decide_eq_false (by omega)
  clear hb hcn
  have HNN := Lib.hid hN
  have hnl := hN.1
  clear hN
  obtain ⟨r, k, b, hr⟩ : ∃ r k b, Gr.exN T (T.length + 1) 0 = (r, k, b) := ⟨_, _, _, rfl⟩
  have hxe := gr_exN_eq (T := T) (T.length + 1) 0 (Nat.zero_le _)
  have hle := gr_exN_le (T := T) (T.length + 1) 0 (Nat.zero_le _)
  rw [hr] at hxe hle
  dsimp only at hle
  obtain ⟨-, hkl, -⟩ := hle
  have HS2 := Lib.hid (show GS T (w1.alloc (.cells #[.string ⟨T.toArray⟩, .int .i64 0, .bool false] 58)) (w.heap.size + 1) 0 false by
    have := Blk.new w1 58 #[.string ⟨T.toArray⟩, .int .i64 0, .bool false]
    rw [hw1s] at this
    exact this)
  have HR2 := Lib.hid (HR1.out.alloc (.cells #[.string ⟨T.toArray⟩, .int .i64 0, .bool false] 58))
  have HB2 := Lib.hid (HB1.out.alloc (by omega) (.cells #[.string ⟨T.toArray⟩, .int .i64 0, .bool false] 58))
  obtain ⟨w2, hw2⟩ : ∃ w2, w2 = w1.alloc (.cells #[.string ⟨T.toArray⟩, .int .i64 0, .bool false] 58) := ⟨_, rfl⟩
  rw [← hw2] at HS2 HR2 HB2
  have hw2s : w2.heap.size = w.heap.size + 2 := by rw [hw2]; simp; omega
  have HW2 := Lib.hid hw2
  have HX := Lib.hid (gexpr_any (by omega) (T.length + 1) 0 w2 HS2.out (Nat.zero_le _) (by omega) (by omega))
  rw [hr] at HX
  have HXE := Lib.hid hxe
  have HBT := Lib.hid hbT
  clear hw2 hr hxe hbT
  go_enter Tryd.func6, Tryd.ntmps6
  go_upto_region 2 with (fail)
  rw [← HW1.out]
  clear HW1
  go_upto_block 0 with (fail)
  go_cut [4] (fun m wc => m = .int .i64 cnt ∧ w1 = wc)
  case first =>
    go_wp2_with fail
    go_loopg [4, 5] (T.length + 1) (fun f m i wr => ∃ k : Nat, k ≤ T.length ∧ T.length < k + f ∧ i = .int .i64 k ∧ m = .int .i64 (Lib.countByte (T.take k) 40) ∧ w1 = wr)
    case atStart => exact ⟨0, Nat.zero_le _, by omega, rfl, by rw [List.take_zero]; rfl, rfl⟩
    case round =>
      obtain ⟨k, hk, hkf, rfl, rfl, rfl⟩ := hrel
      obtain ⟨f, rfl⟩ : ∃ f, gk = f + 1 := ⟨gk - 1, by omega⟩
      by_cases hlt : k < T.length
      · obtain ⟨b, hb⟩ : ∃ b, T[k]? = some b := ⟨_, List.getElem?_eq_getElem hlt⟩
        have hix := idxT (P := Tryd.prog) Tryd.underlying9 hb
        have hcs := count_step (c := 40) hb
        obtain ⟨p, hp⟩ : ∃ p, p = Lib.countByte (T.take k) 40 := ⟨_, rfl⟩
        obtain ⟨q, hq⟩ : ∃ q, q = Lib.countByte (T.take (k + 1)) 40 := ⟨_, rfl⟩
        rw [← hp, ← hq] at hcs
        rw [← hp]
        have hpl : p ≤ T.length := by rw [hp]; exact Nat.le_trans List.count_le_length (by simp; omega)
        have HQ := Lib.hid hq
        clear hp hq hb
        obtain ⟨uc0, uc1⟩ := u8b b
        by_cases h40 : b = 40
        · have s40 : ((b.toNat : Int) == 40) = true := by rw [h40]; rfl
          rw [if_pos h40] at hcs
          go_wp2_with fail
          go_roundg f
          case measure => omega
          case rel => exact ⟨k + 1, hlt, by omega, rfl, by rw [← HQ.out, hcs]; rfl, rfl⟩
        · have s40 : ((b.toNat : Int) == 40) = false := glit (c := 40) h40
          rw [if_neg h40] at hcs
          go_wp2_with fail
          go_roundg f
          case measure => omega
          case rel => exact ⟨k + 1, hlt, by omega, rfl, by rw [← HQ.out, hcs]; rfl, rfl⟩
      · obtain rfl : k = T.length := by omega
        go_wp2_with fail
        go_meet
        case rel => exact ⟨by rw [List.take_length, ← HCN.out], rfl⟩
  case rest =>
    obtain ⟨rfl, rfl⟩ := hcut
    clear HCN HR1 HB1
    go_upto_region 10 with (fail)
    rw [← HW2.out]
    clear HW2
    go_wp2_with fail
    refine HX.out.mono ?_
    rintro ee w3 ⟨cs, rfl, hv, hs3, hk3⟩
    dsimp only at hv hs3
    obtain ⟨kd, a0, a1, a2, a3, lo, hi, A, n, c, rfl⟩ := hv.eight
    have hw3s : w2.heap.size ≤ w3.heap.size := hk3.size
    have HR3 := Lib.hid ((HR2.out.kept hk3 (fun e => by have e' : w.heap.size = w.heap.size + 1 := e; omega)).alloc (.cells #[.int .i64 kd, .int .u64 a0, .int .u64 a1, .int .u64 a2, .int .u64 a3, .int .i64 lo, .int .i64 hi, .slice A n c] 27))
    have HB3 := Lib.hid ((hk3.below HB2.out (by omega) (fun i e => by have e' : i = w.heap.size + 1 := e; omega)).alloc (by omega) (.cells #[.int .i64 kd, .int .u64 a0, .int .u64 a1, .int .u64 a2, .int .u64 a3, .int .i64 lo, .int .i64 hi, .slice A n c] 27))
    have HG3 := Lib.hid (hs3.alloc (.cells #[.int .i64 kd, .int .u64 a0, .int .u64 a1, .int .u64 a2, .int .u64 a3, .int .i64 lo, .int .i64 hi, .slice A n c] 27))
    have HT3 := Lib.hid (show R8 (w3.alloc (.cells #[.int .i64 kd, .int .u64 a0, .int .u64 a1, .int .u64 a2, .int .u64 a3, .int .i64 lo, .int .i64 hi, .slice A n c] 27)) w3.heap.size (.int .i64 kd) (.int .u64 a0) (.int .u64 a1) (.int .u64 a2) (.int .u64 a3) (.int .i64 lo) (.int .i64 hi) (.slice A n c) from Blk.new w3 _ _)
    have hv4 : RxV (w3.alloc (.cells #[.int .i64 kd, .int .u64 a0, .int .u64 a1, .int .u64 a2, .int .u64 a3, .int .i64 lo, .int .i64 hi, .slice A n c] 27)) (fun i => w2.heap.size ≤ i ∧ i < w3.heap.size) r [.int .i64 kd, .int .u64 a0, .int .u64 a1, .int .u64 a2, .int .u64 a3, .int .i64 lo, .int .i64 hi, .slice A n c] := hv.kept ((Kept.refl (fun _ => False) w3).alloc (.cells #[.int .i64 kd, .int .u64 a0, .int .u64 a1, .int .u64 a2, .int .u64 a3, .int .i64 lo, .int .i64 hi, .slice A n c] 27)) (fun _ _ _ => id) (fun i hhi hl => ⟨by have := hhi.1; omega, hl⟩)
    have HV4 := Lib.hid hv4
    obtain ⟨w4, hw4⟩ : ∃ w4, w4 = w3.alloc (.cells #[.int .i64 kd, .int .u64 a0, .int .u64 a1, .int .u64 a2, .int .u64 a3, .int .i64 lo, .int .i64 hi, .slice A n c] 27) := ⟨_, rfl⟩
    rw [← hw4] at HR3 HB3 HG3 HT3 HV4
    have hw4s : w4.heap.size = w3.heap.size + 1 := by rw [hw4]; simp
    have HW4 := Lib.hid hw4
    obtain ⟨B, hB⟩ : ∃ B, B = w3.heap.size := ⟨_, rfl⟩
    rw [← hB] at HT3 HV4
    have HBQ := Lib.hid hB
    have hBs : B < w4.heap.size := by omega
    clear hv hv4 hs3 hk3 hw4 hB HX HS2 HR2 HB2
    go_upto_region 11 with (fail)
    rw [← HW4.out, ← HBQ.out]
    clear HW4 HBQ
    obtain ⟨c0, c1, c2, q1, q2⟩ := HG3.out.cells
    cases b with
    | true =>
      have hp : parseP T = none := by unfold parseP; rw [HXE.out]; rfl
      have HPN := Lib.hid (show gparseN T = 4 by unfold gparseN; rw [if_neg (by rw [HBT.out]; decide), hp])
      have HPR := Lib.hid (show parseR T = none by unfold parseR; rw [if_neg (by rw [HBT.out]; decide), hp])
      clear hp HXE HBT
      go_upto_region 12 with (fail)
      clear c0 c1 c2 q1 q2 HG3 HT3 HV4
      obtain ⟨⟨⟨c0, c1⟩, c2, c3⟩, ⟨c4, c5⟩, c6, c7⟩ := HR3.out.cells
      obtain ⟨⟨⟨z0, z1⟩, z2, z3⟩, ⟨z4, z5⟩, z6, z7⟩ := HR3.out.free
      have HF9 := Lib.hid (HR3.out.all (.int .i64 0) (.int .u64 0) (.int .u64 0) (.int .u64 0) (.int .u64 0) (.int .i64 0) (.int .i64 0) (.slice none 0 0))
      have HB9 := Lib.hid (below_set8 HB3.out (Nat.le_refl w.heap.size) (.int .i64 0) (.int .u64 0) (.int .u64 0) (.int .u64 0) (.int .u64 0) (.int .i64 0) (.int .i64 0) (.slice none 0 0))
      go_wp2_with fail
      obtain ⟨⟨⟨d0, d1⟩, d2, d3⟩, ⟨d4, d5⟩, d6, d7⟩ := HF9.out.cells
      unfold set8 at d0 d1 d2 d3 d4 d5 d6 d7
      refine bodyPost_ret (v := .tuple #[.agg #[.int .i64 0, .int .u64 0, .int .u64 0, .int .u64 0, .int .u64 0, .int .i64 0, .int .i64 0, .slice none 0 0], .int .i64 4]) (by simp [results, Tryd.results6, go_sem, d0, d1, d2, d3, d4, d5, d6, d7]) rfl ?_
      exact ⟨⟨zeroC, by rw [HPN.out]; rfl, by rw [HPR.out]; rfl⟩, HB9.out⟩
    | false =>
      by_cases hkT : k = T.length
      · subst hkT
        have hp : parseP T = some r := by unfold parseP; rw [HXE.out]; exact if_pos rfl
        have hfm := exprN_fmd (T := T) (T.length + 1) 0 _ _ (Nat.zero_le _) (HXE.out.trans (om_false rfl))
        have htm := exprN_tame (T := T) (T.length + 1) 0 _ _ (Nat.zero_le _) (HXE.out.trans (om_false rfl))
        dsimp only at hfm htm
        have HCK := Lib.hid (gcheck_any r _ w4 _ HV4.out (fun i hhi => by have := hhi.2; omega) hfm.1 htm (HNN.out.below HB3.out hnl) (by have := hfm.2; omega))
        have HTM := Lib.hid htm
        clear hfm htm
        have e1 : ((T.length : Int) != (T.length : Int)) = false := bne_self_eq_false _
        obtain ⟨⟨⟨x0, x1⟩, x2, x3⟩, ⟨x4, x5⟩, x6, x7⟩ := HT3.out.cells
        cases hft : r.fits with
        | true =>
          have HPN := Lib.hid (show gparseN T = 0 by unfold gparseN; rw [if_neg (by rw [HBT.out]; decide), hp]; dsimp only; rw [hft]; rfl)
          have HPR := Lib.hid (show parseR T = some r by unfold parseR; rw [if_neg (by rw [HBT.out]; decide), hp]; dsimp only; rw [hft]; rfl)
          rw [hft, if_pos rfl] at HCK
          clear hp HXE HBT hft
          go_wp2_with fail
          refine HCK.out.mono ?_
          rintro ee w5 ⟨rfl, hb5⟩
          have HR5 := Lib.hid (HR3.out.below hb5 HR3.out.lt)
          have HB5 := Lib.hid (HB3.out.trans (hb5.mono HB3.out.size))
          have HT5 := Lib.hid (HT3.out.below hb5 HT3.out.lt)
          have HV5 := Lib.hid (HV4.out.kept (G := fun i => w2.heap.size ≤ i ∧ i < B) (Kept.of_below (F := fun _ => False) hb5) (fun _ _ _ => id) (fun i hhi _ => hhi))
          have hsz5 := hb5.size
          clear hb5 HCK HR3 HB3 HT3 HV4 HG3 c0 c1 c2 q1 q2 x0 x1 x2 x3 x4 x5 x6 x7
          obtain ⟨⟨⟨x0, x1⟩, x2, x3⟩, ⟨x4, x5⟩, x6, x7⟩ := HT5.out.cells
          have hk9 := kept_set8 (Kept.refl (fun i => i = w.heap.size) w5) (g := w.heap.size) (.inl rfl) (.int .i64 kd) (.int .u64 a0) (.int .u64 a1) (.int .u64 a2) (.int .u64 a3) (.int .i64 lo) (.int .i64 hi) (.slice A n c)
          have HV9 := Lib.hid (HV5.out.kept (G := rng w.heap.size (set8 w5 w.heap.size (.int .i64 kd) (.int .u64 a0) (.int .u64 a1) (.int .u64 a2) (.int .u64 a3) (.int .i64 lo) (.int .i64 hi) (.slice A n c)).heap.size) hk9 (fun i hhi _ e => by have e' : i = w.heap.size := e; have := hhi.1; omega) (fun i hhi hl => ⟨by have := hhi.1; omega, Nat.lt_of_lt_of_le hl hk9.size⟩))
          clear hk9
          obtain ⟨⟨⟨c0, c1⟩, c2, c3⟩, ⟨c4, c5⟩, c6, c7⟩ := HR5.out.cells
          obtain ⟨⟨⟨z0, z1⟩, z2, z3⟩, ⟨z4, z5⟩, z6, z7⟩ := HR5.out.free
          have HF9 := Lib.hid (HR5.out.all (.int .i64 kd) (.int .u64 a0) (.int .u64 a1) (.int .u64 a2) (.int .u64 a3) (.int .i64 lo) (.int .i64 hi) (.slice A n c))
          have HB9 := Lib.hid (below_set8 HB5.out (Nat.le_refl w.heap.size) (.int .i64 kd) (.int .u64 a0) (.int .u64 a1) (.int .u64 a2) (.int .u64 a3) (.int .i64 lo) (.int .i64 hi) (.slice A n c))
          go_wp2_with fail
          obtain ⟨⟨⟨d0, d1⟩, d2, d3⟩, ⟨d4, d5⟩, d6, d7⟩ := HF9.out.cells
          unfold set8 at d0 d1 d2 d3 d4 d5 d6 d7
          refine bodyPost_ret (v := .tuple #[.agg #[.int .i64 kd, .int .u64 a0, .int .u64 a1, .int .u64 a2, .int .u64 a3, .int .i64 lo, .int .i64 hi, .slice A n c], .int .i64 0]) (by simp [results, Tryd.results6, go_sem, d0, d1, d2, d3, d4, d5, d6, d7]) rfl ?_
          exact ⟨⟨_, by rw [HPN.out], by rw [HPR.out]; exact ⟨HV9.out, HTM.out⟩⟩, HB9.out⟩
        | false =>
          have HPN := Lib.hid (show gparseN T = 9 by unfold gparseN; rw [if_neg (by rw [HBT.out]; decide), hp]; dsimp only; rw [hft]; rfl)
          have HPR := Lib.hid (show parseR T = none by unfold parseR; rw [if_neg (by rw [HBT.out]; decide), hp]; dsimp only; rw [hft]; rfl)
          rw [hft, if_neg (by decide)] at HCK
          clear hp HXE HBT hft
          go_wp2_with fail
          refine HCK.out.mono ?_
          rintro ee w5 ⟨rfl, hb5⟩
          have HR5 := Lib.hid (HR3.out.below hb5 HR3.out.lt)
          have HB5 := Lib.hid (HB3.out.trans (hb5.mono HB3.out.size))
          clear hb5 HCK HR3 HB3 HT3 HV4 HG3 c0 c1 c2 q1 q2 x0 x1 x2 x3 x4 x5 x6 x7
          obtain ⟨⟨⟨c0, c1⟩, c2, c3⟩, ⟨c4, c5⟩, c6, c7⟩ := HR5.out.cells
          obtain ⟨⟨⟨z0, z1⟩, z2, z3⟩, ⟨z4, z5⟩, z6, z7⟩ := HR5.out.free
          have HF9 := Lib.hid (HR5.out.all (.int .i64 0) (.int .u64 0) (.int .u64 0) (.int .u64 0) (.int .u64 0) (.int .i64 0) (.int .i64 0) (.slice none 0 0))
          have HB9 := Lib.hid (below_set8 HB5.out (Nat.le_refl w.heap.size) (.int .i64 0) (.int .u64 0) (.int .u64 0) (.int .u64 0) (.int .u64 0) (.int .i64 0) (.int .i64 0) (.slice none 0 0))
          go_wp2_with fail
          obtain ⟨⟨⟨d0, d1⟩, d2, d3⟩, ⟨d4, d5⟩, d6, d7⟩ := HF9.out.cells
          unfold set8 at d0 d1 d2 d3 d4 d5 d6 d7
          refine bodyPost_ret (v := .tuple #[.agg #[.int .i64 0, .int .u64 0, .int .u64 0, .int .u64 0, .int .u64 0, .int .i64 0, .int .i64 0, .slice none 0 0], .int .i64 9]) (by simp [results, Tryd.results6, go_sem, d0, d1, d2, d3, d4, d5, d6, d7]) rfl ?_
          exact ⟨⟨zeroC, by rw [HPN.out]; rfl, by rw [HPR.out]; rfl⟩, HB9.out⟩
      · have e1 : ((k : Int) != (T.length : Int)) = true := by simp; omega
        have hp : parseP T = none := by unfold parseP; rw [HXE.out]; exact if_neg hkT
        have HPN := Lib.hid (show gparseN T = 4 by unfold gparseN; rw [if_neg (by rw [HBT.out]; decide), hp])
        have HPR := Lib.hid (show parseR T = none by unfold parseR; rw [if_neg (by rw [HBT.out]; decide), hp])
        clear hp HXE HBT
        go_upto_region 12 with (fail)
        clear c0 c1 c2 q1 q2 HG3 HT3 HV4
        obtain ⟨⟨⟨c0, c1⟩, c2, c3⟩, ⟨c4, c5⟩, c6, c7⟩ := HR3.out.cells
        obtain ⟨⟨⟨z0, z1⟩, z2, z3⟩, ⟨z4, z5⟩, z6, z7⟩ := HR3.out.free
        have HF9 := Lib.hid (HR3.out.all (.int .i64 0) (.int .u64 0) (.int .u64 0) (.int .u64 0) (.int .u64 0) (.int .i64 0) (.int .i64 0) (.slice none 0 0))
        have HB9 := Lib.hid (below_set8 HB3.out (Nat.le_refl w.heap.size) (.int .i64 0) (.int .u64 0) (.int .u64 0) (.int .u64 0) (.int .u64 0) (.int .i64 0) (.int .i64 0) (.slice none 0 0))
        go_wp2_with fail
        obtain ⟨⟨⟨d0, d1⟩, d2, d3⟩, ⟨d4, d5⟩, d6, d7⟩ := HF9.out.cells
        unfold set8 at d0 d1 d2 d3 d4 d5 d6 d7
        refine bodyPost_ret (v := .tuple #[.agg #[.int .i64 0, .int .u64 0, .int .u64 0, .int .u64 0, .int .u64 0, .int .i64 0, .int .i64 0, .slice none 0 0], .int .i64 4]) (by simp [results, Tryd.results6, go_sem, d0, d1, d2, d3, d4, d5, d6, d7]) rfl ?_
        exact ⟨⟨zeroC, by rw [HPN.out]; rfl, by rw [HPR.out]; rfl⟩, HB9.out⟩
theorem gparse_any (T : List UInt8) (w : World) (hT : T.length ≤ 4611686018427387904) (hN : NoneAt w) : Calls Tryd.prog 6 #[.string ⟨T.toArray⟩] w (GPEnd T w) := by
  cases hb : bigT T with
  | true => exact gparse_big T w hT hb
  | false => exact gparse_small T w hN hb
end Go.Proofs.YtpiagfmjekcncaaDoor
