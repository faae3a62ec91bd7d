/- The walk of regex.Literal. -/
import Derived.Test.YtpiagfmjekcncaaDoorjLt
import Derived.Test.YtpiagfmjekcncaaDoorjVn
import Derived.Test.YtpiagfmjekcncaaDoorjParse
import Derived.Test.YtpiagfmjekcncaaDoorjHg
import Derived.Test.YtpiagfmjekcncaaDoorjGe
import Derived.Deep.RegionHeld3
set_option linter.unusedVariables false
set_option linter.unusedSimpArgs false
set_option linter.unusedSectionVars false
namespace Go.Proofs.YtpiagfmjekcncaaDoor
open Go.RowKit
/-- What sequence answers at the row of a literal. -/
theorem seq_lit (v : Value) (l : List UInt8) (lo : Nat) (w : World) (h : w.ownsRow lo 27 8 v l.length (litCs l)) (hl : l.length ≤ 64) :
    Calls Tryd.prog 23 #[v] w fun e w' => ∃ cs, e = .returned (.agg cs.toArray) ∧ LitV w' lo l cs ∧ Below w.heap.size w w' := by
  match l, h, hl with
  | [], h, _ =>
    obtain ⟨A, c, rfl⟩ := own_form h
    refine (seq_0 A c w (fun _ => True)).mono ?_
    rintro e w' ⟨cs, rfl, hv, hb⟩
    refine ⟨cs, rfl, ?_, hb⟩
    have hv : RxV w' _ (Rx.plain 1 []) cs := hv
    unfold Rx.plain RxV at hv
    obtain ⟨A, c, _, rfl, _⟩ := hv
    exact ⟨A, c, rfl⟩
  | [x], h, _ =>
    obtain ⟨g, c, rfl, _, _, hg, hc⟩ := own_atR h (by simp)
    rw [litCs_one] at hc
    refine (seq_1 g 0 c w _ _ _ _ _ _ _ _ _ _ hg (hc 0 _ rfl) (hc 1 _ rfl) (hc 2 _ rfl) (hc 3 _ rfl) (hc 4 _ rfl) (hc 5 _ rfl) (hc 6 _ rfl) (hc 7 _ rfl)).mono ?_
    rintro e w' ⟨rfl, hb⟩
    exact ⟨litC x, rfl, rfl, hb⟩
  | x :: y :: l, h, hl =>
    obtain ⟨g, c, rfl, _, hgl, hg, hc⟩ := own_atR h (by simp)
    obtain ⟨_, cur, hblk⟩ := own_blkR h rfl
    refine (seq_n _ _ c w (by simp) (by omega)).mono ?_
    rintro e w' ⟨rfl, hb⟩
    exact ⟨_, rfl, ⟨g, c, cur, rfl, hgl, Blk.below hblk hb hg, fun j u hu => (hb.cell (p := ⟨g, j, none⟩) hg).trans (hc j u hu)⟩, hb⟩
theorem lit_kept {F : Nat → Prop} {w w' : World} {lo lo' : Nat} {l : List UInt8} {cs : List Value} (h : LitV w lo l cs) (k : Kept F w w') (hF : ∀ i, lo ≤ i → ¬ F i) (hlo : lo' ≤ lo) : LitV w' lo' l cs := by
  match l, h with
  | [], h => exact h
  | [x], h => exact h
  | x :: y :: l, h =>
    obtain ⟨b, c, cur, h1, h2, h3, h4⟩ := h
    exact ⟨b, c, cur, h1, Nat.le_trans hlo h2, Blk.kept h3 k (hF b h2), fun j u hu => (k.cell (p := ⟨b, j, none⟩) (Blk.lt h3) (hF b h2)).trans (h4 j u hu)⟩
def LitEnd (l : List UInt8) (w : World) (e : Ending) (w' : World) : Prop :=
  (if 64 < l.length then e = .returned (.tuple #[.agg zeroC.toArray, largeE]) else ∃ cs, e = .returned (.tuple #[.agg cs.toArray, .nilIface]) ∧ LitV w' w.heap.size l cs) ∧ Below w.heap.size w w'
set_option maxRecDepth 100000 in
set_option maxHeartbeats 4000000 in
theorem lit_any (A : Option Addr) (c : Nat) (l : List UInt8) (w : World) (hr : Reads w w.heap.size 1 A l.length (l.map byteV)) (hl : l.length ≤ 2000) :
    Calls Tryd.prog 10 #[.slice A l.length c] w (LitEnd l w) := by
  have HR1 := Lib.hid (R8.mk0 w w.heap.size rfl)
  have HB1 := Lib.hid ((Below.refl w.heap.size w).alloc (Nat.le_refl _) (.cells #[.int .i64 0, .int .u64 0, .int .u64 0, .int .u64 0, .int .u64 0, .int .i64 0, .int .i64 0, .slice none 0 0] 27))
  obtain ⟨w1, hw1⟩ : ∃ w1, w1 = w.alloc (.cells #[.int .i64 0, .int .u64 0, .int .u64 0, .int .u64 0, .int .u64 0, .int .i64 0, .int .i64 0, .slice none 0 0] 27) := ⟨_, rfl⟩
  rw [← hw1] at HR1 HB1
  have hs1 : w1.heap.size = w.heap.size + 1 := by rw [hw1]; simp
  have HW1 := Lib.hid hw1
  have HRD := Lib.hid hr
  obtain ⟨i0, hinf, hz0, hz1, hz2⟩ := info_parts infoR
  clear hw1 hr
  by_cases h64 : 64 < l.length
  · have t1 : decide (64 < (l.length : Int)) = true := decide_eq_true (by omega)
    obtain ⟨⟨⟨c0, c1⟩, c2, c3⟩, ⟨c4, c5⟩, c6, c7⟩ := HR1.out.cells
    obtain ⟨⟨⟨z0, z1⟩, z2, z3⟩, ⟨z4, z5⟩, z6, z7⟩ := HR1.out.free
    have HF9 := Lib.hid (HR1.out.all (.int .i64 0) (.int .u64 0) (.int .u64 0) (.int .u64 0) (.int .u64 0) (.int .i64 0) (.int .i64 0) (.slice none 0 0))
    have HB9 := Lib.hid (below_set8 HB1.out (Nat.le_refl w.heap.size) (.int .i64 0) (.int .u64 0) (.int .u64 0) (.int .u64 0) (.int .u64 0) (.int .i64 0) (.int .i64 0) (.slice none 0 0))
    clear hinf hz0 hz1 hz2
    go_enter Tryd.func10, Tryd.ntmps10
    go_upto_region 1 with (fail)
    rw [← HW1.out]
    go_wp2_with fail
    obtain ⟨⟨⟨d0, d1⟩, d2, d3⟩, ⟨d4, d5⟩, d6, d7⟩ := HF9.out.cells
    unfold set8 at d0 d1 d2 d3 d4 d5 d6 d7
    refine bodyPost_ret (v := .tuple #[.agg #[.int .i64 0, .int .u64 0, .int .u64 0, .int .u64 0, .int .u64 0, .int .i64 0, .int .i64 0, .slice none 0 0], largeE]) (by simp [results, Tryd.results10, go_sem, d0, d1, d2, d3, d4, d5, d6, d7, largeE]) rfl ?_
    unfold LitEnd
    rw [if_pos h64]
    exact ⟨rfl, HB9.out⟩
  · have t1 : decide (64 < (l.length : Int)) = false := decide_eq_false (by omega)
    obtain ⟨w2, hmk, hown, hgr⟩ := run_make_own (P := Tryd.prog) w1 (w.heap.size + 1) 25 27 i0 (.agg #[.int .i64 0, .int .u64 0, .int .u64 0, .int .u64 0, .int .u64 0, .int .i64 0, .int .i64 0, .slice none 0 0]) 8 Tryd.underlying25 hinf hz0 hz1 .i64 .i64 l.length (by rw [hz2]; omega) (by unfold maxLen; omega) (by omega)
    rw [hs1] at hown
    have HOWN := Lib.hid hown
    have hR2 : R8 w2 w.heap.size (.int .i64 0) (.int .u64 0) (.int .u64 0) (.int .u64 0) (.int .u64 0) (.int .i64 0) (.int .i64 0) (.slice none 0 0) := Blk.grown HR1.out hgr (by simp)
    have HR2 := Lib.hid hR2
    have HB2 := Lib.hid (HB1.out.grown hgr (by omega) (by simp))
    have HI := Lib.hid hinf
    have HI0 := Lib.hid hz0
    have HI1 := Lib.hid hz1
    have HI2 := Lib.hid hz2
    clear hown hgr hR2 hinf hz0 hz1 hz2
    go_enter Tryd.func10, Tryd.ntmps10
    go_upto_region 1 with (fail)
    rw [← HW1.out]
    go_wp2_with fail
    clear HW1 HB1 HR1 hmk
    go_loopg [4, 6, 17] (l.length + 1) (fun f v4 _ i wr => ∃ k : Nat, k ≤ l.length ∧ l.length < k + f ∧ i = .int .i64 k ∧ Hid (wr.ownsRow (w.heap.size + 1) 27 8 v4 k (litCs (l.take k))) ∧ Hid (R8 wr w.heap.size (.int .i64 0) (.int .u64 0) (.int .u64 0) (.int .u64 0) (.int .u64 0) (.int .i64 0) (.int .i64 0) (.slice none 0 0)) ∧ Hid (Below w.heap.size w wr))
    case atStart => exact ⟨0, Nat.zero_le _, by omega, rfl, by rw [List.take_zero]; exact HOWN, HR2, HB2⟩
    case round =>
      clear HOWN HR2 HB2
      obtain ⟨k, hk, hkf, rfl, HO, HR, HB⟩ := hrel
      obtain ⟨f, rfl⟩ : ∃ f, gk = f + 1 := ⟨gk - 1, by omega⟩
      obtain ⟨wo, hwo⟩ : ∃ wo, wo = wr := ⟨_, rfl⟩
      subst hwo
      by_cases hlt : k < l.length
      · obtain ⟨x, hx⟩ : ∃ x, l[k]? = some x := ⟨_, List.getElem?_eq_getElem hlt⟩
        obtain ⟨bb, oo, rfl, hbb, hcc⟩ := HRD.out.form (by omega)
        have y0 := (HB.out.cell (p := ⟨bb, oo + k, none⟩) hbb).trans (hcc k (byteV x) (by rw [List.getElem?_map, hx]; rfl))
        unfold byteV at y0
        have q0 : (k : Int) < (l.length : Int) := by omega
        have q1 : (0 : Int) ≤ (k : Int) := by omega
        have htk : litCs (l.take (k + 1)) = litCs (l.take k) ++ [.int .i64 2, .int .u64 (wd (oneS x.toNat) 0), .int .u64 (wd (oneS x.toNat) 1), .int .u64 (wd (oneS x.toNat) 2), .int .u64 (wd (oneS x.toNat) 3), .int .i64 0, .int .i64 0, .slice none 0 0] := by
          rw [List.take_add_one, hx, litCs_app]
          show _ ++ litCs [x] = _
          rw [litCs_one]
          rfl
        have HTK := Lib.hid htk
        clear htk hx hcc
        go_wp2_with fail
        refine (one_v x wo).mono ?_
        rintro e w3 ⟨rfl, hb3⟩
        have ho3 := own_below HO.out hb3
        have HR3 := Lib.hid ((HR.out.below hb3 HR.out.lt).alloc (.cells #[.int .i64 2, .int .u64 (wd (oneS x.toNat) 0), .int .u64 (wd (oneS x.toNat) 1), .int .u64 (wd (oneS x.toNat) 2), .int .u64 (wd (oneS x.toNat) 3), .int .i64 0, .int .i64 0, .slice none 0 0] 27))
        have HB3 := Lib.hid ((HB.out.trans (hb3.mono HB.out.size)).alloc (Nat.le_trans HB.out.size hb3.size) (.cells #[.int .i64 2, .int .u64 (wd (oneS x.toNat) 0), .int .u64 (wd (oneS x.toNat) 1), .int .u64 (wd (oneS x.toNat) 2), .int .u64 (wd (oneS x.toNat) 3), .int .i64 0, .int .i64 0, .slice none 0 0] 27))
        have ho4 := ho3.alloc (.cells #[.int .i64 2, .int .u64 (wd (oneS x.toNat) 0), .int .u64 (wd (oneS x.toNat) 1), .int .u64 (wd (oneS x.toNat) 2), .int .u64 (wd (oneS x.toNat) 3), .int .i64 0, .int .i64 0, .slice none 0 0] 27)
        have hrr := reads8 w3 (.int .i64 2) (.int .u64 (wd (oneS x.toNat) 0)) (.int .u64 (wd (oneS x.toNat) 1)) (.int .u64 (wd (oneS x.toNat) 2)) (.int .u64 (wd (oneS x.toNat) 3)) (.int .i64 0) (.int .i64 0) (.slice none 0 0)
        have hone : ∀ u ∈ ([.int .i64 2, .int .u64 (wd (oneS x.toNat) 0), .int .u64 (wd (oneS x.toNat) 1), .int .u64 (wd (oneS x.toNat) 2), .int .u64 (wd (oneS x.toNat) 3), .int .i64 0, .int .i64 0, .slice none 0 0] : List Value), u.oneCell' = true := by simp [Value.oneCell']
        have hsz3 := Nat.le_trans HB.out.size hb3.size
        have hlt3 : w.heap.size < w3.heap.size := Nat.lt_of_lt_of_le HR.out.lt hb3.size
        have hinf := HI.out
        have hz0 := HI0.out
        have hz1 := HI1.out
        have hz2 := HI2.out
        clear hb3 ho3 y0
        go_wp2_with (at_builtin; refine wpList_append_any _ rfl (.tmp 21) (.tmp 24) 25 rfl (w.heap.size + 1) 27 i0 (.agg #[.int .i64 0, .int .u64 0, .int .u64 0, .int .u64 0, .int .u64 0, .int .i64 0, .int .i64 0, .slice none 0 0]) 8 80 Tryd.underlying25 hinf hz0 hz1 hz2 rfl (by decide) _ k (litCs (l.take k)) rfl ho4 _ _ _ _ [.int .i64 2, .int .u64 (wd (oneS x.toNat) 0), .int .u64 (wd (oneS x.toNat) 1), .int .u64 (wd (oneS x.toNat) 2), .int .u64 (wd (oneS x.toNat) 3), .int .i64 0, .int .i64 0, .slice none 0 0] rfl hrr hone (by unfold maxLen; omega) (by omega) (by simp; omega) ?_)
        intro v5 w5 hown5 hg5 hv5
        have hneq : ∀ i, (u4 : Value).ownBlock = some i → w.heap.size + 1 ≤ i := fun i e => (own_blkR HO.out e).1
        have HR5 := Lib.hid (show R8 w5 w.heap.size (.int .i64 0) (.int .u64 0) (.int .u64 0) (.int .u64 0) (.int .u64 0) (.int .i64 0) (.int .i64 0) (.slice none 0 0) from Blk.grown HR3.out hg5 (fun e => by have := hneq _ e.symm; omega))
        have HB5 := Lib.hid (HB3.out.grown hg5 HB3.out.size (fun g e => by have := hneq g e; omega))
        have HO5 := Lib.hid hown5
        clear hown5 hg5 hv5 hneq hinf hz0 hz1 hz2 ho4 hrr hone HR3 HB3 HO HR HB
        go_wp2_with fail
        go_roundg f
        case measure => omega
        case rel => exact ⟨k + 1, hlt, by omega, rfl, by rw [HTK.out]; exact HO5, HR5, HB5⟩
      · obtain rfl : k = l.length := by omega
        have ho := HO.out
        rw [List.take_length] at ho
        have HSQ := Lib.hid (seq_lit u4 l (w.heap.size + 1) wo ho (by omega))
        clear ho
        go_wp2_with fail
        refine HSQ.out.mono ?_
        rintro e w3 ⟨cs, rfl, hv, hb3⟩
        obtain ⟨kd, aa, ab, ac, ad, lo, hi, A2, n2, c2, rfl⟩ := hv.rxv.eight
        have HR3 := Lib.hid (HR.out.below hb3 HR.out.lt)
        have HB3 := Lib.hid (HB.out.trans (hb3.mono HB.out.size))
        obtain ⟨⟨⟨c0, c1⟩, c2', c3⟩, ⟨c4, c5⟩, c6, c7⟩ := HR3.out.cells
        obtain ⟨⟨⟨z0, z1⟩, z2, z3⟩, ⟨z4, z5⟩, z6, z7⟩ := HR3.out.free
        have HF9 := Lib.hid (HR3.out.all (.int .i64 kd) (.int .u64 aa) (.int .u64 ab) (.int .u64 ac) (.int .u64 ad) (.int .i64 lo) (.int .i64 hi) (.slice A2 n2 c2))
        have HB9 := Lib.hid (below_set8 HB3.out (Nat.le_refl w.heap.size) (.int .i64 kd) (.int .u64 aa) (.int .u64 ab) (.int .u64 ac) (.int .u64 ad) (.int .i64 lo) (.int .i64 hi) (.slice A2 n2 c2))
        have HV9 := Lib.hid (lit_kept hv (kept_set8 (Kept.refl (fun i => i = w.heap.size) w3) (g := w.heap.size) (.inl rfl) (.int .i64 kd) (.int .u64 aa) (.int .u64 ab) (.int .u64 ac) (.int .u64 ad) (.int .i64 lo) (.int .i64 hi) (.slice A2 n2 c2)) (fun i h e => by have e' : i = w.heap.size := e; omega) (Nat.le_succ _))
        clear hv hb3 HSQ HO HR HB
        go_wp2_with fail
        obtain ⟨⟨⟨d0, d1⟩, d2, d3⟩, ⟨d4, d5⟩, d6, d7⟩ := HF9.out.cells
        unfold set8 at d0 d1 d2 d3 d4 d5 d6 d7
        refine bodyPost_ret (v := .tuple #[.agg #[.int .i64 kd, .int .u64 aa, .int .u64 ab, .int .u64 ac, .int .u64 ad, .int .i64 lo, .int .i64 hi, .slice A2 n2 c2], .nilIface]) (by simp [results, Tryd.results10, go_sem, d0, d1, d2, d3, d4, d5, d6, d7]) rfl ?_
        unfold LitEnd
        rw [if_neg h64]
        exact ⟨⟨_, rfl, HV9.out⟩, HB9.out⟩
end Go.Proofs.YtpiagfmjekcncaaDoor
namespace Go.Proofs.YtpiagfmjekcncaaDoor
open Go.RowKit
theorem conv_byte (x : UInt8) : IntKind.i64.wrap (x.toNat : Int) = (x.toNat : Int) := by have := x.toNat_lt; rw [IntKind.wrap_i64]; omega
theorem litR_many : ∀ {l : List UInt8}, ¬ l.length = 0 → ¬ l.length = 1 → litR l = Rx.plain 3 (l.map Rx.one)
  | [], h, _ => absurd rfl h
  | [x], _, h => absurd rfl h
  | x :: y :: l, _, _ => rfl
theorem lit_rxv_many {w : World} {F : Nat → Prop} {l : List UInt8} {A : Option Addr} {c : Nat} (h0 : ¬ l.length = 0) (h1 : ¬ l.length = 1) (h : RdF w F 8 A l.length (litCs l)) : RxV w F (litR l) [.int .i64 3, .int .u64 0, .int .u64 0, .int .u64 0, .int .u64 0, .int .i64 0, .int .i64 0, .slice A l.length c] := by
  rw [litR_many h0 h1]
  unfold Rx.plain RxV
  refine ⟨A, c, litCs l, by rw [List.length_map]; rfl, ?_, litCs_rxvs _ _ _⟩
  rw [List.length_map]
  exact h
set_option maxRecDepth 100000 in
set_option maxHeartbeats 8000000 in
theorem glit_any (A : Option Addr) (c : Nat) (l : List UInt8) (w : World) (hr : Reads w w.heap.size 1 A l.length (l.map byteV)) (hl : l.length ≤ 64) :
    Calls Tryd.prog 15 #[.slice A l.length c] w fun e w' => ∃ cs, e = .returned (.agg cs.toArray) ∧ RxV w' (fun i => w.heap.size ≤ i ∧ i < w'.heap.size) (litR l) cs ∧ Below w.heap.size w w' := by
  have HR1 := Lib.hid (R8.mk0 w w.heap.size rfl)
  have HB1 := Lib.hid ((Below.refl w.heap.size w).alloc (Nat.le_refl _) (.cells #[.int .i64 0, .int .u64 0, .int .u64 0, .int .u64 0, .int .u64 0, .int .i64 0, .int .i64 0, .slice none 0 0] 27))
  obtain ⟨w1, hw1⟩ : ∃ w1, w1 = w.alloc (.cells #[.int .i64 0, .int .u64 0, .int .u64 0, .int .u64 0, .int .u64 0, .int .i64 0, .int .i64 0, .slice none 0 0] 27) := ⟨_, rfl⟩
  rw [← hw1] at HR1 HB1
  have hs1 : w1.heap.size = w.heap.size + 1 := by rw [hw1]; simp
  have HW1 := Lib.hid hw1
  have HRD := Lib.hid hr
  obtain ⟨i0, hinf, hz0, hz1, hz2⟩ := info_parts infoR
  have HI := Lib.hid hinf
  have HI0 := Lib.hid hz0
  have HI1 := Lib.hid hz1
  have HI2 := Lib.hid hz2
  clear hw1 hr hinf hz0 hz1 hz2
  by_cases h0 : l.length = 0
  · have hl0 : l = [] := List.eq_nil_of_length_eq_zero h0
    subst hl0
    simp only [List.length_nil]
    go_enter Tryd.func15, Tryd.ntmps15
    go_upto_region 1 with (fail)
    rw [← HW1.out]
    clear HW1
    obtain ⟨⟨⟨c0, c1⟩, c2', c3⟩, ⟨c4, c5⟩, c6, c7⟩ := HR1.out.cells
    obtain ⟨⟨⟨z0, z1⟩, z2, z3⟩, ⟨z4, z5⟩, z6, z7⟩ := HR1.out.free
    have HF9 := Lib.hid (HR1.out.all (.int .i64 1) (.int .u64 0) (.int .u64 0) (.int .u64 0) (.int .u64 0) (.int .i64 0) (.int .i64 0) (.slice none 0 0))
    have HB9 := Lib.hid (below_set8 HB1.out (Nat.le_refl w.heap.size) (.int .i64 1) (.int .u64 0) (.int .u64 0) (.int .u64 0) (.int .u64 0) (.int .i64 0) (.int .i64 0) (.slice none 0 0))
    go_wp2_with fail
    obtain ⟨⟨⟨d0, d1⟩, d2, d3⟩, ⟨d4, d5⟩, d6, d7⟩ := HF9.out.cells
    unfold set8 at d0 d1 d2 d3 d4 d5 d6 d7
    refine bodyPost_ret (v := .agg #[.int .i64 1, .int .u64 0, .int .u64 0, .int .u64 0, .int .u64 0, .int .i64 0, .int .i64 0, .slice none 0 0]) (by simp [results, Tryd.results15, go_sem, d0, d1, d2, d3, d4, d5, d6, d7]) rfl ?_
    exact ⟨_, rfl, by show RxV _ _ (Rx.plain 1 []) _; unfold Rx.plain RxV RxVs; exact ⟨none, 0, [], rfl, ⟨rfl, fun h => absurd h (by decide)⟩, rfl⟩, HB9.out⟩
  by_cases h1 : l.length = 1
  · obtain ⟨x, rfl⟩ : ∃ x, l = [x] := List.length_eq_one_iff.1 h1
    obtain ⟨bb, oo, rfl, hbb, hcc⟩ := HRD.out.form (by simp)
    have y0 := (HB1.out.cell (p := ⟨bb, oo + 0, none⟩) hbb).trans (hcc 0 (byteV x) rfl)
    rw [Nat.add_zero] at y0
    unfold byteV at y0
    obtain ⟨hx0, hx1⟩ := u8b x
    simp only [List.length_singleton]
    clear hcc h0 h1
    go_enter Tryd.func15, Tryd.ntmps15
    go_upto_region 1 with (fail)
    rw [← HW1.out]
    clear HW1
    go_wp2_with fail
    refine (gone_any x w1).mono ?_
    rintro e w2 ⟨rfl, hb2⟩
    have HR2 := Lib.hid (HR1.out.below hb2 HR1.out.lt)
    have HB2 := Lib.hid (HB1.out.trans (hb2.mono HB1.out.size))
    clear hb2 y0
    obtain ⟨⟨⟨c0, c1⟩, c2', c3⟩, ⟨c4, c5⟩, c6, c7⟩ := HR2.out.cells
    obtain ⟨⟨⟨z0, z1⟩, z2, z3⟩, ⟨z4, z5⟩, z6, z7⟩ := HR2.out.free
    have HF9 := Lib.hid (HR2.out.all (.int .i64 2) (.int .u64 (wd (oneS x.toNat) 0)) (.int .u64 (wd (oneS x.toNat) 1)) (.int .u64 (wd (oneS x.toNat) 2)) (.int .u64 (wd (oneS x.toNat) 3)) (.int .i64 0) (.int .i64 0) (.slice none 0 0))
    have HB9 := Lib.hid (below_set8 HB2.out (Nat.le_refl w.heap.size) (.int .i64 2) (.int .u64 (wd (oneS x.toNat) 0)) (.int .u64 (wd (oneS x.toNat) 1)) (.int .u64 (wd (oneS x.toNat) 2)) (.int .u64 (wd (oneS x.toNat) 3)) (.int .i64 0) (.int .i64 0) (.slice none 0 0))
    go_wp2_with fail
    obtain ⟨⟨⟨d0, d1⟩, d2, d3⟩, ⟨d4, d5⟩, d6, d7⟩ := HF9.out.cells
    unfold set8 at d0 d1 d2 d3 d4 d5 d6 d7
    refine bodyPost_ret (v := .agg #[.int .i64 2, .int .u64 (wd (oneS x.toNat) 0), .int .u64 (wd (oneS x.toNat) 1), .int .u64 (wd (oneS x.toNat) 2), .int .u64 (wd (oneS x.toNat) 3), .int .i64 0, .int .i64 0, .slice none 0 0]) (by simp [results, Tryd.results15, go_sem, d0, d1, d2, d3, d4, d5, d6, d7]) rfl ?_
    exact ⟨_, rfl, RxV.set_any _ _ (oneS x.toNat), HB9.out⟩
  have t0 : ((l.length : Int) == 0) = false := beq_eq_false_iff_ne.2 (by omega)
  have t1 : ((l.length : Int) == 1) = false := beq_eq_false_iff_ne.2 (by omega)
  have HR2 := Lib.hid (HR1.out.alloc (.cells #[.int .i64 3, .int .u64 0, .int .u64 0, .int .u64 0, .int .u64 0, .int .i64 0, .int .i64 0, .slice none 0 0] 27))
  have HB2 := Lib.hid (HB1.out.alloc (by omega) (.cells #[.int .i64 3, .int .u64 0, .int .u64 0, .int .u64 0, .int .u64 0, .int .i64 0, .int .i64 0, .slice none 0 0] 27))
  have HT2 := Lib.hid (show R8 (w1.alloc (.cells #[.int .i64 3, .int .u64 0, .int .u64 0, .int .u64 0, .int .u64 0, .int .i64 0, .int .i64 0, .slice none 0 0] 27)) (w.heap.size + 1) (.int .i64 3) (.int .u64 0) (.int .u64 0) (.int .u64 0) (.int .u64 0) (.int .i64 0) (.int .i64 0) (.slice none 0 0) from by
    have := Blk.new w1 27 #[.int .i64 3, .int .u64 0, .int .u64 0, .int .u64 0, .int .u64 0, .int .i64 0, .int .i64 0, .slice none 0 0]
    rw [hs1] at this
    exact this)
  have HO2 := Lib.hid (World.ownsRow_nil (w1.alloc (.cells #[.int .i64 3, .int .u64 0, .int .u64 0, .int .u64 0, .int .u64 0, .int .i64 0, .int .i64 0, .slice none 0 0] 27)) (w.heap.size + 2) 27 8)
  obtain ⟨w2, hw2⟩ : ∃ w2, w2 = w1.alloc (.cells #[.int .i64 3, .int .u64 0, .int .u64 0, .int .u64 0, .int .u64 0, .int .i64 0, .int .i64 0, .slice none 0 0] 27) := ⟨_, rfl⟩
  rw [← hw2] at HR2 HB2 HT2 HO2
  have HW2 := Lib.hid hw2
  clear hw2
  go_enter Tryd.func15, Tryd.ntmps15
  go_upto_region 1 with (fail)
  rw [← HW1.out]
  clear HW1
  go_upto_region 6 with (fail)
  rw [← HW2.out]
  clear HW2 HR1 HB1
  go_wp2_with fail
  go_loopg [4] (l.length + 1) (fun f i wr => ∃ (k : Nat) (Av : Option Addr) (cv : Nat), k ≤ l.length ∧ l.length < k + f ∧ i = .int .i64 k ∧ Hid (wr.ownsRow (w.heap.size + 2) 27 8 (.slice Av k cv) k (litCs (l.take k))) ∧ Hid (R8 wr (w.heap.size + 1) (.int .i64 3) (.int .u64 0) (.int .u64 0) (.int .u64 0) (.int .u64 0) (.int .i64 0) (.int .i64 0) (.slice Av k cv)) ∧ Hid (R8 wr w.heap.size (.int .i64 0) (.int .u64 0) (.int .u64 0) (.int .u64 0) (.int .u64 0) (.int .i64 0) (.int .i64 0) (.slice none 0 0)) ∧ Hid (Below w.heap.size w wr))
  case atStart => exact ⟨0, none, 0, Nat.zero_le _, by omega, rfl, by rw [List.take_zero]; exact HO2, HT2, HR2, HB2⟩
  case round =>
    clear HO2 HT2 HR2 HB2
    obtain ⟨k, Av, cv, hk, hkf, rfl, HO, HT, HR, HB⟩ := hrel
    obtain ⟨f, rfl⟩ : ∃ f, gk = f + 1 := ⟨gk - 1, by omega⟩
    obtain ⟨wo, hwo⟩ : ∃ wo, wo = wr := ⟨_, rfl⟩
    subst hwo
    have v7 := (HT.out.cells).2.2.2
    by_cases hlt : k < l.length
    · obtain ⟨x, hx⟩ : ∃ x, l[k]? = some x := ⟨_, List.getElem?_eq_getElem hlt⟩
      obtain ⟨bb, oo, rfl, hbb, hcc⟩ := HRD.out.form (by omega)
      have hy := hcc k (byteV x) (by rw [List.getElem?_map, hx]; rfl)
      unfold byteV at hy
      have HY := Lib.hid hy
      have y0 := (HB.out.cell (p := ⟨bb, oo + k, none⟩) hbb).trans hy
      obtain ⟨hx0, hx1⟩ := u8b x
      have q0 : (k : Int) < (l.length : Int) := by omega
      have q1 : (0 : Int) ≤ (k : Int) := by omega
      have htk : litCs (l.take (k + 1)) = litCs (l.take k) ++ [.int .i64 2, .int .u64 (wd (oneS x.toNat) 0), .int .u64 (wd (oneS x.toNat) 1), .int .u64 (wd (oneS x.toNat) 2), .int .u64 (wd (oneS x.toNat) 3), .int .i64 0, .int .i64 0, .slice none 0 0] := by
        rw [List.take_add_one, hx, litCs_app]
        show _ ++ litCs [x] = _
        rw [litCs_one]
        rfl
      have HTK := Lib.hid htk
      have hone0 := gone_any x wo.drew
      rw [← conv_byte x] at hone0
      have HONE := Lib.hid hone0
      clear htk hx hcc hy hone0
      go_upto_region 9 with (fail)
      refine wp_region_noPanic ?_
      refine wp_region_Z (z := 11) (S := (fun w' => w'.cell? ⟨w.heap.size + 1, 7, none⟩ = some (.slice Av k cv) ∧ w'.cell? ⟨bb, oo + k, none⟩ = some (.int .u8 x.toNat))) (by kernel_rfl) ⟨v7, y0⟩ (fun hHeld => ?_)
      refine wpAnyZ_take (i := 0) (v := ?_) rfl (by kernel_rfl) (by kernel_rfl) (by kernel_rfl) (by kernel_rfl) (fun _ _ _ h => h) (Or.inl ⟨by rfl, ?_⟩) hHeld ?_
      rotate_left
      · intro w' hSw
        (try dsimp only at hSw)
        go_simp <;> with_reducible rfl
      try simp only [Act.put, List.setIfInBounds_toArray, List.set_cons_zero, List.set_cons_succ]
      refine wpAnyZ_take (i := 1) (v := ?_) rfl (by kernel_rfl) (by kernel_rfl) (by kernel_rfl) (by kernel_rfl) (fun _ _ _ h => h) (Or.inl ⟨by rfl, ?_⟩) hHeld ?_
      rotate_left
      · intro w' hSw
        (try dsimp only at hSw)
        go_simp <;> with_reducible rfl
      try simp only [Act.put, List.setIfInBounds_toArray, List.set_cons_zero, List.set_cons_succ]
      refine wpAnyZ_take (i := 2) (v := ?_) rfl (by kernel_rfl) (by kernel_rfl) (by kernel_rfl) (by kernel_rfl) (fun _ _ _ h => h) (Or.inl ⟨by rfl, ?_⟩) hHeld ?_
      rotate_left
      · intro w' hSw
        (try dsimp only at hSw)
        go_simp <;> with_reducible rfl
      try simp only [Act.put, List.setIfInBounds_toArray, List.set_cons_zero, List.set_cons_succ]
      refine wpAnyZ_take (i := 3) (v := ?_) rfl (by kernel_rfl) (by kernel_rfl) (by kernel_rfl) (by kernel_rfl) (fun _ _ _ h => h) (Or.inl ⟨by rfl, ?_⟩) hHeld ?_
      rotate_left
      · intro w' hSw
        (try dsimp only at hSw)
        go_simp <;> with_reducible rfl
      try simp only [Act.put, List.setIfInBounds_toArray, List.set_cons_zero, List.set_cons_succ]
      refine wpAnyZ_take (i := 4) (v := ?_) rfl (by kernel_rfl) (by kernel_rfl) (by kernel_rfl) (by kernel_rfl) (fun _ _ _ h => h) (Or.inl ⟨by rfl, ?_⟩) hHeld ?_
      rotate_left
      · intro w' hSw
        (try dsimp only at hSw)
        go_simp <;> with_reducible rfl
      try simp only [Act.put, List.setIfInBounds_toArray, List.set_cons_zero, List.set_cons_succ]
      refine wpAnyZ_take (i := 5) (v := ?_) rfl (by kernel_rfl) (by kernel_rfl) (by kernel_rfl) (by kernel_rfl) (fun _ _ _ h => h) (Or.inl ⟨by rfl, ?_⟩) hHeld ?_
      rotate_left
      · intro w' hSw
        (try dsimp only at hSw)
        go_simp <;> with_reducible rfl
      try simp only [Act.put, List.setIfInBounds_toArray, List.set_cons_zero, List.set_cons_succ]
      refine wpAnyZ_take (i := 6) (v := ?_) rfl (by kernel_rfl) (by kernel_rfl) (by kernel_rfl) (by kernel_rfl) (fun _ _ _ h => h) (Or.inl ⟨by rfl, ?_⟩) hHeld ?_
      rotate_left
      · intro w' hSw
        (try dsimp only at hSw)
        go_simp <;> with_reducible rfl
      try simp only [Act.put, List.setIfInBounds_toArray, List.set_cons_zero, List.set_cons_succ]
      refine wpAnyZ_one (i := 7) (by kernel_rfl) rfl (fun K hK => ?_)
      go_simp
      go_at_call 28
      refine HONE.out.mono ?_
      rintro e w3 ⟨rfl, hb3'⟩
      have hb3 : Below wo.heap.size wo w3 := ((Below.refl _ wo).drew).trans hb3'
      have ho3 := own_below HO.out hb3
      have HR3 := Lib.hid ((HR.out.below hb3 HR.out.lt).alloc (.cells #[.int .i64 2, .int .u64 (wd (oneS x.toNat) 0), .int .u64 (wd (oneS x.toNat) 1), .int .u64 (wd (oneS x.toNat) 2), .int .u64 (wd (oneS x.toNat) 3), .int .i64 0, .int .i64 0, .slice none 0 0] 27))
      have HT3 := Lib.hid ((HT.out.below hb3 HT.out.lt).alloc (.cells #[.int .i64 2, .int .u64 (wd (oneS x.toNat) 0), .int .u64 (wd (oneS x.toNat) 1), .int .u64 (wd (oneS x.toNat) 2), .int .u64 (wd (oneS x.toNat) 3), .int .i64 0, .int .i64 0, .slice none 0 0] 27))
      have HB3 := Lib.hid ((HB.out.trans (hb3.mono HB.out.size)).alloc (Nat.le_trans HB.out.size hb3.size) (.cells #[.int .i64 2, .int .u64 (wd (oneS x.toNat) 0), .int .u64 (wd (oneS x.toNat) 1), .int .u64 (wd (oneS x.toNat) 2), .int .u64 (wd (oneS x.toNat) 3), .int .i64 0, .int .i64 0, .slice none 0 0] 27))
      have ho4 := ho3.alloc (.cells #[.int .i64 2, .int .u64 (wd (oneS x.toNat) 0), .int .u64 (wd (oneS x.toNat) 1), .int .u64 (wd (oneS x.toNat) 2), .int .u64 (wd (oneS x.toNat) 3), .int .i64 0, .int .i64 0, .slice none 0 0] 27)
      have hrr := reads8 w3 (.int .i64 2) (.int .u64 (wd (oneS x.toNat) 0)) (.int .u64 (wd (oneS x.toNat) 1)) (.int .u64 (wd (oneS x.toNat) 2)) (.int .u64 (wd (oneS x.toNat) 3)) (.int .i64 0) (.int .i64 0) (.slice none 0 0)
      have hone : ∀ u ∈ ([.int .i64 2, .int .u64 (wd (oneS x.toNat) 0), .int .u64 (wd (oneS x.toNat) 1), .int .u64 (wd (oneS x.toNat) 2), .int .u64 (wd (oneS x.toNat) 3), .int .i64 0, .int .i64 0, .slice none 0 0] : List Value), u.oneCell' = true := by simp [Value.oneCell']
      have hsz3 := Nat.le_trans HB.out.size hb3.size
      have hlt3 : w.heap.size + 1 < w3.heap.size := Nat.lt_of_lt_of_le HT.out.lt hb3.size
      have v73 := (hb3.cell (p := ⟨w.heap.size + 1, 7, none⟩) HT.out.lt).trans v7
      have y03 := (hb3.cell (p := ⟨bb, oo + k, none⟩) (Nat.lt_of_lt_of_le hbb HB.out.size)).trans y0
      have v74 := (HT3.out.cells).2.2.2
      have y04 := (HB3.out.cell (p := ⟨bb, oo + k, none⟩) hbb).trans HY.out
      have hinf := HI.out
      have hz0 := HI0.out
      have hz1 := HI1.out
      have hz2 := HI2.out
      clear hb3 hb3' ho3
      refine hK.out _ _ (fun _ => ⟨v73, y03⟩) ?_
      clear hK K
      try simp only [Act.put, List.setIfInBounds_toArray, List.set_cons_zero, List.set_cons_succ]
      refine wpAnyZ_one (i := 8) (by kernel_rfl) rfl (fun K hK => ?_)
      go_simp
      refine hK.out _ _ (fun _ => ⟨v74, y04⟩) ?_
      clear hK K
      try simp only [Act.put, List.setIfInBounds_toArray, List.set_cons_zero, List.set_cons_succ]
      refine wpAnyZ_one (i := 9) (by kernel_rfl) rfl (fun K hK => ?_)
      refine step_append_any _ rfl (.tmp 25) (.tmp 32) 25 rfl (w.heap.size + 2) 27 i0 (.agg #[.int .i64 0, .int .u64 0, .int .u64 0, .int .u64 0, .int .u64 0, .int .i64 0, .int .i64 0, .slice none 0 0]) 8 80 Tryd.underlying25 hinf hz0 hz1 hz2 rfl (by decide) (.slice Av k cv) k (litCs (l.take k)) rfl ho4 _ _ _ _ [.int .i64 2, .int .u64 (wd (oneS x.toNat) 0), .int .u64 (wd (oneS x.toNat) 1), .int .u64 (wd (oneS x.toNat) 2), .int .u64 (wd (oneS x.toNat) 3), .int .i64 0, .int .i64 0, .slice none 0 0] rfl hrr hone (by unfold maxLen; omega) (by omega) (by simp; omega) ?_
      intro v5 w5 hown5 hg5 hv5
      obtain ⟨A5, c5, rfl⟩ := own_form hown5
      have hneq : ∀ i, (Value.slice Av k cv).ownBlock = some i → w.heap.size + 2 ≤ i := fun i e => (own_blkR HO.out e).1
      have HR5 := Lib.hid (show R8 w5 w.heap.size (.int .i64 0) (.int .u64 0) (.int .u64 0) (.int .u64 0) (.int .u64 0) (.int .i64 0) (.int .i64 0) (.slice none 0 0) from Blk.grown HR3.out hg5 (fun e => by have := hneq _ e.symm; omega))
      have HT5 := Lib.hid (show R8 w5 (w.heap.size + 1) (.int .i64 3) (.int .u64 0) (.int .u64 0) (.int .u64 0) (.int .u64 0) (.int .i64 0) (.int .i64 0) (.slice Av k cv) from Blk.grown HT3.out hg5 (fun e => by have := hneq _ e.symm; omega))
      have HB5 := Lib.hid (HB3.out.grown hg5 HB3.out.size (fun g e => by have := hneq g e; omega))
      have HO5 := Lib.hid hown5
      have v75 := (HT5.out.cells).2.2.2
      have q75 := (HT5.out.free).2.2.2
      have y05 := (HB5.out.cell (p := ⟨bb, oo + k, none⟩) hbb).trans HY.out
      have HT6 := Lib.hid (HT5.out.s7 (.slice A5 (k + 1) c5))
      have HR6 := Lib.hid (show R8 (w5.setCell ⟨w.heap.size + 1, 7, none⟩ (.slice A5 (k + 1) c5)) w.heap.size (.int .i64 0) (.int .u64 0) (.int .u64 0) (.int .u64 0) (.int .u64 0) (.int .i64 0) (.int .i64 0) (.slice none 0 0) from Blk.far HR5.out (p := ⟨w.heap.size + 1, 7, none⟩) (by show w.heap.size ≠ w.heap.size + 1; omega) _)
      have HB6 := Lib.hid (HB5.out.setCell (p := ⟨w.heap.size + 1, 7, none⟩) (by show w.heap.size ≤ w.heap.size + 1; omega) (.slice A5 (k + 1) c5))
      have HO6 := Lib.hid (own_keptR HO5.out ((Kept.refl (fun i => i = w.heap.size + 1) w5).setCell (p := ⟨w.heap.size + 1, 7, none⟩) (.inl rfl) (.slice A5 (k + 1) c5)) (fun i e e2 => by have e2' : i = w.heap.size + 1 := e2; have := (own_blkR HO5.out e).1; omega))
      clear hown5 hg5 hv5 hneq hinf hz0 hz1 hz2 ho4 hrr hone HR3 HT3 HB3 HO HR HB HT v7 y0 v73 y03 v74 y04 hHeld
      refine hK.out _ _ (fun _ => ⟨v75, y05⟩) ?_
      clear hK K
      try simp only [Act.put, List.setIfInBounds_toArray, List.set_cons_zero, List.set_cons_succ]
      refine wpAnyZ_one (i := 10) (by kernel_rfl) rfl (fun K hK => ?_)
      go_simp
      refine hK.out _ _ (fun _ => ⟨v75, y05⟩) ?_
      clear hK K
      try simp only [Act.put, List.setIfInBounds_toArray, List.set_cons_zero, List.set_cons_succ]
      refine wpAnyZ_one (i := 11) (by kernel_rfl) rfl (fun K hK => ?_)
      go_simp
      refine hK.out _ _ (fun h => absurd rfl h) ?_
      refine wpAnyZ_done (by kernel_rfl) ?_ _
      refine NoPanic.normal ?_
      clear hK K
      try simp only [Act.put, List.setIfInBounds_toArray, List.set_cons_zero, List.set_cons_succ]
      go_wp2_with fail
      go_roundg f
      case measure => omega
      case rel => exact ⟨k + 1, _, _, hlt, by omega, rfl, by rw [HTK.out]; exact HO6, HT6, HR6, HB6⟩
    · obtain rfl : k = l.length := by omega
      obtain ⟨⟨⟨e0, e1⟩, e2, e3⟩, ⟨e4, e5⟩, e6, e7⟩ := HT.out.cells
      have ho := HO.out
      rw [List.take_length] at ho
      obtain ⟨A9, c9, e9, hrd⟩ := own_form8 ho
      injection e9 with e9a e9b e9c
      subst e9a e9c
      have HRD9 := Lib.hid hrd
      have HK9 := Lib.hid (kept_set8 (Kept.refl (fun i => i = w.heap.size) wo) (g := w.heap.size) (.inl rfl) (.int .i64 3) (.int .u64 0) (.int .u64 0) (.int .u64 0) (.int .u64 0) (.int .i64 0) (.int .i64 0) (.slice Av l.length cv))
      have HVV := Lib.hid (lit_rxv_many (c := cv) h0 h1 (HRD9.out.keep (G := fun i => w.heap.size ≤ i ∧ i < (set8 wo w.heap.size (.int .i64 3) (.int .u64 0) (.int .u64 0) (.int .u64 0) (.int .u64 0) (.int .i64 0) (.int .i64 0) (.slice Av l.length cv)).heap.size) (fun i hhi hl => HK9.out.block i hl (fun e => by have e' : i = w.heap.size := e; have hh' : w.heap.size + 2 ≤ i := hhi; omega)) HK9.out.size (fun i hhi hl => ⟨by have hh' : w.heap.size + 2 ≤ i := hhi; omega, Nat.lt_of_lt_of_le hl HK9.out.size⟩)))
      clear ho hrd v7
      obtain ⟨⟨⟨c0, c1⟩, c2', c3⟩, ⟨c4, c5⟩, c6, c7⟩ := HR.out.cells
      obtain ⟨⟨⟨z0, z1⟩, z2, z3⟩, ⟨z4, z5⟩, z6, z7⟩ := HR.out.free
      have HF9 := Lib.hid (HR.out.all (.int .i64 3) (.int .u64 0) (.int .u64 0) (.int .u64 0) (.int .u64 0) (.int .i64 0) (.int .i64 0) (.slice Av l.length cv))
      have HB9 := Lib.hid (below_set8 HB.out (Nat.le_refl w.heap.size) (.int .i64 3) (.int .u64 0) (.int .u64 0) (.int .u64 0) (.int .u64 0) (.int .i64 0) (.int .i64 0) (.slice Av l.length cv))
      go_wp2_with fail
      obtain ⟨⟨⟨d0, d1⟩, d2, d3⟩, ⟨d4, d5⟩, d6, d7⟩ := HF9.out.cells
      unfold set8 at d0 d1 d2 d3 d4 d5 d6 d7
      refine bodyPost_ret (v := .agg #[.int .i64 3, .int .u64 0, .int .u64 0, .int .u64 0, .int .u64 0, .int .i64 0, .int .i64 0, .slice Av l.length cv]) (by simp [results, Tryd.results15, go_sem, d0, d1, d2, d3, d4, d5, d6, d7]) rfl ?_
      exact ⟨_, rfl, HVV.out, HB9.out⟩
end Go.Proofs.YtpiagfmjekcncaaDoor
