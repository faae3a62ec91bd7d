/- The walk of the document's formed, at a tree that is formed (printed by gen_gq.py). -/
import Derived.Test.YtpiagfmjekcncaaDoorjGp
set_option linter.unusedVariables false
set_option linter.unusedSimpArgs false
set_option linter.unusedSectionVars false
namespace Go.Proofs.YtpiagfmjekcncaaDoor
open Go.RowKit
mutual
/-- A tree that the document takes for formed. -/
def Rx.fmd : Rx → Prop
  | .node kind m0 m1 m2 m3 lo hi ps => ((kind = 1 ∧ (m0 = 0 ∧ m1 = 0 ∧ m2 = 0 ∧ m3 = 0) ∧ lo = 0 ∧ hi = 0 ∧ ps.length = 0) ∨ (kind = 2 ∧ lo = 0 ∧ hi = 0 ∧ ps.length = 0) ∨ (kind = 3 ∧ (m0 = 0 ∧ m1 = 0 ∧ m2 = 0 ∧ m3 = 0) ∧ lo = 0 ∧ hi = 0 ∧ 2 ≤ ps.length) ∨ (kind = 4 ∧ (m0 = 0 ∧ m1 = 0 ∧ m2 = 0 ∧ m3 = 0) ∧ lo = 0 ∧ hi = 0 ∧ 2 ≤ ps.length) ∨
    (kind = 5 ∧ (m0 = 0 ∧ m1 = 0 ∧ m2 = 0 ∧ m3 = 0) ∧ ps.length = 1 ∧ 0 ≤ lo ∧ lo ≤ 64 ∧ (hi = -1 ∨ (0 ≤ hi ∧ lo ≤ hi ∧ hi ≤ 64)))) ∧ fmdL ps
def fmdL : List Rx → Prop
  | [] => True
  | r :: rs => r.fmd ∧ fmdL rs
end
theorem fmdL_get : ∀ {l : List Rx} {i : Nat} {r : Rx}, fmdL l → l[i]? = some r → r.fmd
  | [], i, r, _, hr => by simp at hr
  | r0 :: rs, i, r, h, hr => by
    unfold fmdL at h
    cases i with
    | zero => simp only [List.getElem?_cons_zero, Option.some.injEq] at hr; subst hr; exact h.1
    | succ i => exact fmdL_get h.2 (by simpa using hr)
/-- The document's package variable of no letters. -/
def NoneAt (w : World) : Prop := 2 < w.heap.size ∧ w.cell? ⟨2, 0, none⟩ = some (.int .u64 0) ∧ w.cell? ⟨2, 1, none⟩ = some (.int .u64 0) ∧ w.cell? ⟨2, 2, none⟩ = some (.int .u64 0) ∧ w.cell? ⟨2, 3, none⟩ = some (.int .u64 0)
theorem NoneAt.below {w w' : World} {B : Nat} (h : NoneAt w) (hb : Below B w w') (hB : 2 < B) : NoneAt w' :=
  ⟨Nat.lt_of_lt_of_le h.1 hb.size, (hb.cell (p := ⟨2, 0, none⟩) hB).trans h.2.1, (hb.cell (p := ⟨2, 1, none⟩) hB).trans h.2.2.1, (hb.cell (p := ⟨2, 2, none⟩) hB).trans h.2.2.2.1, (hb.cell (p := ⟨2, 3, none⟩) hB).trans h.2.2.2.2⟩
@[go_sem] theorem eql_set0 (w : World) : Sem.run Tryd.prog (Op.equalIn 10000 24 (.agg #[.int .u64 0, .int .u64 0, .int .u64 0, .int .u64 0]) (.agg #[.int .u64 0, .int .u64 0, .int .u64 0, .int .u64 0])) w = .ok true w := by kernel_rfl
/-- What is known of the smaller trees. -/
def GfIH (n : Nat) : Prop := ∀ (r : Rx), r.size ≤ n → ∀ (cs : List Value) (w : World) (F : Nat → Prop), RxV w F r cs → (∀ i, F i → i < w.heap.size) → r.fmd → NoneAt w → r.size ≤ 1000000000 →
    Calls Tryd.prog 37 #[.agg cs.toArray] w fun e w' => e = .returned (.bool true) ∧ Below w.heap.size w w'
set_option maxRecDepth 100000 in
set_option maxHeartbeats 8000000 in
theorem gformed1 (n : Nat) (ih : GfIH n)  (ps : List Rx) (hn : (Rx.node 1 0 0 0 0 0 0 ps).size ≤ n + 1) (cs : List Value) (w : World) (F : Nat → Prop) (hv : RxV w F (Rx.node 1 0 0 0 0 0 0 ps) cs) (hF : ∀ i, F i → i < w.heap.size) (hl : ps.length = 0) (htl : fmdL ps) (hN : NoneAt w) (hs : (Rx.node 1 0 0 0 0 0 0 ps).size ≤ 1000000000) :
    Calls Tryd.prog 37 #[.agg cs.toArray] w fun e w' => e = .returned (.bool true) ∧ Below w.heap.size w w' := by
  unfold RxV at hv
  obtain ⟨A, c, css, rfl, hrd, hvs⟩ := hv
  unfold Rx.size at hs
  have HTL := Lib.hid htl
  have HSZ := Lib.hid (show 1 + sizeL ps ≤ n + 1 from hn)
  have HRD := Lib.hid hrd
  have HVS := Lib.hid hvs
  have HF := Lib.hid hF
  have HI := Lib.hid ih
  have HR1 := Lib.hid (show R8 (w.alloc (.cells #[.int .i64 1, .int .u64 0, .int .u64 0, .int .u64 0, .int .u64 0, .int .i64 0, .int .i64 0, .slice A ps.length c] 27)) w.heap.size (.int .i64 1) (.int .u64 0) (.int .u64 0) (.int .u64 0) (.int .u64 0) (.int .i64 0) (.int .i64 0) (.slice A ps.length c) from Blk.new w _ _)
  have HB1 := Lib.hid ((Below.refl w.heap.size w).alloc (Nat.le_refl _) (.cells #[.int .i64 1, .int .u64 0, .int .u64 0, .int .u64 0, .int .u64 0, .int .i64 0, .int .i64 0, .slice A ps.length c] 27))
  have hnl := hN.1
  have HN1 := Lib.hid (hN.below HB1.out hnl)
  have HN0 := Lib.hid hN
  obtain ⟨w1, hw1⟩ : ∃ w1, w1 = w.alloc (.cells #[.int .i64 1, .int .u64 0, .int .u64 0, .int .u64 0, .int .u64 0, .int .i64 0, .int .i64 0, .slice A ps.length c] 27) := ⟨_, rfl⟩
  rw [← hw1] at HR1 HB1 HN1
  have HW1 := Lib.hid hw1
  have hps : ps.length ≤ 1000000000 := by have := sizeL_ge ps; omega
  have HS2 := Lib.hid hs
  clear hrd hvs hF ih hn hw1 htl hN hs
  obtain ⟨nl, hnl'⟩ : ∃ nl, nl = ps.length := ⟨_, rfl⟩
  rw [← hnl'] at HR1 HW1 HRD hps hl ⊢
  have HNL := Lib.hid hnl'
  clear hnl'
  obtain ⟨g0, g1, g2, g3⟩ := HN1.out.2
  obtain ⟨⟨⟨c0, c1⟩, c2, c3⟩, ⟨c4, c5⟩, c6, c7⟩ := HR1.out.cells
  subst hl
  go_enter Tryd.func37, Tryd.ntmps37
  go_upto_region 1 with (fail)
  rw [← HW1.out]
  clear HW1
  go_wp2_with fail
  go_ret
  exact ⟨rfl, HB1.out⟩
set_option maxRecDepth 100000 in
set_option maxHeartbeats 8000000 in
theorem gformed2 (n : Nat) (ih : GfIH n) (m0 m1 m2 m3 : Nat) (ps : List Rx) (hn : (Rx.node 2 m0 m1 m2 m3 0 0 ps).size ≤ n + 1) (cs : List Value) (w : World) (F : Nat → Prop) (hv : RxV w F (Rx.node 2 m0 m1 m2 m3 0 0 ps) cs) (hF : ∀ i, F i → i < w.heap.size) (hl : ps.length = 0) (htl : fmdL ps) (hN : NoneAt w) (hs : (Rx.node 2 m0 m1 m2 m3 0 0 ps).size ≤ 1000000000) :
    Calls Tryd.prog 37 #[.agg cs.toArray] w fun e w' => e = .returned (.bool true) ∧ Below w.heap.size w w' := by
  unfold RxV at hv
  obtain ⟨A, c, css, rfl, hrd, hvs⟩ := hv
  unfold Rx.size at hs
  have HTL := Lib.hid htl
  have HSZ := Lib.hid (show 1 + sizeL ps ≤ n + 1 from hn)
  have HRD := Lib.hid hrd
  have HVS := Lib.hid hvs
  have HF := Lib.hid hF
  have HI := Lib.hid ih
  have HR1 := Lib.hid (show R8 (w.alloc (.cells #[.int .i64 2, .int .u64 m0, .int .u64 m1, .int .u64 m2, .int .u64 m3, .int .i64 0, .int .i64 0, .slice A ps.length c] 27)) w.heap.size (.int .i64 2) (.int .u64 m0) (.int .u64 m1) (.int .u64 m2) (.int .u64 m3) (.int .i64 0) (.int .i64 0) (.slice A ps.length c) from Blk.new w _ _)
  have HB1 := Lib.hid ((Below.refl w.heap.size w).alloc (Nat.le_refl _) (.cells #[.int .i64 2, .int .u64 m0, .int .u64 m1, .int .u64 m2, .int .u64 m3, .int .i64 0, .int .i64 0, .slice A ps.length c] 27))
  have hnl := hN.1
  have HN1 := Lib.hid (hN.below HB1.out hnl)
  have HN0 := Lib.hid hN
  obtain ⟨w1, hw1⟩ : ∃ w1, w1 = w.alloc (.cells #[.int .i64 2, .int .u64 m0, .int .u64 m1, .int .u64 m2, .int .u64 m3, .int .i64 0, .int .i64 0, .slice A ps.length c] 27) := ⟨_, rfl⟩
  rw [← hw1] at HR1 HB1 HN1
  have HW1 := Lib.hid hw1
  have hps : ps.length ≤ 1000000000 := by have := sizeL_ge ps; omega
  have HS2 := Lib.hid hs
  clear hrd hvs hF ih hn hw1 htl hN hs
  obtain ⟨nl, hnl'⟩ : ∃ nl, nl = ps.length := ⟨_, rfl⟩
  rw [← hnl'] at HR1 HW1 HRD hps hl ⊢
  have HNL := Lib.hid hnl'
  clear hnl'
  obtain ⟨g0, g1, g2, g3⟩ := HN1.out.2
  obtain ⟨⟨⟨c0, c1⟩, c2, c3⟩, ⟨c4, c5⟩, c6, c7⟩ := HR1.out.cells
  subst hl
  go_enter Tryd.func37, Tryd.ntmps37
  go_upto_region 1 with (fail)
  rw [← HW1.out]
  clear HW1
  go_wp2_with fail
  go_ret
  exact ⟨rfl, HB1.out⟩
set_option maxRecDepth 100000 in
set_option maxHeartbeats 8000000 in
theorem gformed3 (n : Nat) (ih : GfIH n)  (ps : List Rx) (hn : (Rx.node 3 0 0 0 0 0 0 ps).size ≤ n + 1) (cs : List Value) (w : World) (F : Nat → Prop) (hv : RxV w F (Rx.node 3 0 0 0 0 0 0 ps) cs) (hF : ∀ i, F i → i < w.heap.size) (h2 : 2 ≤ ps.length) (htl : fmdL ps) (hN : NoneAt w) (hs : (Rx.node 3 0 0 0 0 0 0 ps).size ≤ 1000000000) :
    Calls Tryd.prog 37 #[.agg cs.toArray] w fun e w' => e = .returned (.bool true) ∧ Below w.heap.size w w' := by
  unfold RxV at hv
  obtain ⟨A, c, css, rfl, hrd, hvs⟩ := hv
  unfold Rx.size at hs
  have HTL := Lib.hid htl
  have HSZ := Lib.hid (show 1 + sizeL ps ≤ n + 1 from hn)
  have HRD := Lib.hid hrd
  have HVS := Lib.hid hvs
  have HF := Lib.hid hF
  have HI := Lib.hid ih
  have HR1 := Lib.hid (show R8 (w.alloc (.cells #[.int .i64 3, .int .u64 0, .int .u64 0, .int .u64 0, .int .u64 0, .int .i64 0, .int .i64 0, .slice A ps.length c] 27)) w.heap.size (.int .i64 3) (.int .u64 0) (.int .u64 0) (.int .u64 0) (.int .u64 0) (.int .i64 0) (.int .i64 0) (.slice A ps.length c) from Blk.new w _ _)
  have HB1 := Lib.hid ((Below.refl w.heap.size w).alloc (Nat.le_refl _) (.cells #[.int .i64 3, .int .u64 0, .int .u64 0, .int .u64 0, .int .u64 0, .int .i64 0, .int .i64 0, .slice A ps.length c] 27))
  have hnl := hN.1
  have HN1 := Lib.hid (hN.below HB1.out hnl)
  have HN0 := Lib.hid hN
  obtain ⟨w1, hw1⟩ : ∃ w1, w1 = w.alloc (.cells #[.int .i64 3, .int .u64 0, .int .u64 0, .int .u64 0, .int .u64 0, .int .i64 0, .int .i64 0, .slice A ps.length c] 27) := ⟨_, rfl⟩
  rw [← hw1] at HR1 HB1 HN1
  have HW1 := Lib.hid hw1
  have hps : ps.length ≤ 1000000000 := by have := sizeL_ge ps; omega
  have HS2 := Lib.hid hs
  clear hrd hvs hF ih hn hw1 htl hN hs
  obtain ⟨nl, hnl'⟩ : ∃ nl, nl = ps.length := ⟨_, rfl⟩
  rw [← hnl'] at HR1 HW1 HRD hps h2 ⊢
  have HNL := Lib.hid hnl'
  clear hnl'
  obtain ⟨g0, g1, g2, g3⟩ := HN1.out.2
  obtain ⟨⟨⟨c0, c1⟩, c2, c3⟩, ⟨c4, c5⟩, c6, c7⟩ := HR1.out.cells
  have e1 : decide ((nl : Int) < 2) = false := decide_eq_false (by omega)
  go_enter Tryd.func37, Tryd.ntmps37
  go_upto_region 1 with (fail)
  rw [← HW1.out]
  clear HW1
  go_upto_block 0 with (fail)
  go_cut [] (fun wc => w1 = wc)
  case first =>
    go_wp2_with fail
    go_meet
    case rel => rfl
  case rest =>
    obtain rfl := hcut
    clear g0 g1 g2 g3 c0 c1 c2 c3 c4 c5 c6 c7
    go_wp2_with fail
    go_loopg [3] (nl + 1) (fun f i wr => ∃ k : Nat, k ≤ nl ∧ nl < k + f ∧ i = .int .i64 k ∧ Hid (Below w.heap.size w wr) ∧ Hid (R8 wr w.heap.size (.int .i64 3) (.int .u64 0) (.int .u64 0) (.int .u64 0) (.int .u64 0) (.int .i64 0) (.int .i64 0) (.slice A nl c)))
    case atStart => exact ⟨0, Nat.zero_le _, by omega, rfl, HB1, HR1⟩
    case round =>
      clear HB1 HR1
      obtain ⟨k, hk, hkf, rfl, HB, HR⟩ := hrel
      obtain ⟨f, rfl⟩ : ∃ f, gk = f + 1 := ⟨gk - 1, by omega⟩
      obtain ⟨⟨⟨c0, c1⟩, c2, c3⟩, ⟨c4, c5⟩, c6, c7⟩ := HR.out.cells
      obtain ⟨wo, hwo⟩ : ∃ wo, wo = wr := ⟨_, rfl⟩
      subst hwo
      by_cases hlt : k < nl
      · obtain ⟨x, hx⟩ : ∃ x, ps[k]? = some x := ⟨_, List.getElem?_eq_getElem (by rw [← HNL.out]; exact hlt)⟩
        obtain ⟨cx, hvx, hcx⟩ := HVS.out.get k x hx
        obtain ⟨b', o', rfl, hFb, hbb, hcc⟩ := HRD.out.2 (by omega)
        have hszx := sizeL_take ps k x hx
        have hszle := sizeL_le ps (k + 1)
        have hsz := HSZ.out
        have hvr := hvx.kept (Kept.of_below (F := fun _ => False) HB.out) (fun _ _ _ => id) (fun i hi _ => hi)
        obtain ⟨kd, a0, a1, a2, a3, lo', hi', A', n', c', rfl⟩ := hvx.eight
        have hAx : ∀ j u, [Value.int .i64 kd, .int .u64 a0, .int .u64 a1, .int .u64 a2, .int .u64 a3, .int .i64 lo', .int .i64 hi', .slice A' n' c'][j]? = some u → wo.cell? ⟨b', o' + k * 8 + j, none⟩ = some u := fun j u hu => by
          have := hcc (k * 8 + j) u (hcx j u hu)
          rw [show o' + k * 8 + j = o' + (k * 8 + j) by omega]
          exact (HB.out.cell (p := ⟨b', o' + (k * 8 + j), none⟩) hbb).trans this
        have y0 := hAx 0 _ rfl
        have y1 := hAx 1 _ rfl
        have y2 := hAx 2 _ rfl
        have y3 := hAx 3 _ rfl
        have y4 := hAx 4 _ rfl
        have y5 := hAx 5 _ rfl
        have y6 := hAx 6 _ rfl
        have y7 := hAx 7 _ rfl
        rw [Nat.add_zero] at y0
        have HC := Lib.hid (HI.out x (by omega) _ wo F hvr (fun i hi => Nat.lt_of_lt_of_le (HF.out i hi) HB.out.size) (fmdL_get HTL.out hx) (HN0.out.below HB.out hnl) (by have := HS2.out; omega))
        clear hx hvx hcx hcc hvr hAx hszx hszle hsz
        go_wp2_with fail
        refine HC.out.mono ?_
        rintro ee w2 ⟨rfl, hb2⟩
        have HB2 := Lib.hid (HB.out.trans (hb2.mono HB.out.size))
        have HR2 := Lib.hid (HR.out.below hb2 HR.out.lt)
        clear hb2 HC HB HR c0 c1 c2 c3 c4 c5 c6 c7 y0 y1 y2 y3 y4 y5 y6 y7
        go_wp2_with fail
        go_roundg f
        case measure => omega
        case rel => exact ⟨k + 1, hlt, by omega, rfl, HB2, HR2⟩
      · obtain rfl : k = nl := by omega
        go_wp2_with fail
        go_ret
        exact ⟨rfl, HB.out⟩
set_option maxRecDepth 100000 in
set_option maxHeartbeats 8000000 in
theorem gformed4 (n : Nat) (ih : GfIH n)  (ps : List Rx) (hn : (Rx.node 4 0 0 0 0 0 0 ps).size ≤ n + 1) (cs : List Value) (w : World) (F : Nat → Prop) (hv : RxV w F (Rx.node 4 0 0 0 0 0 0 ps) cs) (hF : ∀ i, F i → i < w.heap.size) (h2 : 2 ≤ ps.length) (htl : fmdL ps) (hN : NoneAt w) (hs : (Rx.node 4 0 0 0 0 0 0 ps).size ≤ 1000000000) :
    Calls Tryd.prog 37 #[.agg cs.toArray] w fun e w' => e = .returned (.bool true) ∧ Below w.heap.size w w' := by
  unfold RxV at hv
  obtain ⟨A, c, css, rfl, hrd, hvs⟩ := hv
  unfold Rx.size at hs
  have HTL := Lib.hid htl
  have HSZ := Lib.hid (show 1 + sizeL ps ≤ n + 1 from hn)
  have HRD := Lib.hid hrd
  have HVS := Lib.hid hvs
  have HF := Lib.hid hF
  have HI := Lib.hid ih
  have HR1 := Lib.hid (show R8 (w.alloc (.cells #[.int .i64 4, .int .u64 0, .int .u64 0, .int .u64 0, .int .u64 0, .int .i64 0, .int .i64 0, .slice A ps.length c] 27)) w.heap.size (.int .i64 4) (.int .u64 0) (.int .u64 0) (.int .u64 0) (.int .u64 0) (.int .i64 0) (.int .i64 0) (.slice A ps.length c) from Blk.new w _ _)
  have HB1 := Lib.hid ((Below.refl w.heap.size w).alloc (Nat.le_refl _) (.cells #[.int .i64 4, .int .u64 0, .int .u64 0, .int .u64 0, .int .u64 0, .int .i64 0, .int .i64 0, .slice A ps.length c] 27))
  have hnl := hN.1
  have HN1 := Lib.hid (hN.below HB1.out hnl)
  have HN0 := Lib.hid hN
  obtain ⟨w1, hw1⟩ : ∃ w1, w1 = w.alloc (.cells #[.int .i64 4, .int .u64 0, .int .u64 0, .int .u64 0, .int .u64 0, .int .i64 0, .int .i64 0, .slice A ps.length c] 27) := ⟨_, rfl⟩
  rw [← hw1] at HR1 HB1 HN1
  have HW1 := Lib.hid hw1
  have hps : ps.length ≤ 1000000000 := by have := sizeL_ge ps; omega
  have HS2 := Lib.hid hs
  clear hrd hvs hF ih hn hw1 htl hN hs
  obtain ⟨nl, hnl'⟩ : ∃ nl, nl = ps.length := ⟨_, rfl⟩
  rw [← hnl'] at HR1 HW1 HRD hps h2 ⊢
  have HNL := Lib.hid hnl'
  clear hnl'
  obtain ⟨g0, g1, g2, g3⟩ := HN1.out.2
  obtain ⟨⟨⟨c0, c1⟩, c2, c3⟩, ⟨c4, c5⟩, c6, c7⟩ := HR1.out.cells
  have e1 : decide ((nl : Int) < 2) = false := decide_eq_false (by omega)
  go_enter Tryd.func37, Tryd.ntmps37
  go_upto_region 1 with (fail)
  rw [← HW1.out]
  clear HW1
  go_upto_block 0 with (fail)
  go_cut [] (fun wc => w1 = wc)
  case first =>
    go_wp2_with fail
    go_meet
    case rel => rfl
  case rest =>
    obtain rfl := hcut
    clear g0 g1 g2 g3 c0 c1 c2 c3 c4 c5 c6 c7
    go_wp2_with fail
    go_loopg [3] (nl + 1) (fun f i wr => ∃ k : Nat, k ≤ nl ∧ nl < k + f ∧ i = .int .i64 k ∧ Hid (Below w.heap.size w wr) ∧ Hid (R8 wr w.heap.size (.int .i64 4) (.int .u64 0) (.int .u64 0) (.int .u64 0) (.int .u64 0) (.int .i64 0) (.int .i64 0) (.slice A nl c)))
    case atStart => exact ⟨0, Nat.zero_le _, by omega, rfl, HB1, HR1⟩
    case round =>
      clear HB1 HR1
      obtain ⟨k, hk, hkf, rfl, HB, HR⟩ := hrel
      obtain ⟨f, rfl⟩ : ∃ f, gk = f + 1 := ⟨gk - 1, by omega⟩
      obtain ⟨⟨⟨c0, c1⟩, c2, c3⟩, ⟨c4, c5⟩, c6, c7⟩ := HR.out.cells
      obtain ⟨wo, hwo⟩ : ∃ wo, wo = wr := ⟨_, rfl⟩
      subst hwo
      by_cases hlt : k < nl
      · obtain ⟨x, hx⟩ : ∃ x, ps[k]? = some x := ⟨_, List.getElem?_eq_getElem (by rw [← HNL.out]; exact hlt)⟩
        obtain ⟨cx, hvx, hcx⟩ := HVS.out.get k x hx
        obtain ⟨b', o', rfl, hFb, hbb, hcc⟩ := HRD.out.2 (by omega)
        have hszx := sizeL_take ps k x hx
        have hszle := sizeL_le ps (k + 1)
        have hsz := HSZ.out
        have hvr := hvx.kept (Kept.of_below (F := fun _ => False) HB.out) (fun _ _ _ => id) (fun i hi _ => hi)
        obtain ⟨kd, a0, a1, a2, a3, lo', hi', A', n', c', rfl⟩ := hvx.eight
        have hAx : ∀ j u, [Value.int .i64 kd, .int .u64 a0, .int .u64 a1, .int .u64 a2, .int .u64 a3, .int .i64 lo', .int .i64 hi', .slice A' n' c'][j]? = some u → wo.cell? ⟨b', o' + k * 8 + j, none⟩ = some u := fun j u hu => by
          have := hcc (k * 8 + j) u (hcx j u hu)
          rw [show o' + k * 8 + j = o' + (k * 8 + j) by omega]
          exact (HB.out.cell (p := ⟨b', o' + (k * 8 + j), none⟩) hbb).trans this
        have y0 := hAx 0 _ rfl
        have y1 := hAx 1 _ rfl
        have y2 := hAx 2 _ rfl
        have y3 := hAx 3 _ rfl
        have y4 := hAx 4 _ rfl
        have y5 := hAx 5 _ rfl
        have y6 := hAx 6 _ rfl
        have y7 := hAx 7 _ rfl
        rw [Nat.add_zero] at y0
        have HC := Lib.hid (HI.out x (by omega) _ wo F hvr (fun i hi => Nat.lt_of_lt_of_le (HF.out i hi) HB.out.size) (fmdL_get HTL.out hx) (HN0.out.below HB.out hnl) (by have := HS2.out; omega))
        clear hx hvx hcx hcc hvr hAx hszx hszle hsz
        go_wp2_with fail
        refine HC.out.mono ?_
        rintro ee w2 ⟨rfl, hb2⟩
        have HB2 := Lib.hid (HB.out.trans (hb2.mono HB.out.size))
        have HR2 := Lib.hid (HR.out.below hb2 HR.out.lt)
        clear hb2 HC HB HR c0 c1 c2 c3 c4 c5 c6 c7 y0 y1 y2 y3 y4 y5 y6 y7
        go_wp2_with fail
        go_roundg f
        case measure => omega
        case rel => exact ⟨k + 1, hlt, by omega, rfl, HB2, HR2⟩
      · obtain rfl : k = nl := by omega
        go_wp2_with fail
        go_ret
        exact ⟨rfl, HB.out⟩
set_option maxRecDepth 100000 in
set_option maxHeartbeats 8000000 in
theorem gformed5 (n : Nat) (ih : GfIH n) (lo : Int) (ps : List Rx) (hn : (Rx.node 5 0 0 0 0 lo (-1) ps).size ≤ n + 1) (cs : List Value) (w : World) (F : Nat → Prop) (hv : RxV w F (Rx.node 5 0 0 0 0 lo (-1) ps) cs) (hF : ∀ i, F i → i < w.heap.size) (h2 : ps.length = 1) (h3 : 0 ≤ lo) (h4 : lo ≤ 64) (htl : fmdL ps) (hN : NoneAt w) (hs : (Rx.node 5 0 0 0 0 lo (-1) ps).size ≤ 1000000000) :
    Calls Tryd.prog 37 #[.agg cs.toArray] w fun e w' => e = .returned (.bool true) ∧ Below w.heap.size w w' := by
  unfold RxV at hv
  obtain ⟨A, c, css, rfl, hrd, hvs⟩ := hv
  unfold Rx.size at hs
  have HTL := Lib.hid htl
  have HSZ := Lib.hid (show 1 + sizeL ps ≤ n + 1 from hn)
  have HRD := Lib.hid hrd
  have HVS := Lib.hid hvs
  have HF := Lib.hid hF
  have HI := Lib.hid ih
  have HR1 := Lib.hid (show R8 (w.alloc (.cells #[.int .i64 5, .int .u64 0, .int .u64 0, .int .u64 0, .int .u64 0, .int .i64 lo, .int .i64 (-1), .slice A ps.length c] 27)) w.heap.size (.int .i64 5) (.int .u64 0) (.int .u64 0) (.int .u64 0) (.int .u64 0) (.int .i64 lo) (.int .i64 (-1)) (.slice A ps.length c) from Blk.new w _ _)
  have HB1 := Lib.hid ((Below.refl w.heap.size w).alloc (Nat.le_refl _) (.cells #[.int .i64 5, .int .u64 0, .int .u64 0, .int .u64 0, .int .u64 0, .int .i64 lo, .int .i64 (-1), .slice A ps.length c] 27))
  have hnl := hN.1
  have HN1 := Lib.hid (hN.below HB1.out hnl)
  have HN0 := Lib.hid hN
  obtain ⟨w1, hw1⟩ : ∃ w1, w1 = w.alloc (.cells #[.int .i64 5, .int .u64 0, .int .u64 0, .int .u64 0, .int .u64 0, .int .i64 lo, .int .i64 (-1), .slice A ps.length c] 27) := ⟨_, rfl⟩
  rw [← hw1] at HR1 HB1 HN1
  have HW1 := Lib.hid hw1
  have hps : ps.length ≤ 1000000000 := by have := sizeL_ge ps; omega
  have HS2 := Lib.hid hs
  clear hrd hvs hF ih hn hw1 htl hN hs
  obtain ⟨nl, hnl'⟩ : ∃ nl, nl = ps.length := ⟨_, rfl⟩
  rw [← hnl'] at HR1 HW1 HRD hps h2 ⊢
  have HNL := Lib.hid hnl'
  clear hnl'
  obtain ⟨g0, g1, g2, g3⟩ := HN1.out.2
  obtain ⟨⟨⟨c0, c1⟩, c2, c3⟩, ⟨c4, c5⟩, c6, c7⟩ := HR1.out.cells
  have e0 : ((nl : Int) != 1) = false := by simp; omega
  have e0b : ((nl : Int) == 1) = true := by simp; omega
  have h2a : 1 ≤ nl := by omega
  have h2b : nl ≤ 1 := by omega
  clear h2
  have e1 : decide (lo < 0) = false := decide_eq_false (by omega)
  have e2 : decide (64 < lo) = false := decide_eq_false (by omega)
  go_enter Tryd.func37, Tryd.ntmps37
  go_upto_region 1 with (fail)
  rw [← HW1.out]
  clear HW1
  go_upto_block 0 with (fail)
  go_cut [] (fun wc => w1 = wc)
  case first =>
    go_wp2_with fail
    go_meet
    case rel => rfl
  case rest =>
    obtain rfl := hcut
    clear g0 g1 g2 g3 c0 c1 c2 c3 c4 c5 c6 c7
    go_wp2_with fail
    go_loopg [3] (nl + 1) (fun f i wr => ∃ k : Nat, k ≤ nl ∧ nl < k + f ∧ i = .int .i64 k ∧ Hid (Below w.heap.size w wr) ∧ Hid (R8 wr w.heap.size (.int .i64 5) (.int .u64 0) (.int .u64 0) (.int .u64 0) (.int .u64 0) (.int .i64 lo) (.int .i64 (-1)) (.slice A nl c)))
    case atStart => exact ⟨0, Nat.zero_le _, by omega, rfl, HB1, HR1⟩
    case round =>
      clear HB1 HR1
      obtain ⟨k, hk, hkf, rfl, HB, HR⟩ := hrel
      obtain ⟨f, rfl⟩ : ∃ f, gk = f + 1 := ⟨gk - 1, by omega⟩
      obtain ⟨⟨⟨c0, c1⟩, c2, c3⟩, ⟨c4, c5⟩, c6, c7⟩ := HR.out.cells
      obtain ⟨wo, hwo⟩ : ∃ wo, wo = wr := ⟨_, rfl⟩
      subst hwo
      by_cases hlt : k < nl
      · obtain ⟨x, hx⟩ : ∃ x, ps[k]? = some x := ⟨_, List.getElem?_eq_getElem (by rw [← HNL.out]; exact hlt)⟩
        obtain ⟨cx, hvx, hcx⟩ := HVS.out.get k x hx
        obtain ⟨b', o', rfl, hFb, hbb, hcc⟩ := HRD.out.2 (by omega)
        have hszx := sizeL_take ps k x hx
        have hszle := sizeL_le ps (k + 1)
        have hsz := HSZ.out
        have hvr := hvx.kept (Kept.of_below (F := fun _ => False) HB.out) (fun _ _ _ => id) (fun i hi _ => hi)
        obtain ⟨kd, a0, a1, a2, a3, lo', hi', A', n', c', rfl⟩ := hvx.eight
        have hAx : ∀ j u, [Value.int .i64 kd, .int .u64 a0, .int .u64 a1, .int .u64 a2, .int .u64 a3, .int .i64 lo', .int .i64 hi', .slice A' n' c'][j]? = some u → wo.cell? ⟨b', o' + k * 8 + j, none⟩ = some u := fun j u hu => by
          have := hcc (k * 8 + j) u (hcx j u hu)
          rw [show o' + k * 8 + j = o' + (k * 8 + j) by omega]
          exact (HB.out.cell (p := ⟨b', o' + (k * 8 + j), none⟩) hbb).trans this
        have y0 := hAx 0 _ rfl
        have y1 := hAx 1 _ rfl
        have y2 := hAx 2 _ rfl
        have y3 := hAx 3 _ rfl
        have y4 := hAx 4 _ rfl
        have y5 := hAx 5 _ rfl
        have y6 := hAx 6 _ rfl
        have y7 := hAx 7 _ rfl
        rw [Nat.add_zero] at y0
        have HC := Lib.hid (HI.out x (by omega) _ wo F hvr (fun i hi => Nat.lt_of_lt_of_le (HF.out i hi) HB.out.size) (fmdL_get HTL.out hx) (HN0.out.below HB.out hnl) (by have := HS2.out; omega))
        clear hx hvx hcx hcc hvr hAx hszx hszle hsz
        go_wp2_with fail
        refine HC.out.mono ?_
        rintro ee w2 ⟨rfl, hb2⟩
        have HB2 := Lib.hid (HB.out.trans (hb2.mono HB.out.size))
        have HR2 := Lib.hid (HR.out.below hb2 HR.out.lt)
        clear hb2 HC HB HR c0 c1 c2 c3 c4 c5 c6 c7 y0 y1 y2 y3 y4 y5 y6 y7
        go_wp2_with fail
        go_roundg f
        case measure => omega
        case rel => exact ⟨k + 1, hlt, by omega, rfl, HB2, HR2⟩
      · obtain rfl : k = nl := by omega
        go_wp2_with fail
        go_ret
        exact ⟨rfl, HB.out⟩
set_option maxRecDepth 100000 in
set_option maxHeartbeats 8000000 in
theorem gformed6 (n : Nat) (ih : GfIH n) (lo hi : Int) (ps : List Rx) (hn : (Rx.node 5 0 0 0 0 lo hi ps).size ≤ n + 1) (cs : List Value) (w : World) (F : Nat → Prop) (hv : RxV w F (Rx.node 5 0 0 0 0 lo hi ps) cs) (hF : ∀ i, F i → i < w.heap.size) (h2 : ps.length = 1) (h3 : 0 ≤ lo) (h4 : lo ≤ 64) (h6 : 0 ≤ hi) (h7 : lo ≤ hi) (h8 : hi ≤ 64) (htl : fmdL ps) (hN : NoneAt w) (hs : (Rx.node 5 0 0 0 0 lo hi ps).size ≤ 1000000000) :
    Calls Tryd.prog 37 #[.agg cs.toArray] w fun e w' => e = .returned (.bool true) ∧ Below w.heap.size w w' := by
  unfold RxV at hv
  obtain ⟨A, c, css, rfl, hrd, hvs⟩ := hv
  unfold Rx.size at hs
  have HTL := Lib.hid htl
  have HSZ := Lib.hid (show 1 + sizeL ps ≤ n + 1 from hn)
  have HRD := Lib.hid hrd
  have HVS := Lib.hid hvs
  have HF := Lib.hid hF
  have HI := Lib.hid ih
  have HR1 := Lib.hid (show R8 (w.alloc (.cells #[.int .i64 5, .int .u64 0, .int .u64 0, .int .u64 0, .int .u64 0, .int .i64 lo, .int .i64 hi, .slice A ps.length c] 27)) w.heap.size (.int .i64 5) (.int .u64 0) (.int .u64 0) (.int .u64 0) (.int .u64 0) (.int .i64 lo) (.int .i64 hi) (.slice A ps.length c) from Blk.new w _ _)
  have HB1 := Lib.hid ((Below.refl w.heap.size w).alloc (Nat.le_refl _) (.cells #[.int .i64 5, .int .u64 0, .int .u64 0, .int .u64 0, .int .u64 0, .int .i64 lo, .int .i64 hi, .slice A ps.length c] 27))
  have hnl := hN.1
  have HN1 := Lib.hid (hN.below HB1.out hnl)
  have HN0 := Lib.hid hN
  obtain ⟨w1, hw1⟩ : ∃ w1, w1 = w.alloc (.cells #[.int .i64 5, .int .u64 0, .int .u64 0, .int .u64 0, .int .u64 0, .int .i64 lo, .int .i64 hi, .slice A ps.length c] 27) := ⟨_, rfl⟩
  rw [← hw1] at HR1 HB1 HN1
  have HW1 := Lib.hid hw1
  have hps : ps.length ≤ 1000000000 := by have := sizeL_ge ps; omega
  have HS2 := Lib.hid hs
  clear hrd hvs hF ih hn hw1 htl hN hs
  obtain ⟨nl, hnl'⟩ : ∃ nl, nl = ps.length := ⟨_, rfl⟩
  rw [← hnl'] at HR1 HW1 HRD hps h2 ⊢
  have HNL := Lib.hid hnl'
  clear hnl'
  obtain ⟨g0, g1, g2, g3⟩ := HN1.out.2
  obtain ⟨⟨⟨c0, c1⟩, c2, c3⟩, ⟨c4, c5⟩, c6, c7⟩ := HR1.out.cells
  have e0 : ((nl : Int) != 1) = false := by simp; omega
  have e0b : ((nl : Int) == 1) = true := by simp; omega
  have h2a : 1 ≤ nl := by omega
  have h2b : nl ≤ 1 := by omega
  clear h2
  have e1 : decide (lo < 0) = false := decide_eq_false (by omega)
  have e2 : decide (64 < lo) = false := decide_eq_false (by omega)
  have e3 : (hi != -1) = true := by simp; omega
  have e4 : decide (hi < lo) = false := decide_eq_false (by omega)
  have e5 : decide (64 < hi) = false := decide_eq_false (by omega)
  go_enter Tryd.func37, Tryd.ntmps37
  go_upto_region 1 with (fail)
  rw [← HW1.out]
  clear HW1
  go_upto_block 0 with (fail)
  go_cut [] (fun wc => w1 = wc)
  case first =>
    go_wp2_with fail
    go_meet
    case rel => rfl
  case rest =>
    obtain rfl := hcut
    clear g0 g1 g2 g3 c0 c1 c2 c3 c4 c5 c6 c7
    go_wp2_with fail
    go_loopg [3] (nl + 1) (fun f i wr => ∃ k : Nat, k ≤ nl ∧ nl < k + f ∧ i = .int .i64 k ∧ Hid (Below w.heap.size w wr) ∧ Hid (R8 wr w.heap.size (.int .i64 5) (.int .u64 0) (.int .u64 0) (.int .u64 0) (.int .u64 0) (.int .i64 lo) (.int .i64 hi) (.slice A nl c)))
    case atStart => exact ⟨0, Nat.zero_le _, by omega, rfl, HB1, HR1⟩
    case round =>
      clear HB1 HR1
      obtain ⟨k, hk, hkf, rfl, HB, HR⟩ := hrel
      obtain ⟨f, rfl⟩ : ∃ f, gk = f + 1 := ⟨gk - 1, by omega⟩
      obtain ⟨⟨⟨c0, c1⟩, c2, c3⟩, ⟨c4, c5⟩, c6, c7⟩ := HR.out.cells
      obtain ⟨wo, hwo⟩ : ∃ wo, wo = wr := ⟨_, rfl⟩
      subst hwo
      by_cases hlt : k < nl
      · obtain ⟨x, hx⟩ : ∃ x, ps[k]? = some x := ⟨_, List.getElem?_eq_getElem (by rw [← HNL.out]; exact hlt)⟩
        obtain ⟨cx, hvx, hcx⟩ := HVS.out.get k x hx
        obtain ⟨b', o', rfl, hFb, hbb, hcc⟩ := HRD.out.2 (by omega)
        have hszx := sizeL_take ps k x hx
        have hszle := sizeL_le ps (k + 1)
        have hsz := HSZ.out
        have hvr := hvx.kept (Kept.of_below (F := fun _ => False) HB.out) (fun _ _ _ => id) (fun i hi _ => hi)
        obtain ⟨kd, a0, a1, a2, a3, lo', hi', A', n', c', rfl⟩ := hvx.eight
        have hAx : ∀ j u, [Value.int .i64 kd, .int .u64 a0, .int .u64 a1, .int .u64 a2, .int .u64 a3, .int .i64 lo', .int .i64 hi', .slice A' n' c'][j]? = some u → wo.cell? ⟨b', o' + k * 8 + j, none⟩ = some u := fun j u hu => by
          have := hcc (k * 8 + j) u (hcx j u hu)
          rw [show o' + k * 8 + j = o' + (k * 8 + j) by omega]
          exact (HB.out.cell (p := ⟨b', o' + (k * 8 + j), none⟩) hbb).trans this
        have y0 := hAx 0 _ rfl
        have y1 := hAx 1 _ rfl
        have y2 := hAx 2 _ rfl
        have y3 := hAx 3 _ rfl
        have y4 := hAx 4 _ rfl
        have y5 := hAx 5 _ rfl
        have y6 := hAx 6 _ rfl
        have y7 := hAx 7 _ rfl
        rw [Nat.add_zero] at y0
        have HC := Lib.hid (HI.out x (by omega) _ wo F hvr (fun i hi => Nat.lt_of_lt_of_le (HF.out i hi) HB.out.size) (fmdL_get HTL.out hx) (HN0.out.below HB.out hnl) (by have := HS2.out; omega))
        clear hx hvx hcx hcc hvr hAx hszx hszle hsz
        go_wp2_with fail
        refine HC.out.mono ?_
        rintro ee w2 ⟨rfl, hb2⟩
        have HB2 := Lib.hid (HB.out.trans (hb2.mono HB.out.size))
        have HR2 := Lib.hid (HR.out.below hb2 HR.out.lt)
        clear hb2 HC HB HR c0 c1 c2 c3 c4 c5 c6 c7 y0 y1 y2 y3 y4 y5 y6 y7
        go_wp2_with fail
        go_roundg f
        case measure => omega
        case rel => exact ⟨k + 1, hlt, by omega, rfl, HB2, HR2⟩
      · obtain rfl : k = nl := by omega
        go_wp2_with fail
        go_ret
        exact ⟨rfl, HB.out⟩
theorem gformed_any : ∀ (n : Nat), GfIH n
  | 0, r, hn, _, _, _, _, _, _, _, _ => by have := r.size_pos; omega
  | n + 1, .node kind m0 m1 m2 m3 lo hi ps, hn, cs, w, F, hv, hF, ht, hN, hs => by
    have ih := gformed_any n
    unfold Rx.fmd at ht
    obtain ⟨hk, htl⟩ := ht
    rcases hk with ⟨rfl, ⟨rfl, rfl, rfl, rfl⟩, rfl, rfl, h1⟩ | ⟨rfl, rfl, rfl, h1⟩ | ⟨rfl, ⟨rfl, rfl, rfl, rfl⟩, rfl, rfl, h1⟩ | ⟨rfl, ⟨rfl, rfl, rfl, rfl⟩, rfl, rfl, h1⟩ | ⟨rfl, ⟨rfl, rfl, rfl, rfl⟩, h2, h3, h4, rfl | ⟨h6, h7, h8⟩⟩
    · exact gformed1 n ih ps hn cs w F hv hF h1 htl hN hs
    · exact gformed2 n ih _ _ _ _ ps hn cs w F hv hF h1 htl hN hs
    · exact gformed3 n ih ps hn cs w F hv hF h1 htl hN hs
    · exact gformed4 n ih ps hn cs w F hv hF h1 htl hN hs
    · exact gformed5 n ih _ ps hn cs w F hv hF h2 h3 h4 htl hN hs
    · exact gformed6 n ih _ _ ps hn cs w F hv hF h2 h3 h4 h6 h7 h8 htl hN hs
end Go.Proofs.YtpiagfmjekcncaaDoor
