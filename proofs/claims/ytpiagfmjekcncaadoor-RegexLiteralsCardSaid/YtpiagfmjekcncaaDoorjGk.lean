/- The walk of the document's bracket class (printed by gen_gk.py). -/
import Derived.Test.YtpiagfmjekcncaaDoorjGj
import Derived.Test.YtpiagfmjekcncaaDoorjGc
set_option linter.unusedVariables false
set_option linter.unusedSimpArgs false
set_option linter.unusedSectionVars false
namespace Go.Proofs.YtpiagfmjekcncaaDoor
open Go.RowKit
def grg (a b : Nat) : Nat → Prop := fun i => a ≤ i ∧ i < b
/-- A part of the document's parser has returned a tree. -/
def GTEnd (T : List UInt8) (w : World) (g : Nat) (r : Rx × Nat × Bool) (e : Ending) (w' : World) : Prop := ∃ cs, e = .returned (.agg cs.toArray) ∧ RxV w' (grg w.heap.size w'.heap.size) r.1 cs ∧ GS T w' g r.2.1 r.2.2 ∧ Kept (isG g) w w'
theorem gset_rxv (w : World) (F : Nat → Prop) (S : LS) : RxV w F (Rx.set S) [.int .i64 2, .int .u64 (wd S 0), .int .u64 (wd S 1), .int .u64 (wd S 2), .int .u64 (wd S 3), .int .i64 0, .int .i64 0, .slice none 0 0] := by
  unfold Rx.set RxV RxVs
  exact ⟨none, 0, [], rfl, ⟨rfl, fun h => absurd h (by simp)⟩, rfl⟩
theorem gzero_rxv (w : World) (F : Nat → Prop) : RxV w F Gr.zeroR [.int .i64 0, .int .u64 0, .int .u64 0, .int .u64 0, .int .u64 0, .int .i64 0, .int .i64 0, .slice none 0 0] := by
  unfold Gr.zeroR RxV RxVs
  exact ⟨none, 0, [], rfl, ⟨rfl, fun h => absurd h (by simp)⟩, rfl⟩
theorem gr_cls_none {T : List UInt8} {k F : Nat} (hF : F = if T[k + 1]? = some 94 then k + 2 else k + 1) (h : endP T (T.length + 1) F = none) : Gr.cls T k = (Gr.zeroR, k, true) := by
  subst hF
  unfold Gr.cls
  dsimp only
  rw [h]
theorem gr_cls_some {T : List UInt8} {k F e : Nat} (hF : F = if T[k + 1]? = some 94 then k + 2 else k + 1) (h : endP T (T.length + 1) F = some e) : Gr.cls T k = match lsP (e - 1 - F + 1) ((T.drop F).take (e - 1 - F)) noneS with
    | none => (Rx.set (if T[k + 1]? = some 94 then notS noneS else noneS), e, true)
    | some S => (Rx.set (if T[k + 1]? = some 94 then notS S else S), e, false) := by
  subst hF
  unfold Gr.cls
  dsimp only
  rw [h]
  rfl
theorem grxv_kept {w w' : World} {K F G : Nat → Prop} {r : Rx} {cs : List Value} (h : RxV w F r cs) (k : Kept K w w') (hd : ∀ i, F i → i < w.heap.size → ¬ K i) (hG : ∀ i, F i → i < w.heap.size → G i) : RxV w' G r cs :=
  RxV.keep (fun i hi hl => k.block i hl (hd i hi hl)) k.size hG r cs h
theorem kept_row {F : Nat → Prop} {w w' : World} {g : Nat} {cs : Array Value} (h : Kept F w w') (hg : w.heap.size ≤ g) : Kept F w (w'.setRow g cs) :=
  h.trans ⟨rfl, rfl, rfl, by rw [setRow_size]; exact Nat.le_refl _, fun i _ hF => setRow_other w' g i cs fun e => by subst e; exact hF (.inr hg)⟩
theorem GS.below {T : List UInt8} {w w' : World} {g k : Nat} {b : Bool} (h : GS T w g k b) (hb : Below w.heap.size w w') : GS T w' g k b := Blk.below h hb h.lt
set_option maxRecDepth 100000 in
set_option maxHeartbeats 8000000 in
theorem gclass_any {T : List UInt8} {g k : Nat} (w : World) (h : GS T w g k false) (hT : T.length ≤ 262144) (hk : k < T.length) : Calls Tryd.prog 77 #[.pointer (some ⟨g, 0, none⟩)] w (GTEnd T w g (Gr.cls T k)) := by
  have hsz : (ByteArray.mk T.toArray).size = T.length := by simp [ByteArray.size]
  have hg := h.lt
  have HS1 := Lib.hid (h.alloc (.cells #[.int .i64 0, .int .u64 0, .int .u64 0, .int .u64 0, .int .u64 0, .int .i64 0, .int .i64 0, .slice none 0 0] 27))
  have HR1 := Lib.hid (R8.mk0 w w.heap.size rfl)
  have HK1 := Lib.hid ((Kept.refl (isG g) w).alloc (.cells #[.int .i64 0, .int .u64 0, .int .u64 0, .int .u64 0, .int .u64 0, .int .i64 0, .int .i64 0, .slice none 0 0] 27))
  obtain ⟨w1, hw1⟩ : ∃ w1, w1 = w.alloc (.cells #[.int .i64 0, .int .u64 0, .int .u64 0, .int .u64 0, .int .u64 0, .int .i64 0, .int .i64 0, .slice none 0 0] 27) := ⟨_, rfl⟩
  rw [← hw1] at HS1 HR1 HK1
  have hw1s : w.heap.size < w1.heap.size := by rw [hw1]; simp
  have HW1 := Lib.hid hw1
  obtain ⟨F, hF⟩ : ∃ F, F = if T[k + 1]? = some 94 then k + 2 else k + 1 := ⟨_, rfl⟩
  have hFk : k < F ∧ F ≤ T.length + 1 := by
    rw [hF]
    split
    · rename_i h1; have := at_lt h1; omega
    · omega
  obtain ⟨RE, hRE⟩ : ∃ RE, RE = endP T (T.length + 1) F := ⟨_, rfl⟩
  have HRE := Lib.hid hRE
  have HCB := Lib.hid (fun (e : RE = none) => gr_cls_none hF (hRE.symm.trans e))
  have HCL0 := Lib.hid (fun (e : Nat) (he : RE = some e) => gr_cls_some hF (hRE.symm.trans he))
  obtain ⟨c0, c1, c2, q1, q2⟩ := HS1.out.cells
  clear h hw1 hRE
  rcases h1 : T[k + 1]? with _ | c
  · have e0 : decide ((k : Int) + 1 < (T.length : Int)) = false := decide_eq_false (by have := List.getElem?_eq_none_iff.1 h1; omega)
    have e0' : ¬ (k + 1 < T.length) := by have := List.getElem?_eq_none_iff.1 h1; omega
    have H94 : Hid (¬ T[k + 1]? = some 94) := Lib.hid (by rw [h1]; simp)
    rw [if_neg H94.out] at hF
    clear h1
    have hFI : (F : Int) = (k : Int) + 1 := by omega
    have HCL := Lib.hid (fun (e : Nat) (he : RE = some e) => show Gr.cls T k = match lsP (e - 1 - F + 1) ((T.drop F).take (e - 1 - F)) noneS with
        | none => (Rx.set (noneS), e, true)
        | some S => (Rx.set (S), e, false) by
      have := HCL0.out e he
      rw [this]
      rcases lsP (e - 1 - F + 1) ((T.drop F).take (e - 1 - F)) noneS with _ | S' <;> (dsimp only; rw [if_neg H94.out]))
    clear HCL0 H94
    go_enter Tryd.func77, Tryd.ntmps77
    go_upto_region 1 with (fail)
    rw [← HW1.out]
    go_wp2_with fail
    go_loopg [5] (T.length + 1) (fun f v wr => ∃ e : Nat, v = .int .i64 e ∧ (F ≤ e ∧ e ≤ T.length + 1 ∧ T.length + 1 - e < f) ∧ Hid (endP T f e = RE) ∧ w1 = wr)
    case atStart => exact ⟨F, congrArg (Value.int .i64) (by omega), ⟨Nat.le_refl _, by omega, by omega⟩, Lib.hid HRE.out.symm, rfl⟩
    case round =>
      obtain ⟨e, rfl, ⟨he1, he2, he3⟩, hE, rfl⟩ := hrel
      obtain ⟨f, rfl⟩ : ∃ f, gk = f + 1 := ⟨gk - 1, by omega⟩
      have hE2 := hE.out
      rw [endP] at hE2
      rcases hb : T[e]? with _ | b
      · rw [hb] at hE2
        have hRE : RE = none := hE2.symm
        have hl := List.getElem?_eq_none_iff.1 hb
        have e8 : decide ((e : Int) < (T.length : Int)) = false := decide_eq_false (by omega)
        have e8' : ¬ (e < T.length) := by omega
        have e9 : decide ((T.length : Int) ≤ (e : Int)) = true := decide_eq_true (by omega)
        clear hE hE2 hb
        have hcl := HCB.out hRE
        have HC9 := Lib.hid hcl
        have HSm := Lib.hid (HS1.out.mark true)
        have HRm := Lib.hid (show R8 (w1.setCell ⟨g, 2, none⟩ (.bool true)) w.heap.size (.int .i64 0) (.int .u64 0) (.int .u64 0) (.int .u64 0) (.int .u64 0) (.int .i64 0) (.int .i64 0) (.slice none 0 0) from Blk.far HR1.out (p := ⟨g, 2, none⟩) (by show w.heap.size ≠ g; omega) _)
        have HKm := Lib.hid (HK1.out.setCell (p := ⟨g, 2, none⟩) (.inl rfl) (.bool true))
        obtain ⟨w2, hw2⟩ : ∃ w2, w2 = w1.setCell ⟨g, 2, none⟩ (.bool true) := ⟨_, rfl⟩
        rw [← hw2] at HSm HRm HKm
        have HW2 := Lib.hid hw2
        clear hcl hw2 HCL HCB hRE
        go_upto_region 12 with (fail)
        rw [← HW2.out]
        clear c0 c1 c2 q1 q2
        obtain ⟨⟨⟨r0, r1⟩, r2, r3⟩, ⟨r4, r5⟩, r6, r7⟩ := HRm.out.cells
        obtain ⟨⟨⟨z0, z1⟩, z2, z3⟩, ⟨z4, z5⟩, z6, z7⟩ := HRm.out.free
        have HF9 := Lib.hid (HRm.out.all (.int .i64 0) (.int .u64 0) (.int .u64 0) (.int .u64 0) (.int .u64 0) (.int .i64 0) (.int .i64 0) (.slice none 0 0))
        have HG9 := Lib.hid (show GS T (set8 w2 w.heap.size (.int .i64 0) (.int .u64 0) (.int .u64 0) (.int .u64 0) (.int .u64 0) (.int .i64 0) (.int .i64 0) (.slice none 0 0)) g _ _ from Blk.set8 HSm.out (by omega) (.int .i64 0) (.int .u64 0) (.int .u64 0) (.int .u64 0) (.int .u64 0) (.int .i64 0) (.int .i64 0) (.slice none 0 0))
        have HK9 := Lib.hid (kept_set8 HKm.out (.inr (Nat.le_refl w.heap.size)) (.int .i64 0) (.int .u64 0) (.int .u64 0) (.int .u64 0) (.int .u64 0) (.int .i64 0) (.int .i64 0) (.slice none 0 0))
        go_wp2_with fail
        obtain ⟨⟨⟨d0, d1⟩, d2, d3⟩, ⟨d4, d5⟩, d6, d7⟩ := HF9.out.cells
        unfold set8 at d0 d1 d2 d3 d4 d5 d6 d7
        refine bodyPost_ret (v := .agg #[.int .i64 0, .int .u64 0, .int .u64 0, .int .u64 0, .int .u64 0, .int .i64 0, .int .i64 0, .slice none 0 0]) (by simp [results, Tryd.results77, go_sem, d0, d1, d2, d3, d4, d5, d6, d7]) rfl ?_
        rw [HC9.out]
        exact ⟨_, rfl, gzero_rxv _ _, HG9.out, HK9.out⟩
      · have hl := at_lt hb
        exact absurd hl (by omega)
  have hlc := at_lt h1
  have e0 : decide ((k : Int) + 1 < (T.length : Int)) = true := decide_eq_true (by omega)
  have hix0 := idxT (P := Tryd.prog) Tryd.underlying9 h1
  rw [show ((k + 1 : Nat) : Int) = (k : Int) + 1 by omega] at hix0
  by_cases h94 : c = 94
  · have t0 : ((c.toNat : Int) == 94) = true := by rw [h94]; rfl
    have H94 : Hid (T[k + 1]? = some 94) := Lib.hid (by rw [h1, h94])
    rw [if_pos H94.out] at hF
    clear h1 h94
    have hFI : (F : Int) = (k : Int) + 1 + 1 := by omega
    have HCL := Lib.hid (fun (e : Nat) (he : RE = some e) => show Gr.cls T k = match lsP (e - 1 - F + 1) ((T.drop F).take (e - 1 - F)) noneS with
        | none => (Rx.set (notS noneS), e, true)
        | some S => (Rx.set (notS S), e, false) by
      have := HCL0.out e he
      rw [this]
      rcases lsP (e - 1 - F + 1) ((T.drop F).take (e - 1 - F)) noneS with _ | S' <;> (dsimp only; rw [if_pos H94.out]))
    clear HCL0 H94
    go_enter Tryd.func77, Tryd.ntmps77
    go_upto_region 1 with (fail)
    rw [← HW1.out]
    go_wp2_with fail
    go_loopg [5] (T.length + 1) (fun f v wr => ∃ e : Nat, v = .int .i64 e ∧ (F ≤ e ∧ e ≤ T.length + 1 ∧ T.length + 1 - e < f) ∧ Hid (endP T f e = RE) ∧ w1 = wr)
    case atStart => exact ⟨F, congrArg (Value.int .i64) (by omega), ⟨Nat.le_refl _, by omega, by omega⟩, Lib.hid HRE.out.symm, rfl⟩
    case round =>
      obtain ⟨e, rfl, ⟨he1, he2, he3⟩, hE, rfl⟩ := hrel
      obtain ⟨f, rfl⟩ : ∃ f, gk = f + 1 := ⟨gk - 1, by omega⟩
      have hE2 := hE.out
      rw [endP] at hE2
      rcases hb : T[e]? with _ | b
      · rw [hb] at hE2
        have hRE : RE = none := hE2.symm
        have hl := List.getElem?_eq_none_iff.1 hb
        have e8 : decide ((e : Int) < (T.length : Int)) = false := decide_eq_false (by omega)
        have e8' : ¬ (e < T.length) := by omega
        have e9 : decide ((T.length : Int) ≤ (e : Int)) = true := decide_eq_true (by omega)
        clear hE hE2 hb
        have hcl := HCB.out hRE
        have HC9 := Lib.hid hcl
        have HSm := Lib.hid (HS1.out.mark true)
        have HRm := Lib.hid (show R8 (w1.setCell ⟨g, 2, none⟩ (.bool true)) w.heap.size (.int .i64 0) (.int .u64 0) (.int .u64 0) (.int .u64 0) (.int .u64 0) (.int .i64 0) (.int .i64 0) (.slice none 0 0) from Blk.far HR1.out (p := ⟨g, 2, none⟩) (by show w.heap.size ≠ g; omega) _)
        have HKm := Lib.hid (HK1.out.setCell (p := ⟨g, 2, none⟩) (.inl rfl) (.bool true))
        obtain ⟨w2, hw2⟩ : ∃ w2, w2 = w1.setCell ⟨g, 2, none⟩ (.bool true) := ⟨_, rfl⟩
        rw [← hw2] at HSm HRm HKm
        have HW2 := Lib.hid hw2
        clear hcl hw2 HCL HCB hRE
        go_upto_region 12 with (fail)
        rw [← HW2.out]
        clear c0 c1 c2 q1 q2
        obtain ⟨⟨⟨r0, r1⟩, r2, r3⟩, ⟨r4, r5⟩, r6, r7⟩ := HRm.out.cells
        obtain ⟨⟨⟨z0, z1⟩, z2, z3⟩, ⟨z4, z5⟩, z6, z7⟩ := HRm.out.free
        have HF9 := Lib.hid (HRm.out.all (.int .i64 0) (.int .u64 0) (.int .u64 0) (.int .u64 0) (.int .u64 0) (.int .i64 0) (.int .i64 0) (.slice none 0 0))
        have HG9 := Lib.hid (show GS T (set8 w2 w.heap.size (.int .i64 0) (.int .u64 0) (.int .u64 0) (.int .u64 0) (.int .u64 0) (.int .i64 0) (.int .i64 0) (.slice none 0 0)) g _ _ from Blk.set8 HSm.out (by omega) (.int .i64 0) (.int .u64 0) (.int .u64 0) (.int .u64 0) (.int .u64 0) (.int .i64 0) (.int .i64 0) (.slice none 0 0))
        have HK9 := Lib.hid (kept_set8 HKm.out (.inr (Nat.le_refl w.heap.size)) (.int .i64 0) (.int .u64 0) (.int .u64 0) (.int .u64 0) (.int .u64 0) (.int .i64 0) (.int .i64 0) (.slice none 0 0))
        go_wp2_with fail
        obtain ⟨⟨⟨d0, d1⟩, d2, d3⟩, ⟨d4, d5⟩, d6, d7⟩ := HF9.out.cells
        unfold set8 at d0 d1 d2 d3 d4 d5 d6 d7
        refine bodyPost_ret (v := .agg #[.int .i64 0, .int .u64 0, .int .u64 0, .int .u64 0, .int .u64 0, .int .i64 0, .int .i64 0, .slice none 0 0]) (by simp [results, Tryd.results77, go_sem, d0, d1, d2, d3, d4, d5, d6, d7]) rfl ?_
        rw [HC9.out]
        exact ⟨_, rfl, gzero_rxv _ _, HG9.out, HK9.out⟩
      · have hl := at_lt hb
        have e8 : decide ((e : Int) < (T.length : Int)) = true := decide_eq_true (by omega)
        have e9 : decide ((T.length : Int) ≤ (e : Int)) = false := decide_eq_false (by omega)
        have hix := idxT (P := Tryd.prog) Tryd.underlying9 hb
        rw [hb] at hE2
        dsimp only at hE2
        by_cases h93 : b = 93
        · have t1 : ((b.toNat : Int) == 93) = true := by rw [h93]; rfl
          have t2 : ((b.toNat : Int) != 93) = false := by rw [h93]; rfl
          rw [if_pos h93] at hE2
          have hRE : RE = some (e + 1) := hE2.symm
          clear hE hE2 hb h93
          have hcl := HCL.out (e + 1) hRE
          rw [show e + 1 - 1 - F + 1 = e - F + 1 by omega, show e + 1 - 1 - F = e - F by omega] at hcl
          obtain ⟨t', ht'⟩ : ∃ t', t' = (T.drop F).take (e - F) := ⟨_, rfl⟩
          have hlt' : t'.length = e - F := by rw [ht', List.length_take, List.length_drop]; omega
          rw [← ht', ← hlt'] at hcl
          have hsl := fun W => sliceT2 T F e (by omega) (by omega) W
          rw [← ht'] at hsl
          rw [show (F : Int) = (k : Int) + 1 + 1 by omega] at hsl
          obtain ⟨Q, hQ⟩ : ∃ Q, Q = lsP (t'.length + 1) t' noneS := ⟨_, rfl⟩
          have HSET := Lib.hid (gset_any t' w1 (by omega))
          rw [← hQ] at HSET hcl
          obtain ⟨S, hS⟩ : ∃ S, S = spR Q := ⟨_, rfl⟩
          obtain ⟨C, hC⟩ : ∃ C, C = spC Q := ⟨_, rfl⟩
          rw [← hS, ← hC] at HSET
          have hcq : (C = 0 ∧ Gr.cls T k = (Rx.set (notS S), e + 1, false)) ∨ (C = 4 ∧ Gr.cls T k = (Rx.set (notS S), e + 1, true)) := by
            rw [hcl, hS, hC]
            rcases Q with _ | S'
            · exact .inr ⟨rfl, rfl⟩
            · exact .inl ⟨rfl, rfl⟩
          have HCQ := Lib.hid hcq
          clear hcl ht' hlt' hQ hS hC hcq HCL hRE
          go_wp2_with fail
          refine HSET.out.mono ?_
          rintro ee w2 ⟨rfl, hb2⟩
          have HS2 := Lib.hid (HS1.out.below hb2)
          have HR2 := Lib.hid (HR1.out.below hb2 HR1.out.lt)
          have HK2 := Lib.hid (HK1.out.then_ (Kept.of_below hb2))
          have hge2 : w.heap.size < w2.heap.size := Nat.lt_of_lt_of_le hw1s hb2.size
          clear hb2 HSET HS1 HR1 HK1 hsl
          have HS3 := Lib.hid (HS2.out.alloc (.cells Tryd.zeroCells95 95))
          have HR3 := Lib.hid (HR2.out.alloc (.cells Tryd.zeroCells95 95))
          have HK3 := Lib.hid (HK2.out.alloc (.cells Tryd.zeroCells95 95))
          have hB3 := Blk.new w2 95 Tryd.zeroCells95
          obtain ⟨w3, hw3⟩ : ∃ w3, w3 = w2.alloc (.cells Tryd.zeroCells95 95) := ⟨_, rfl⟩
          obtain ⟨B, hB⟩ : ∃ B, B = w2.heap.size := ⟨_, rfl⟩
          rw [← hw3, ← hB] at hB3
          rw [← hw3] at HS3 HR3 HK3
          rw [← hB] at hge2
          have HB3 := Lib.hid hB3
          have hgB : g < B := by rw [hB]; exact HS2.out.lt
          have HB4 := Lib.hid (Blk.row (cs := setA S) hB3)
          have HS4 := Lib.hid (show GS T (w3.setRow B (setA S)) g k false from Blk.row_far HS3.out (by omega))
          have HR4 := Lib.hid (show R8 (w3.setRow B (setA S)) w.heap.size (.int .i64 0) (.int .u64 0) (.int .u64 0) (.int .u64 0) (.int .u64 0) (.int .i64 0) (.int .i64 0) (.slice none 0 0) from Blk.row_far HR3.out (by omega))
          have HK4 := Lib.hid (kept_row (cs := setA S) (g := B) HK3.out (by omega))
          obtain ⟨w4, hw4⟩ : ∃ w4, w4 = w3.setRow B (setA S) := ⟨_, rfl⟩
          rw [← hw4] at HB4 HS4 HR4 HK4
          have HW3 := Lib.hid hw3
          have HW4 := Lib.hid hw4
          have HBB := Lib.hid hB
          obtain ⟨c0, c1, c2, q1, q2⟩ := HS4.out.cells
          clear hw3 hw4 hB hB3 HS2 HR2 HK2 HS3 HR3 HK3
          rcases HCQ.out with ⟨hc0, hcl⟩ | ⟨hc0, hcl⟩
          · subst hc0
            have he5 := HS4.out.end HK4.out false (e + 1)
            have hb5 : Blk ((w4.setCell ⟨g, 2, none⟩ (.bool false)).setCell ⟨g, 1, none⟩ (.int .i64 ((e + 1 : Nat) : Int))) B 95 (setA S) := Blk.far (Blk.far HB4.out (p := ⟨g, 2, none⟩) (by show B ≠ g; omega) _) (p := ⟨g, 1, none⟩) (by show B ≠ g; omega) _
            have hr5 : R8 ((w4.setCell ⟨g, 2, none⟩ (.bool false)).setCell ⟨g, 1, none⟩ (.int .i64 ((e + 1 : Nat) : Int))) w.heap.size (.int .i64 0) (.int .u64 0) (.int .u64 0) (.int .u64 0) (.int .u64 0) (.int .i64 0) (.int .i64 0) (.slice none 0 0) := Blk.far (Blk.far HR4.out (p := ⟨g, 2, none⟩) (by show w.heap.size ≠ g; omega) _) (p := ⟨g, 1, none⟩) (by show w.heap.size ≠ g; omega) _
            obtain ⟨w5, hw5⟩ : ∃ w5, w5 = (w4.setCell ⟨g, 2, none⟩ (.bool false)).setCell ⟨g, 1, none⟩ (.int .i64 ((e + 1 : Nat) : Int)) := ⟨_, rfl⟩
            rw [← hw5] at he5 hb5 hr5
            rw [show ((e + 1 : Nat) : Int) = (e : Int) + 1 by omega] at hw5
            have HS5 := Lib.hid he5.1
            have HK5 := Lib.hid he5.2
            have HB5 := Lib.hid hb5
            have HR5 := Lib.hid hr5
            have HW5 := Lib.hid hw5
            have HCL9 := Lib.hid hcl
            clear he5 hb5 hr5 hw5 hcl HCQ HS4 HK4 HB4 HR4
            go_upto_region 17 with (first | (rw [← HW3.out, ← HBB.out]; refine wpList_store_row rfl 95 _ _ rfl B (setA S) rfl rfl 95 Tryd.zeroCells95 HB3.out (set_info _) (by rw [setA_size, zero_set, setA_size]) (setA_all _) ?_; rw [← HW4.out]))
            rw [← HW5.out]
            clear c0 c1 c2 q1 q2 HB3 HW3 HW4 HW5 HBB
            have HNEG := Lib.hid (gnegated_any S w5)
            go_wp2_with (first | refine wpList_load_row rfl 95 _ rfl B rfl 95 (setA S) (0, 0) _ HB5.out Tryd.underlying95 rfl (set_info _) ?_)
            refine HNEG.out.mono ?_
            rintro ee w6 ⟨rfl, hb6⟩
            have HS6 := Lib.hid (HS5.out.below hb6)
            have HR6 := Lib.hid (HR5.out.below hb6 HR5.out.lt)
            have HK6 := Lib.hid (HK5.out.then_ (Kept.of_below hb6))
            have HB6 := Lib.hid (Blk.below HB5.out hb6 (Blk.lt HB5.out))
            have HB7 := Lib.hid (Blk.row (cs := setA (notS S)) HB6.out)
            have HS7 := Lib.hid (show GS T (w6.setRow B (setA (notS S))) g (e + 1) false from Blk.row_far HS6.out (by omega))
            have HR7 := Lib.hid (show R8 (w6.setRow B (setA (notS S))) w.heap.size (.int .i64 0) (.int .u64 0) (.int .u64 0) (.int .u64 0) (.int .u64 0) (.int .i64 0) (.int .i64 0) (.slice none 0 0) from Blk.row_far HR6.out (by omega))
            have HK7 := Lib.hid (kept_row (cs := setA (notS S)) (g := B) HK6.out (by omega))
            obtain ⟨w7, hw7⟩ : ∃ w7, w7 = w6.setRow B (setA (notS S)) := ⟨_, rfl⟩
            rw [← hw7] at HB7 HS7 HR7 HK7
            have HW7 := Lib.hid hw7
            clear hw7 hb6 HNEG HS5 HR5 HK5 HB5 HS6 HR6 HK6
            go_upto_region 18 with (first | (refine wpList_store_row rfl 95 _ _ rfl B (setA (notS S)) rfl rfl 95 (setA S) HB6.out (set_info _) (by rw [setA_size, setA_size]) (setA_all _) ?_))
            rw [← HW7.out]
            have HLET := Lib.hid (gletters_any (notS S) w7)
            have hrx := fun (w' : World) (F : Nat → Prop) => gset_rxv w' F (notS S)
            obtain ⟨u0, hu0⟩ : ∃ u, u = wd (notS S) 0 := ⟨_, rfl⟩
            obtain ⟨u1, hu1⟩ : ∃ u, u = wd (notS S) 1 := ⟨_, rfl⟩
            obtain ⟨u2, hu2⟩ : ∃ u, u = wd (notS S) 2 := ⟨_, rfl⟩
            obtain ⟨u3, hu3⟩ : ∃ u, u = wd (notS S) 3 := ⟨_, rfl⟩
            rw [← hu0, ← hu1, ← hu2, ← hu3] at HLET
            simp only [← hu0, ← hu1, ← hu2, ← hu3] at hrx
            have HRX := Lib.hid hrx
            clear hrx hu0 hu1 hu2 hu3
            go_wp2_with (first | refine wpList_load_row rfl 95 _ rfl B rfl 95 (setA (notS S)) (0, 0) _ HB7.out Tryd.underlying95 rfl (set_info _) ?_)
            refine HLET.out.mono ?_
            rintro ee w8 ⟨rfl, hb8⟩
            have HS8 := Lib.hid (HS7.out.below hb8)
            have HR8 := Lib.hid (HR7.out.below hb8 HR7.out.lt)
            have HK8 := Lib.hid (HK7.out.then_ (Kept.of_below hb8))
            clear hb8 HLET HS7 HR7 HK7
            obtain ⟨⟨⟨r0, r1⟩, r2, r3⟩, ⟨r4, r5⟩, r6, r7⟩ := HR8.out.cells
            obtain ⟨⟨⟨z0, z1⟩, z2, z3⟩, ⟨z4, z5⟩, z6, z7⟩ := HR8.out.free
            have HF9 := Lib.hid (HR8.out.all (.int .i64 2) (.int .u64 u0) (.int .u64 u1) (.int .u64 u2) (.int .u64 u3) (.int .i64 0) (.int .i64 0) (.slice none 0 0))
            have HG9 := Lib.hid (show GS T (set8 w8 w.heap.size (.int .i64 2) (.int .u64 u0) (.int .u64 u1) (.int .u64 u2) (.int .u64 u3) (.int .i64 0) (.int .i64 0) (.slice none 0 0)) g _ _ from Blk.set8 HS8.out (by omega) (.int .i64 2) (.int .u64 u0) (.int .u64 u1) (.int .u64 u2) (.int .u64 u3) (.int .i64 0) (.int .i64 0) (.slice none 0 0))
            have HK9 := Lib.hid (kept_set8 HK8.out (.inr (Nat.le_refl w.heap.size)) (.int .i64 2) (.int .u64 u0) (.int .u64 u1) (.int .u64 u2) (.int .u64 u3) (.int .i64 0) (.int .i64 0) (.slice none 0 0))
            go_wp2_with fail
            obtain ⟨⟨⟨d0, d1⟩, d2, d3⟩, ⟨d4, d5⟩, d6, d7⟩ := HF9.out.cells
            unfold set8 at d0 d1 d2 d3 d4 d5 d6 d7
            refine bodyPost_ret (v := .agg #[.int .i64 2, .int .u64 u0, .int .u64 u1, .int .u64 u2, .int .u64 u3, .int .i64 0, .int .i64 0, .slice none 0 0]) (by simp [results, Tryd.results77, go_sem, d0, d1, d2, d3, d4, d5, d6, d7]) rfl ?_
            rw [HCL9.out]
            exact ⟨_, rfl, HRX.out _ _, HG9.out, HK9.out⟩
          · subst hc0
            have he5 := HS4.out.end HK4.out true (e + 1)
            have hb5 : Blk ((w4.setCell ⟨g, 2, none⟩ (.bool true)).setCell ⟨g, 1, none⟩ (.int .i64 ((e + 1 : Nat) : Int))) B 95 (setA S) := Blk.far (Blk.far HB4.out (p := ⟨g, 2, none⟩) (by show B ≠ g; omega) _) (p := ⟨g, 1, none⟩) (by show B ≠ g; omega) _
            have hr5 : R8 ((w4.setCell ⟨g, 2, none⟩ (.bool true)).setCell ⟨g, 1, none⟩ (.int .i64 ((e + 1 : Nat) : Int))) w.heap.size (.int .i64 0) (.int .u64 0) (.int .u64 0) (.int .u64 0) (.int .u64 0) (.int .i64 0) (.int .i64 0) (.slice none 0 0) := Blk.far (Blk.far HR4.out (p := ⟨g, 2, none⟩) (by show w.heap.size ≠ g; omega) _) (p := ⟨g, 1, none⟩) (by show w.heap.size ≠ g; omega) _
            obtain ⟨w5, hw5⟩ : ∃ w5, w5 = (w4.setCell ⟨g, 2, none⟩ (.bool true)).setCell ⟨g, 1, none⟩ (.int .i64 ((e + 1 : Nat) : Int)) := ⟨_, rfl⟩
            rw [← hw5] at he5 hb5 hr5
            rw [show ((e + 1 : Nat) : Int) = (e : Int) + 1 by omega] at hw5
            have HS5 := Lib.hid he5.1
            have HK5 := Lib.hid he5.2
            have HB5 := Lib.hid hb5
            have HR5 := Lib.hid hr5
            have HW5 := Lib.hid hw5
            have HCL9 := Lib.hid hcl
            clear he5 hb5 hr5 hw5 hcl HCQ HS4 HK4 HB4 HR4
            go_upto_region 17 with (first | (rw [← HW3.out, ← HBB.out]; refine wpList_store_row rfl 95 _ _ rfl B (setA S) rfl rfl 95 Tryd.zeroCells95 HB3.out (set_info _) (by rw [setA_size, zero_set, setA_size]) (setA_all _) ?_; rw [← HW4.out]))
            rw [← HW5.out]
            clear c0 c1 c2 q1 q2 HB3 HW3 HW4 HW5 HBB
            have HNEG := Lib.hid (gnegated_any S w5)
            go_wp2_with (first | refine wpList_load_row rfl 95 _ rfl B rfl 95 (setA S) (0, 0) _ HB5.out Tryd.underlying95 rfl (set_info _) ?_)
            refine HNEG.out.mono ?_
            rintro ee w6 ⟨rfl, hb6⟩
            have HS6 := Lib.hid (HS5.out.below hb6)
            have HR6 := Lib.hid (HR5.out.below hb6 HR5.out.lt)
            have HK6 := Lib.hid (HK5.out.then_ (Kept.of_below hb6))
            have HB6 := Lib.hid (Blk.below HB5.out hb6 (Blk.lt HB5.out))
            have HB7 := Lib.hid (Blk.row (cs := setA (notS S)) HB6.out)
            have HS7 := Lib.hid (show GS T (w6.setRow B (setA (notS S))) g (e + 1) true from Blk.row_far HS6.out (by omega))
            have HR7 := Lib.hid (show R8 (w6.setRow B (setA (notS S))) w.heap.size (.int .i64 0) (.int .u64 0) (.int .u64 0) (.int .u64 0) (.int .u64 0) (.int .i64 0) (.int .i64 0) (.slice none 0 0) from Blk.row_far HR6.out (by omega))
            have HK7 := Lib.hid (kept_row (cs := setA (notS S)) (g := B) HK6.out (by omega))
            obtain ⟨w7, hw7⟩ : ∃ w7, w7 = w6.setRow B (setA (notS S)) := ⟨_, rfl⟩
            rw [← hw7] at HB7 HS7 HR7 HK7
            have HW7 := Lib.hid hw7
            clear hw7 hb6 HNEG HS5 HR5 HK5 HB5 HS6 HR6 HK6
            go_upto_region 18 with (first | (refine wpList_store_row rfl 95 _ _ rfl B (setA (notS S)) rfl rfl 95 (setA S) HB6.out (set_info _) (by rw [setA_size, setA_size]) (setA_all _) ?_))
            rw [← HW7.out]
            have HLET := Lib.hid (gletters_any (notS S) w7)
            have hrx := fun (w' : World) (F : Nat → Prop) => gset_rxv w' F (notS S)
            obtain ⟨u0, hu0⟩ : ∃ u, u = wd (notS S) 0 := ⟨_, rfl⟩
            obtain ⟨u1, hu1⟩ : ∃ u, u = wd (notS S) 1 := ⟨_, rfl⟩
            obtain ⟨u2, hu2⟩ : ∃ u, u = wd (notS S) 2 := ⟨_, rfl⟩
            obtain ⟨u3, hu3⟩ : ∃ u, u = wd (notS S) 3 := ⟨_, rfl⟩
            rw [← hu0, ← hu1, ← hu2, ← hu3] at HLET
            simp only [← hu0, ← hu1, ← hu2, ← hu3] at hrx
            have HRX := Lib.hid hrx
            clear hrx hu0 hu1 hu2 hu3
            go_wp2_with (first | refine wpList_load_row rfl 95 _ rfl B rfl 95 (setA (notS S)) (0, 0) _ HB7.out Tryd.underlying95 rfl (set_info _) ?_)
            refine HLET.out.mono ?_
            rintro ee w8 ⟨rfl, hb8⟩
            have HS8 := Lib.hid (HS7.out.below hb8)
            have HR8 := Lib.hid (HR7.out.below hb8 HR7.out.lt)
            have HK8 := Lib.hid (HK7.out.then_ (Kept.of_below hb8))
            clear hb8 HLET HS7 HR7 HK7
            obtain ⟨⟨⟨r0, r1⟩, r2, r3⟩, ⟨r4, r5⟩, r6, r7⟩ := HR8.out.cells
            obtain ⟨⟨⟨z0, z1⟩, z2, z3⟩, ⟨z4, z5⟩, z6, z7⟩ := HR8.out.free
            have HF9 := Lib.hid (HR8.out.all (.int .i64 2) (.int .u64 u0) (.int .u64 u1) (.int .u64 u2) (.int .u64 u3) (.int .i64 0) (.int .i64 0) (.slice none 0 0))
            have HG9 := Lib.hid (show GS T (set8 w8 w.heap.size (.int .i64 2) (.int .u64 u0) (.int .u64 u1) (.int .u64 u2) (.int .u64 u3) (.int .i64 0) (.int .i64 0) (.slice none 0 0)) g _ _ from Blk.set8 HS8.out (by omega) (.int .i64 2) (.int .u64 u0) (.int .u64 u1) (.int .u64 u2) (.int .u64 u3) (.int .i64 0) (.int .i64 0) (.slice none 0 0))
            have HK9 := Lib.hid (kept_set8 HK8.out (.inr (Nat.le_refl w.heap.size)) (.int .i64 2) (.int .u64 u0) (.int .u64 u1) (.int .u64 u2) (.int .u64 u3) (.int .i64 0) (.int .i64 0) (.slice none 0 0))
            go_wp2_with fail
            obtain ⟨⟨⟨d0, d1⟩, d2, d3⟩, ⟨d4, d5⟩, d6, d7⟩ := HF9.out.cells
            unfold set8 at d0 d1 d2 d3 d4 d5 d6 d7
            refine bodyPost_ret (v := .agg #[.int .i64 2, .int .u64 u0, .int .u64 u1, .int .u64 u2, .int .u64 u3, .int .i64 0, .int .i64 0, .slice none 0 0]) (by simp [results, Tryd.results77, go_sem, d0, d1, d2, d3, d4, d5, d6, d7]) rfl ?_
            rw [HCL9.out]
            exact ⟨_, rfl, HRX.out _ _, HG9.out, HK9.out⟩
        have t1 : ((b.toNat : Int) == 93) = false := glit (c := 93) h93
        have t2 : ((b.toNat : Int) != 93) = true := by rw [show (93 : Int) = ((93 : UInt8).toNat : Int) from rfl, u8_ne_int]; exact bne_iff_ne.2 h93
        rw [if_neg h93] at hE2
        by_cases h92 : b = 92
        · have t3 : ((b.toNat : Int) == 92) = true := by rw [h92]; rfl
          rw [if_pos h92] at hE2
          have HP := Lib.hid (show endP T f (e + 2) = RE by
            rcases h1 : T[e + 1]? with _ | b1
            · rw [h1] at hE2
              rw [← hE2]
              have hl1 := List.getElem?_eq_none_iff.1 h1
              cases f with
              | zero => rfl
              | succ f => rw [endP, List.getElem?_eq_none (by omega)]
            · rw [h1] at hE2
              exact hE2)
          clear hE hE2 hb h92 h93
          go_wp2_with fail
          go_roundg f
          case measure => omega
          case rel => exact ⟨e + 2, congrArg (Value.int .i64) (by omega), ⟨by omega, by omega, by omega⟩, HP, rfl⟩
        · have t3 : ((b.toNat : Int) == 92) = false := glit (c := 92) h92
          rw [if_neg h92] at hE2
          have HP := Lib.hid hE2
          clear hE hE2 hb h92 h93
          go_wp2_with fail
          go_roundg f
          case measure => omega
          case rel => exact ⟨e + 1, congrArg (Value.int .i64) (by omega), ⟨by omega, by omega, by omega⟩, HP, rfl⟩
  · have t0 : ((c.toNat : Int) == 94) = false := glit (c := 94) h94
    have H94 : Hid (¬ T[k + 1]? = some 94) := Lib.hid (by rw [h1]; intro e; injection e with e; exact h94 e)
    rw [if_neg H94.out] at hF
    clear h1 h94
    have hFI : (F : Int) = (k : Int) + 1 := by omega
    have HCL := Lib.hid (fun (e : Nat) (he : RE = some e) => show Gr.cls T k = match lsP (e - 1 - F + 1) ((T.drop F).take (e - 1 - F)) noneS with
        | none => (Rx.set (noneS), e, true)
        | some S => (Rx.set (S), e, false) by
      have := HCL0.out e he
      rw [this]
      rcases lsP (e - 1 - F + 1) ((T.drop F).take (e - 1 - F)) noneS with _ | S' <;> (dsimp only; rw [if_neg H94.out]))
    clear HCL0 H94
    go_enter Tryd.func77, Tryd.ntmps77
    go_upto_region 1 with (fail)
    rw [← HW1.out]
    go_wp2_with fail
    go_loopg [5] (T.length + 1) (fun f v wr => ∃ e : Nat, v = .int .i64 e ∧ (F ≤ e ∧ e ≤ T.length + 1 ∧ T.length + 1 - e < f) ∧ Hid (endP T f e = RE) ∧ w1 = wr)
    case atStart => exact ⟨F, congrArg (Value.int .i64) (by omega), ⟨Nat.le_refl _, by omega, by omega⟩, Lib.hid HRE.out.symm, rfl⟩
    case round =>
      obtain ⟨e, rfl, ⟨he1, he2, he3⟩, hE, rfl⟩ := hrel
      obtain ⟨f, rfl⟩ : ∃ f, gk = f + 1 := ⟨gk - 1, by omega⟩
      have hE2 := hE.out
      rw [endP] at hE2
      rcases hb : T[e]? with _ | b
      · rw [hb] at hE2
        have hRE : RE = none := hE2.symm
        have hl := List.getElem?_eq_none_iff.1 hb
        have e8 : decide ((e : Int) < (T.length : Int)) = false := decide_eq_false (by omega)
        have e8' : ¬ (e < T.length) := by omega
        have e9 : decide ((T.length : Int) ≤ (e : Int)) = true := decide_eq_true (by omega)
        clear hE hE2 hb
        have hcl := HCB.out hRE
        have HC9 := Lib.hid hcl
        have HSm := Lib.hid (HS1.out.mark true)
        have HRm := Lib.hid (show R8 (w1.setCell ⟨g, 2, none⟩ (.bool true)) w.heap.size (.int .i64 0) (.int .u64 0) (.int .u64 0) (.int .u64 0) (.int .u64 0) (.int .i64 0) (.int .i64 0) (.slice none 0 0) from Blk.far HR1.out (p := ⟨g, 2, none⟩) (by show w.heap.size ≠ g; omega) _)
        have HKm := Lib.hid (HK1.out.setCell (p := ⟨g, 2, none⟩) (.inl rfl) (.bool true))
        obtain ⟨w2, hw2⟩ : ∃ w2, w2 = w1.setCell ⟨g, 2, none⟩ (.bool true) := ⟨_, rfl⟩
        rw [← hw2] at HSm HRm HKm
        have HW2 := Lib.hid hw2
        clear hcl hw2 HCL HCB hRE
        go_upto_region 12 with (fail)
        rw [← HW2.out]
        clear c0 c1 c2 q1 q2
        obtain ⟨⟨⟨r0, r1⟩, r2, r3⟩, ⟨r4, r5⟩, r6, r7⟩ := HRm.out.cells
        obtain ⟨⟨⟨z0, z1⟩, z2, z3⟩, ⟨z4, z5⟩, z6, z7⟩ := HRm.out.free
        have HF9 := Lib.hid (HRm.out.all (.int .i64 0) (.int .u64 0) (.int .u64 0) (.int .u64 0) (.int .u64 0) (.int .i64 0) (.int .i64 0) (.slice none 0 0))
        have HG9 := Lib.hid (show GS T (set8 w2 w.heap.size (.int .i64 0) (.int .u64 0) (.int .u64 0) (.int .u64 0) (.int .u64 0) (.int .i64 0) (.int .i64 0) (.slice none 0 0)) g _ _ from Blk.set8 HSm.out (by omega) (.int .i64 0) (.int .u64 0) (.int .u64 0) (.int .u64 0) (.int .u64 0) (.int .i64 0) (.int .i64 0) (.slice none 0 0))
        have HK9 := Lib.hid (kept_set8 HKm.out (.inr (Nat.le_refl w.heap.size)) (.int .i64 0) (.int .u64 0) (.int .u64 0) (.int .u64 0) (.int .u64 0) (.int .i64 0) (.int .i64 0) (.slice none 0 0))
        go_wp2_with fail
        obtain ⟨⟨⟨d0, d1⟩, d2, d3⟩, ⟨d4, d5⟩, d6, d7⟩ := HF9.out.cells
        unfold set8 at d0 d1 d2 d3 d4 d5 d6 d7
        refine bodyPost_ret (v := .agg #[.int .i64 0, .int .u64 0, .int .u64 0, .int .u64 0, .int .u64 0, .int .i64 0, .int .i64 0, .slice none 0 0]) (by simp [results, Tryd.results77, go_sem, d0, d1, d2, d3, d4, d5, d6, d7]) rfl ?_
        rw [HC9.out]
        exact ⟨_, rfl, gzero_rxv _ _, HG9.out, HK9.out⟩
      · have hl := at_lt hb
        have e8 : decide ((e : Int) < (T.length : Int)) = true := decide_eq_true (by omega)
        have e9 : decide ((T.length : Int) ≤ (e : Int)) = false := decide_eq_false (by omega)
        have hix := idxT (P := Tryd.prog) Tryd.underlying9 hb
        rw [hb] at hE2
        dsimp only at hE2
        by_cases h93 : b = 93
        · have t1 : ((b.toNat : Int) == 93) = true := by rw [h93]; rfl
          have t2 : ((b.toNat : Int) != 93) = false := by rw [h93]; rfl
          rw [if_pos h93] at hE2
          have hRE : RE = some (e + 1) := hE2.symm
          clear hE hE2 hb h93
          have hcl := HCL.out (e + 1) hRE
          rw [show e + 1 - 1 - F + 1 = e - F + 1 by omega, show e + 1 - 1 - F = e - F by omega] at hcl
          obtain ⟨t', ht'⟩ : ∃ t', t' = (T.drop F).take (e - F) := ⟨_, rfl⟩
          have hlt' : t'.length = e - F := by rw [ht', List.length_take, List.length_drop]; omega
          rw [← ht', ← hlt'] at hcl
          have hsl := fun W => sliceT2 T F e (by omega) (by omega) W
          rw [← ht'] at hsl
          rw [show (F : Int) = (k : Int) + 1 by omega] at hsl
          obtain ⟨Q, hQ⟩ : ∃ Q, Q = lsP (t'.length + 1) t' noneS := ⟨_, rfl⟩
          have HSET := Lib.hid (gset_any t' w1 (by omega))
          rw [← hQ] at HSET hcl
          obtain ⟨S, hS⟩ : ∃ S, S = spR Q := ⟨_, rfl⟩
          obtain ⟨C, hC⟩ : ∃ C, C = spC Q := ⟨_, rfl⟩
          rw [← hS, ← hC] at HSET
          have hcq : (C = 0 ∧ Gr.cls T k = (Rx.set (S), e + 1, false)) ∨ (C = 4 ∧ Gr.cls T k = (Rx.set (S), e + 1, true)) := by
            rw [hcl, hS, hC]
            rcases Q with _ | S'
            · exact .inr ⟨rfl, rfl⟩
            · exact .inl ⟨rfl, rfl⟩
          have HCQ := Lib.hid hcq
          clear hcl ht' hlt' hQ hS hC hcq HCL hRE
          go_wp2_with fail
          refine HSET.out.mono ?_
          rintro ee w2 ⟨rfl, hb2⟩
          have HS2 := Lib.hid (HS1.out.below hb2)
          have HR2 := Lib.hid (HR1.out.below hb2 HR1.out.lt)
          have HK2 := Lib.hid (HK1.out.then_ (Kept.of_below hb2))
          have hge2 : w.heap.size < w2.heap.size := Nat.lt_of_lt_of_le hw1s hb2.size
          clear hb2 HSET HS1 HR1 HK1 hsl
          have HS3 := Lib.hid (HS2.out.alloc (.cells Tryd.zeroCells95 95))
          have HR3 := Lib.hid (HR2.out.alloc (.cells Tryd.zeroCells95 95))
          have HK3 := Lib.hid (HK2.out.alloc (.cells Tryd.zeroCells95 95))
          have hB3 := Blk.new w2 95 Tryd.zeroCells95
          obtain ⟨w3, hw3⟩ : ∃ w3, w3 = w2.alloc (.cells Tryd.zeroCells95 95) := ⟨_, rfl⟩
          obtain ⟨B, hB⟩ : ∃ B, B = w2.heap.size := ⟨_, rfl⟩
          rw [← hw3, ← hB] at hB3
          rw [← hw3] at HS3 HR3 HK3
          rw [← hB] at hge2
          have HB3 := Lib.hid hB3
          have hgB : g < B := by rw [hB]; exact HS2.out.lt
          have HB4 := Lib.hid (Blk.row (cs := setA S) hB3)
          have HS4 := Lib.hid (show GS T (w3.setRow B (setA S)) g k false from Blk.row_far HS3.out (by omega))
          have HR4 := Lib.hid (show R8 (w3.setRow B (setA S)) w.heap.size (.int .i64 0) (.int .u64 0) (.int .u64 0) (.int .u64 0) (.int .u64 0) (.int .i64 0) (.int .i64 0) (.slice none 0 0) from Blk.row_far HR3.out (by omega))
          have HK4 := Lib.hid (kept_row (cs := setA S) (g := B) HK3.out (by omega))
          obtain ⟨w4, hw4⟩ : ∃ w4, w4 = w3.setRow B (setA S) := ⟨_, rfl⟩
          rw [← hw4] at HB4 HS4 HR4 HK4
          have HW3 := Lib.hid hw3
          have HW4 := Lib.hid hw4
          have HBB := Lib.hid hB
          obtain ⟨c0, c1, c2, q1, q2⟩ := HS4.out.cells
          clear hw3 hw4 hB hB3 HS2 HR2 HK2 HS3 HR3 HK3
          rcases HCQ.out with ⟨hc0, hcl⟩ | ⟨hc0, hcl⟩
          · subst hc0
            have he5 := HS4.out.end HK4.out false (e + 1)
            have hb5 : Blk ((w4.setCell ⟨g, 2, none⟩ (.bool false)).setCell ⟨g, 1, none⟩ (.int .i64 ((e + 1 : Nat) : Int))) B 95 (setA S) := Blk.far (Blk.far HB4.out (p := ⟨g, 2, none⟩) (by show B ≠ g; omega) _) (p := ⟨g, 1, none⟩) (by show B ≠ g; omega) _
            have hr5 : R8 ((w4.setCell ⟨g, 2, none⟩ (.bool false)).setCell ⟨g, 1, none⟩ (.int .i64 ((e + 1 : Nat) : Int))) w.heap.size (.int .i64 0) (.int .u64 0) (.int .u64 0) (.int .u64 0) (.int .u64 0) (.int .i64 0) (.int .i64 0) (.slice none 0 0) := Blk.far (Blk.far HR4.out (p := ⟨g, 2, none⟩) (by show w.heap.size ≠ g; omega) _) (p := ⟨g, 1, none⟩) (by show w.heap.size ≠ g; omega) _
            obtain ⟨w5, hw5⟩ : ∃ w5, w5 = (w4.setCell ⟨g, 2, none⟩ (.bool false)).setCell ⟨g, 1, none⟩ (.int .i64 ((e + 1 : Nat) : Int)) := ⟨_, rfl⟩
            rw [← hw5] at he5 hb5 hr5
            rw [show ((e + 1 : Nat) : Int) = (e : Int) + 1 by omega] at hw5
            have HS5 := Lib.hid he5.1
            have HK5 := Lib.hid he5.2
            have HB5 := Lib.hid hb5
            have HR5 := Lib.hid hr5
            have HW5 := Lib.hid hw5
            have HCL9 := Lib.hid hcl
            clear he5 hb5 hr5 hw5 hcl HCQ HS4 HK4 HB4 HR4
            go_upto_region 18 with (first | (rw [← HW3.out, ← HBB.out]; refine wpList_store_row rfl 95 _ _ rfl B (setA S) rfl rfl 95 Tryd.zeroCells95 HB3.out (set_info _) (by rw [setA_size, zero_set, setA_size]) (setA_all _) ?_; rw [← HW4.out]))
            rw [← HW5.out]
            clear c0 c1 c2 q1 q2 HB3 HW3 HW4 HW5 HBB
            have HLET := Lib.hid (gletters_any S w5)
            have hrx := fun (w' : World) (F : Nat → Prop) => gset_rxv w' F S
            obtain ⟨u0, hu0⟩ : ∃ u, u = wd S 0 := ⟨_, rfl⟩
            obtain ⟨u1, hu1⟩ : ∃ u, u = wd S 1 := ⟨_, rfl⟩
            obtain ⟨u2, hu2⟩ : ∃ u, u = wd S 2 := ⟨_, rfl⟩
            obtain ⟨u3, hu3⟩ : ∃ u, u = wd S 3 := ⟨_, rfl⟩
            rw [← hu0, ← hu1, ← hu2, ← hu3] at HLET
            simp only [← hu0, ← hu1, ← hu2, ← hu3] at hrx
            have HRX := Lib.hid hrx
            clear hrx hu0 hu1 hu2 hu3
            go_wp2_with (first | refine wpList_load_row rfl 95 _ rfl B rfl 95 (setA S) (0, 0) _ HB5.out Tryd.underlying95 rfl (set_info _) ?_)
            refine HLET.out.mono ?_
            rintro ee w8 ⟨rfl, hb8⟩
            have HS8 := Lib.hid (HS5.out.below hb8)
            have HR8 := Lib.hid (HR5.out.below hb8 HR5.out.lt)
            have HK8 := Lib.hid (HK5.out.then_ (Kept.of_below hb8))
            clear hb8 HLET HS5 HR5 HK5
            obtain ⟨⟨⟨r0, r1⟩, r2, r3⟩, ⟨r4, r5⟩, r6, r7⟩ := HR8.out.cells
            obtain ⟨⟨⟨z0, z1⟩, z2, z3⟩, ⟨z4, z5⟩, z6, z7⟩ := HR8.out.free
            have HF9 := Lib.hid (HR8.out.all (.int .i64 2) (.int .u64 u0) (.int .u64 u1) (.int .u64 u2) (.int .u64 u3) (.int .i64 0) (.int .i64 0) (.slice none 0 0))
            have HG9 := Lib.hid (show GS T (set8 w8 w.heap.size (.int .i64 2) (.int .u64 u0) (.int .u64 u1) (.int .u64 u2) (.int .u64 u3) (.int .i64 0) (.int .i64 0) (.slice none 0 0)) g _ _ from Blk.set8 HS8.out (by omega) (.int .i64 2) (.int .u64 u0) (.int .u64 u1) (.int .u64 u2) (.int .u64 u3) (.int .i64 0) (.int .i64 0) (.slice none 0 0))
            have HK9 := Lib.hid (kept_set8 HK8.out (.inr (Nat.le_refl w.heap.size)) (.int .i64 2) (.int .u64 u0) (.int .u64 u1) (.int .u64 u2) (.int .u64 u3) (.int .i64 0) (.int .i64 0) (.slice none 0 0))
            go_wp2_with fail
            obtain ⟨⟨⟨d0, d1⟩, d2, d3⟩, ⟨d4, d5⟩, d6, d7⟩ := HF9.out.cells
            unfold set8 at d0 d1 d2 d3 d4 d5 d6 d7
            refine bodyPost_ret (v := .agg #[.int .i64 2, .int .u64 u0, .int .u64 u1, .int .u64 u2, .int .u64 u3, .int .i64 0, .int .i64 0, .slice none 0 0]) (by simp [results, Tryd.results77, go_sem, d0, d1, d2, d3, d4, d5, d6, d7]) rfl ?_
            rw [HCL9.out]
            exact ⟨_, rfl, HRX.out _ _, HG9.out, HK9.out⟩
          · subst hc0
            have he5 := HS4.out.end HK4.out true (e + 1)
            have hb5 : Blk ((w4.setCell ⟨g, 2, none⟩ (.bool true)).setCell ⟨g, 1, none⟩ (.int .i64 ((e + 1 : Nat) : Int))) B 95 (setA S) := Blk.far (Blk.far HB4.out (p := ⟨g, 2, none⟩) (by show B ≠ g; omega) _) (p := ⟨g, 1, none⟩) (by show B ≠ g; omega) _
            have hr5 : R8 ((w4.setCell ⟨g, 2, none⟩ (.bool true)).setCell ⟨g, 1, none⟩ (.int .i64 ((e + 1 : Nat) : Int))) w.heap.size (.int .i64 0) (.int .u64 0) (.int .u64 0) (.int .u64 0) (.int .u64 0) (.int .i64 0) (.int .i64 0) (.slice none 0 0) := Blk.far (Blk.far HR4.out (p := ⟨g, 2, none⟩) (by show w.heap.size ≠ g; omega) _) (p := ⟨g, 1, none⟩) (by show w.heap.size ≠ g; omega) _
            obtain ⟨w5, hw5⟩ : ∃ w5, w5 = (w4.setCell ⟨g, 2, none⟩ (.bool true)).setCell ⟨g, 1, none⟩ (.int .i64 ((e + 1 : Nat) : Int)) := ⟨_, rfl⟩
            rw [← hw5] at he5 hb5 hr5
            rw [show ((e + 1 : Nat) : Int) = (e : Int) + 1 by omega] at hw5
            have HS5 := Lib.hid he5.1
            have HK5 := Lib.hid he5.2
            have HB5 := Lib.hid hb5
            have HR5 := Lib.hid hr5
            have HW5 := Lib.hid hw5
            have HCL9 := Lib.hid hcl
            clear he5 hb5 hr5 hw5 hcl HCQ HS4 HK4 HB4 HR4
            go_upto_region 18 with (first | (rw [← HW3.out, ← HBB.out]; refine wpList_store_row rfl 95 _ _ rfl B (setA S) rfl rfl 95 Tryd.zeroCells95 HB3.out (set_info _) (by rw [setA_size, zero_set, setA_size]) (setA_all _) ?_; rw [← HW4.out]))
            rw [← HW5.out]
            clear c0 c1 c2 q1 q2 HB3 HW3 HW4 HW5 HBB
            have HLET := Lib.hid (gletters_any S w5)
            have hrx := fun (w' : World) (F : Nat → Prop) => gset_rxv w' F S
            obtain ⟨u0, hu0⟩ : ∃ u, u = wd S 0 := ⟨_, rfl⟩
            obtain ⟨u1, hu1⟩ : ∃ u, u = wd S 1 := ⟨_, rfl⟩
            obtain ⟨u2, hu2⟩ : ∃ u, u = wd S 2 := ⟨_, rfl⟩
            obtain ⟨u3, hu3⟩ : ∃ u, u = wd S 3 := ⟨_, rfl⟩
            rw [← hu0, ← hu1, ← hu2, ← hu3] at HLET
            simp only [← hu0, ← hu1, ← hu2, ← hu3] at hrx
            have HRX := Lib.hid hrx
            clear hrx hu0 hu1 hu2 hu3
            go_wp2_with (first | refine wpList_load_row rfl 95 _ rfl B rfl 95 (setA S) (0, 0) _ HB5.out Tryd.underlying95 rfl (set_info _) ?_)
            refine HLET.out.mono ?_
            rintro ee w8 ⟨rfl, hb8⟩
            have HS8 := Lib.hid (HS5.out.below hb8)
            have HR8 := Lib.hid (HR5.out.below hb8 HR5.out.lt)
            have HK8 := Lib.hid (HK5.out.then_ (Kept.of_below hb8))
            clear hb8 HLET HS5 HR5 HK5
            obtain ⟨⟨⟨r0, r1⟩, r2, r3⟩, ⟨r4, r5⟩, r6, r7⟩ := HR8.out.cells
            obtain ⟨⟨⟨z0, z1⟩, z2, z3⟩, ⟨z4, z5⟩, z6, z7⟩ := HR8.out.free
            have HF9 := Lib.hid (HR8.out.all (.int .i64 2) (.int .u64 u0) (.int .u64 u1) (.int .u64 u2) (.int .u64 u3) (.int .i64 0) (.int .i64 0) (.slice none 0 0))
            have HG9 := Lib.hid (show GS T (set8 w8 w.heap.size (.int .i64 2) (.int .u64 u0) (.int .u64 u1) (.int .u64 u2) (.int .u64 u3) (.int .i64 0) (.int .i64 0) (.slice none 0 0)) g _ _ from Blk.set8 HS8.out (by omega) (.int .i64 2) (.int .u64 u0) (.int .u64 u1) (.int .u64 u2) (.int .u64 u3) (.int .i64 0) (.int .i64 0) (.slice none 0 0))
            have HK9 := Lib.hid (kept_set8 HK8.out (.inr (Nat.le_refl w.heap.size)) (.int .i64 2) (.int .u64 u0) (.int .u64 u1) (.int .u64 u2) (.int .u64 u3) (.int .i64 0) (.int .i64 0) (.slice none 0 0))
            go_wp2_with fail
            obtain ⟨⟨⟨d0, d1⟩, d2, d3⟩, ⟨d4, d5⟩, d6, d7⟩ := HF9.out.cells
            unfold set8 at d0 d1 d2 d3 d4 d5 d6 d7
            refine bodyPost_ret (v := .agg #[.int .i64 2, .int .u64 u0, .int .u64 u1, .int .u64 u2, .int .u64 u3, .int .i64 0, .int .i64 0, .slice none 0 0]) (by simp [results, Tryd.results77, go_sem, d0, d1, d2, d3, d4, d5, d6, d7]) rfl ?_
            rw [HCL9.out]
            exact ⟨_, rfl, HRX.out _ _, HG9.out, HK9.out⟩
        have t1 : ((b.toNat : Int) == 93) = false := glit (c := 93) h93
        have t2 : ((b.toNat : Int) != 93) = true := by rw [show (93 : Int) = ((93 : UInt8).toNat : Int) from rfl, u8_ne_int]; exact bne_iff_ne.2 h93
        rw [if_neg h93] at hE2
        by_cases h92 : b = 92
        · have t3 : ((b.toNat : Int) == 92) = true := by rw [h92]; rfl
          rw [if_pos h92] at hE2
          have HP := Lib.hid (show endP T f (e + 2) = RE by
            rcases h1 : T[e + 1]? with _ | b1
            · rw [h1] at hE2
              rw [← hE2]
              have hl1 := List.getElem?_eq_none_iff.1 h1
              cases f with
              | zero => rfl
              | succ f => rw [endP, List.getElem?_eq_none (by omega)]
            · rw [h1] at hE2
              exact hE2)
          clear hE hE2 hb h92 h93
          go_wp2_with fail
          go_roundg f
          case measure => omega
          case rel => exact ⟨e + 2, congrArg (Value.int .i64) (by omega), ⟨by omega, by omega, by omega⟩, HP, rfl⟩
        · have t3 : ((b.toNat : Int) == 92) = false := glit (c := 92) h92
          rw [if_neg h92] at hE2
          have HP := Lib.hid hE2
          clear hE hE2 hb h92 h93
          go_wp2_with fail
          go_roundg f
          case measure => omega
          case rel => exact ⟨e + 1, congrArg (Value.int .i64) (by omega), ⟨by omega, by omega, by omega⟩, HP, rfl⟩
end Go.Proofs.YtpiagfmjekcncaaDoor
