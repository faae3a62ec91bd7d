/- The walk of the document's sequence (printed by gen_gn.py). -/
import Derived.Test.YtpiagfmjekcncaaDoorjGm
import Derived.Test.YtpiagfmjekcncaaDoorjExpr
import Derived.Deep.CutBlock
set_option linter.unusedVariables false
set_option linter.unusedSimpArgs false
set_option linter.unusedSectionVars false
namespace Go.Proofs.YtpiagfmjekcncaaDoor
open Go.RowKit
/-- The state of sequence and of expression. -/
structure LqSt (T : List UInt8) (w : World) (g : Nat) (l : List Rx) (css : List Value) (v : Value) (k : Nat) (b : Bool) (wr : World) : Prop where
  s : GS T wr g k b
  l : LSt (w.heap.size + 1) v l css wr
  z : R8 wr w.heap.size (.int .i64 0) (.int .u64 0) (.int .u64 0) (.int .u64 0) (.int .u64 0) (.int .i64 0) (.int .i64 0) (.slice none 0 0)
  k : Kept (isG g) w wr
section
variable {T : List UInt8} {w : World} {g : Nat} {l : List Rx} {css : List Value} {v : Value} {k : Nat} {b : Bool} {wr : World}
theorem LqSt.kept {w' : World} {k' : Nat} {b' : Bool} (h : LqSt T w g l css v k b wr) (hg : g < w.heap.size) (hk : Kept (isG g) wr w') (hs : GS T w' g k' b') : LqSt T w g l css v k' b' w' :=
  ⟨hs, h.l.kept hk (fun i h1 _ e => by have e' : i = g := e; omega), h.z.kept hk (fun e => by have e' : w.heap.size = g := e; omega), h.k.then_ hk⟩
theorem LqSt.drewN (h : LqSt T w g l css v k b wr) (hg : g < w.heap.size) (n : Nat) : LqSt T w g l css v k b (wr.drewN n) := h.kept hg ((Kept.refl (isG g) wr).drewN n) (h.s.drewN n)
theorem LqSt.at (h : LqSt T w g l css v k b wr) (hg : g < w.heap.size) (k' : Nat) : LqSt T w g l css v k' b (wr.setCell ⟨g, 1, none⟩ (.int .i64 k')) :=
  h.kept hg ((Kept.refl (isG g) wr).setCell (p := ⟨g, 1, none⟩) (.inl rfl) _) (h.s.go k')
theorem LqSt.push {lo hi : Nat} {w5 : World} {v5 : Value} {r : Rx} {cs : List Value} {o : Obj} (h : LqSt T w g l css v k b wr) (hg : g < w.heap.size) (hv : RxV wr (grg lo hi) r cs) (hlo : w.heap.size < lo) (hb : ∀ i, v.ownBlock = some i → i < lo)
    (hown5 : w5.ownsRow (w.heap.size + 1) 27 8 v5 (l.length + 1) (css ++ cs)) (hg5 : (wr.alloc o).grownBy w5 v.ownBlock) (hv5 : v5.ownBlock = v.ownBlock ∨ v5.ownBlock = some (wr.heap.size + 1)) : LqSt T w g (l ++ [r]) (css ++ cs) v5 k b w5 := by
  have hge := fun i (e : v.ownBlock = some i) => own_ge h.l.1 e
  have h45 : Kept (fun i => v.ownBlock = some i) (wr.alloc o) w5 := Kept.of_grown hg5 fun gg e => e
  have h4a : Kept (fun _ => False) wr (wr.alloc o) := (Kept.refl _ _).alloc o
  refine ⟨GS.kept (h.s.alloc o) h45 (fun e => by have := hge _ e; omega), ?_, R8.kept (h.z.alloc o) h45 (fun e => by have := hge _ e; omega), (h.k.alloc o).trans (h45.mono fun i e => .inr (by have := hge _ e; omega))⟩
  refine LSt.push (F := fun i => grg lo hi i ∧ i < wr.heap.size) ?_ hown5 hg5 (by simpa using hv5) (hv.kept h4a (fun _ _ _ => id) fun _ h hl => ⟨h, hl⟩) fun i hi hl' => ⟨by have := hi.1.1; omega, fun e => by have := hb _ e; have := hi.1.1; omega⟩
  exact h.l.2.kept h4a (fun _ _ _ => id) fun i hi hl' => ⟨hi.1, by simp; omega, hi.2.2⟩
end
theorem gplain_rxv {w : World} {F : Nat → Prop} {l : List Rx} {css : List Value} {A : Option Addr} {n c : Nat} (kd : Nat) (hn : n = l.length) (hr : RdF w F 8 A n css) (hv : RxVs w F l css) : RxV w F (Rx.plain kd l) [.int .i64 kd, .int .u64 0, .int .u64 0, .int .u64 0, .int .u64 0, .int .i64 0, .int .i64 0, .slice A n c] := by
  unfold Rx.plain RxV
  rw [hn] at hr ⊢
  exact ⟨A, c, css, rfl, hr, hv⟩
theorem gr_seqL_stop {T : List UInt8} {E : Nat → Rx × Nat × Bool} {l : List Rx} {k : Nat} {b : Bool} (h : (stopP T k || b) = true) (f : Nat) : Gr.seqL T E f l k b = (l, k, b) := by
  cases f with
  | zero => rfl
  | succ f => rw [Gr.seqL, if_pos h]
theorem gr_altL_stop {T : List UInt8} {E : Nat → Rx × Nat × Bool} {l : List Rx} {k : Nat} {b : Bool} (h : ¬ (T[k]? = some 124 ∧ b = false)) (f : Nat) : Gr.altL T E f l k b = (l, k, b) := by
  cases f with
  | zero => rfl
  | succ f => rw [Gr.altL, if_neg h]
theorem Rx.seq_many {l : List Rx} (h : 2 ≤ l.length) : Rx.seq l = Rx.plain 3 l := by
  match l, h with
  | r :: q :: l, _ => rfl
/-- Why a sequence stops. -/
theorem gr_stop {T : List UInt8} {k : Nat} {b : Bool} {cc : UInt8} (hc : cc = Gr.nx T k) : ((stopP T k || b) = true ∧ (T.length ≤ k ∨ (k < T.length ∧ cc = 124) ∨ (k < T.length ∧ ¬ cc = 124 ∧ cc = 41) ∨ (k < T.length ∧ ¬ cc = 124 ∧ ¬ cc = 41 ∧ b = true))) ∨ ((stopP T k || b) = false ∧ k < T.length ∧ ¬ cc = 124 ∧ ¬ cc = 41 ∧ b = false) := by
  rcases Nat.lt_or_ge k T.length with h | h
  · have e : T[k]? = some cc := by
      rw [hc, List.getElem?_eq_getElem h]
      exact congrArg some (gr_nx_at (List.getElem?_eq_getElem h)).symm
    have hd : decide (T.length ≤ k) = false := decide_eq_false (by omega)
    unfold stopP
    rw [e, hd]
    by_cases h1 : cc = 124
    · exact .inl ⟨by rw [h1]; rfl, .inr (.inl ⟨h, h1⟩)⟩
    by_cases h2 : cc = 41
    · exact .inl ⟨by rw [h2]; rfl, .inr (.inr (.inl ⟨h, h1, h2⟩))⟩
    cases b with
    | true => exact .inl ⟨by simp, .inr (.inr (.inr ⟨h, h1, h2, rfl⟩))⟩
    | false => exact .inr ⟨by simp [h1, h2], h, h1, h2, rfl⟩
  · exact .inl ⟨by unfold stopP; rw [decide_eq_true h]; rfl, .inl h⟩
theorem gr_bar {T : List UInt8} {k : Nat} {b : Bool} {cc : UInt8} (hc : cc = Gr.nx T k) : (¬ (T[k]? = some 124 ∧ b = false) ∧ (T.length ≤ k ∨ (k < T.length ∧ ¬ cc = 124) ∨ (k < T.length ∧ cc = 124 ∧ b = true))) ∨ ((T[k]? = some 124 ∧ b = false) ∧ k < T.length ∧ cc = 124 ∧ b = false) := by
  rcases Nat.lt_or_ge k T.length with h | h
  · have e : T[k]? = some cc := by
      rw [hc, List.getElem?_eq_getElem h]
      exact congrArg some (gr_nx_at (List.getElem?_eq_getElem h)).symm
    rw [e]
    by_cases h1 : cc = 124
    · cases b with
      | true => exact .inl ⟨fun h => by simp at h, .inr (.inr ⟨h, h1, rfl⟩)⟩
      | false => exact .inr ⟨⟨by rw [h1], rfl⟩, h, h1, rfl⟩
    · exact .inl ⟨fun hh => h1 (by injection hh.1), .inr (.inl ⟨h, h1⟩)⟩
  · exact .inl ⟨fun hh => (by rw [List.getElem?_eq_none h] at hh; cases hh.1), .inl h⟩
set_option maxRecDepth 100000 in
set_option maxHeartbeats 8000000 in
theorem gsequence_any {T : List UInt8} {g k0 d : Nat} (E : Nat → Rx × Nat × Bool) (w : World) (h : GS T w g k0 false) (hT : T.length ≤ 262144) (hk : k0 ≤ T.length) (hd : d ≤ 300000) (hd2 : 2 ≤ d) (hO : Gr.Ok T d E)
    (hE : ∀ k1 w1, k0 < k1 → k1 ≤ T.length → GS T w1 g k1 false → Calls Tryd.prog 20 #[.pointer (some ⟨g, 0, none⟩)] w1 (GTEnd T w1 g (E k1))) : Calls Tryd.prog 35 #[.pointer (some ⟨g, 0, none⟩)] w (GTEnd T w g (Gr.sqn T E k0)) := by
  obtain ⟨i0, hinf, hz0, hz1, hz2⟩ := info_parts infoR
  have HI := Lib.hid hinf
  have HI0 := Lib.hid hz0
  have HI1 := Lib.hid hz1
  have HI2 := Lib.hid hz2
  clear hinf hz0 hz1 hz2
  have hg := h.lt
  obtain ⟨Z, hZ⟩ : ∃ Z, Z = Gr.sqn T E k0 := ⟨_, rfl⟩
  rw [← hZ]
  unfold Gr.sqn at hZ
  obtain ⟨R, hR⟩ : ∃ R, R = Gr.seqL T E (T.length + 2) [] k0 false := ⟨_, rfl⟩
  rw [← hR] at hZ
  have HZ := Lib.hid hZ
  have HR := Lib.hid hR
  have HO := Lib.hid hO
  have HC := Lib.hid (fun k1 w1 (h0 : k0 ≤ k1) (hl : k1 < T.length) (hs : GS T w1 g k1 false) => gcounted_any E w1 hs hT hl hd hd2 hO (fun k2 w2 h2 h3 h4 => hE k2 w2 (by omega) h3 h4))
  have HLQ := Lib.hid (⟨h.alloc _, LSt.nil _ _, R8.mk0 w w.heap.size rfl, (Kept.refl _ w).alloc _⟩ : LqSt T w g [] [] (.slice none 0 0) k0 false (w.alloc (.cells #[.int .i64 0, .int .u64 0, .int .u64 0, .int .u64 0, .int .u64 0, .int .i64 0, .int .i64 0, .slice none 0 0] 27)))
  obtain ⟨w1, hw1⟩ : ∃ w1, w1 = w.alloc (.cells #[.int .i64 0, .int .u64 0, .int .u64 0, .int .u64 0, .int .u64 0, .int .i64 0, .int .i64 0, .slice none 0 0] 27) := ⟨_, rfl⟩
  rw [← hw1] at HLQ
  have HW1 := Lib.hid hw1
  clear h hw1 hZ hR hE hO
  go_enter Tryd.func35, Tryd.ntmps35
  go_upto_block 0 with (fail)
  rw [← HW1.out]
  clear HW1
  go_cut [3] (fun v wc => ∃ (l : List Rx) (css : List Value) (k : Nat) (b : Bool), l.length ≤ T.length + 2 ∧ Hid (Z = (Rx.seq l, k, b)) ∧ Hid (LqSt T w g l css v k b wc))
  case first =>
    go_wp2_with fail
    go_loopg [3] (T.length + 2) (fun f v wr => ∃ (l : List Rx) (css : List Value) (k : Nat) (b : Bool), l.length ≤ T.length + 1 ∧ (k0 ≤ k ∧ k ≤ T.length + d + 1 ∧ (b = false → k ≤ T.length ∧ l.length ≤ k ∧ T.length + 2 ≤ k + f)) ∧ Hid (Gr.seqL T E f l k b = R) ∧ Hid (LqSt T w g l css v k b wr))
    case atStart => exact ⟨[], [], k0, false, by simp, ⟨Nat.le_refl _, by omega, fun _ => ⟨hk, by simp, by omega⟩⟩, Lib.hid HR.out.symm, HLQ⟩
    case round =>
      obtain ⟨l, css, k, b, hlen, ⟨hk1, hk2, hkb⟩, hP, hlq⟩ := hrel
      obtain ⟨cc, hcc⟩ : ∃ cc, cc = Gr.nx T k := ⟨_, rfl⟩
      have HN := Lib.hid (gnext_any wr hlq.out.s hT (by omega))
      rw [← hcc] at HN
      obtain ⟨c0, c1, c2, q1, q2⟩ := hlq.out.s.cells
      obtain ⟨uc0, uc1⟩ := u8b cc
      obtain ⟨wo, hwo⟩ : ∃ wo, wo = wr := ⟨_, rfl⟩
      subst hwo
      have HLQ2 := Lib.hid hlq.out
      have hP2 := hP.out
      clear hP hlq HLQ
      rcases gr_stop (b := b) hcc with ⟨hst, hx⟩ | ⟨hst, hkl, h124, h41, rfl⟩
      · rw [gr_seqL_stop hst] at hP2
        have HP := Lib.hid (show Z = (Rx.seq l, k, b) by rw [HZ.out, ← hP2])
        clear hP2 hst hcc hkb HZ HR HC
        rcases hx with hge | ⟨hkl, h124⟩ | ⟨hkl, h124, h41⟩ | ⟨hkl, h124, h41, rfl⟩
        · have e0 : decide (k < T.length) = false := decide_eq_false (by omega)
          rw [e0] at HN
          go_wp2_with fail
          refine HN.out.mono ?_
          rintro ee w4 ⟨rfl, n4, rfl⟩
          have HLQ4 := Lib.hid (HLQ2.out.drewN hg n4)
          obtain ⟨w4, hw4⟩ : ∃ w4, w4 = wo.drewN n4 := ⟨_, rfl⟩
          rw [← hw4] at HLQ4 ⊢
          clear hw4 HLQ2 HN c0 c1 c2 q1 q2
          obtain ⟨c0, c1, c2, q1, q2⟩ := HLQ4.out.s.cells
          go_wp2_with fail
          go_meet
          case rel => exact ⟨l, css, k, b, by omega, HP, HLQ4⟩
        · have e0 : decide (k < T.length) = true := decide_eq_true (by omega)
          rw [e0] at HN
          have s124 : ((cc.toNat : Int) == 124) = true := by rw [h124]; rfl
          have n124 : ((cc.toNat : Int) != 124) = false := by rw [h124]; rfl
          go_wp2_with fail
          refine HN.out.mono ?_
          rintro ee w4 ⟨rfl, n4, rfl⟩
          have HLQ4 := Lib.hid (HLQ2.out.drewN hg n4)
          obtain ⟨w4, hw4⟩ : ∃ w4, w4 = wo.drewN n4 := ⟨_, rfl⟩
          rw [← hw4] at HLQ4 ⊢
          clear hw4 HLQ2 HN c0 c1 c2 q1 q2
          obtain ⟨c0, c1, c2, q1, q2⟩ := HLQ4.out.s.cells
          go_wp2_with fail
          go_meet
          case rel => exact ⟨l, css, k, b, by omega, HP, HLQ4⟩
        · have e0 : decide (k < T.length) = true := decide_eq_true (by omega)
          rw [e0] at HN
          have s124 : ((cc.toNat : Int) == 124) = false := glit (c := 124) h124
          have n124 : ((cc.toNat : Int) != 124) = true := by rw [show (124 : Int) = ((124 : UInt8).toNat : Int) from rfl, u8_ne_int]; exact bne_iff_ne.2 h124
          have s41 : ((cc.toNat : Int) == 41) = true := by rw [h41]; rfl
          have n41 : ((cc.toNat : Int) != 41) = false := by rw [h41]; rfl
          go_wp2_with fail
          refine HN.out.mono ?_
          rintro ee w4 ⟨rfl, n4, rfl⟩
          have HLQ4 := Lib.hid (HLQ2.out.drewN hg n4)
          obtain ⟨w4, hw4⟩ : ∃ w4, w4 = wo.drewN n4 := ⟨_, rfl⟩
          rw [← hw4] at HLQ4 ⊢
          clear hw4 HLQ2 HN c0 c1 c2 q1 q2
          obtain ⟨c0, c1, c2, q1, q2⟩ := HLQ4.out.s.cells
          go_wp2_with fail
          go_meet
          case rel => exact ⟨l, css, k, b, by omega, HP, HLQ4⟩
        · have e0 : decide (k < T.length) = true := decide_eq_true (by omega)
          rw [e0] at HN
          have s124 : ((cc.toNat : Int) == 124) = false := glit (c := 124) h124
          have n124 : ((cc.toNat : Int) != 124) = true := by rw [show (124 : Int) = ((124 : UInt8).toNat : Int) from rfl, u8_ne_int]; exact bne_iff_ne.2 h124
          have s41 : ((cc.toNat : Int) == 41) = false := glit (c := 41) h41
          have n41 : ((cc.toNat : Int) != 41) = true := by rw [show (41 : Int) = ((41 : UInt8).toNat : Int) from rfl, u8_ne_int]; exact bne_iff_ne.2 h41
          go_wp2_with fail
          refine HN.out.mono ?_
          rintro ee w4 ⟨rfl, n4, rfl⟩
          have HLQ4 := Lib.hid (HLQ2.out.drewN hg n4)
          obtain ⟨w4, hw4⟩ : ∃ w4, w4 = wo.drewN n4 := ⟨_, rfl⟩
          rw [← hw4] at HLQ4 ⊢
          clear hw4 HLQ2 HN c0 c1 c2 q1 q2
          obtain ⟨c0, c1, c2, q1, q2⟩ := HLQ4.out.s.cells
          go_wp2_with fail
          go_meet
          case rel => exact ⟨l, css, k, true, by omega, HP, HLQ4⟩
      · obtain ⟨hk3, hk4, hk5⟩ := hkb rfl
        obtain ⟨f, rfl⟩ : ∃ f, gk = f + 1 := ⟨gk - 1, by omega⟩
        rw [Gr.seqL, if_neg (by rw [hst]; decide)] at hP2
        have hcle := gr_cnt_le hd2 HO.out hkl
        obtain ⟨r5, k5, b5, hr5⟩ : ∃ r5 k5 b5, Gr.cnt T E k = (r5, k5, b5) := ⟨_, _, _, rfl⟩
        have HCC := Lib.hid (fun w1 hs => HC.out k w1 hk1 hkl hs)
        rw [hr5] at hP2 hcle HCC
        dsimp only at hP2 hcle
        obtain ⟨hq1, hq2, hq3⟩ := hcle
        have HPn := Lib.hid hP2
        clear hP2 hr5 hst hcc hkb HZ HR HC
        have e0 : decide (k < T.length) = true := decide_eq_true (by omega)
        rw [e0] at HN
        have s124 : ((cc.toNat : Int) == 124) = false := glit (c := 124) h124
        have n124 : ((cc.toNat : Int) != 124) = true := by rw [show (124 : Int) = ((124 : UInt8).toNat : Int) from rfl, u8_ne_int]; exact bne_iff_ne.2 h124
        have s41 : ((cc.toNat : Int) == 41) = false := glit (c := 41) h41
        have n41 : ((cc.toNat : Int) != 41) = true := by rw [show (41 : Int) = ((41 : UInt8).toNat : Int) from rfl, u8_ne_int]; exact bne_iff_ne.2 h41
        go_wp2_with fail
        refine HN.out.mono ?_
        rintro ee w4 ⟨rfl, n4, rfl⟩
        have HLQ4 := Lib.hid (HLQ2.out.drewN hg n4)
        obtain ⟨w4, hw4⟩ : ∃ w4, w4 = wo.drewN n4 := ⟨_, rfl⟩
        rw [← hw4] at HLQ4 ⊢
        clear hw4 HLQ2 HN c0 c1 c2 q1 q2
        obtain ⟨c0, c1, c2, q1, q2⟩ := HLQ4.out.s.cells
        go_wp2_with fail
        refine (HCC.out _ HLQ4.out.s).mono ?_
        rintro ee w5 ⟨cs, rfl, hv, hs5, hk5⟩
        dsimp only at hv hs5
        obtain ⟨kd, a0, a1, a2, a3, lo, hi, A, n, c, rfl⟩ := hv.eight
        have HVR := Lib.hid hv
        have HOW := Lib.hid (fun (i : Nat) e => own_ge (i := i) HLQ4.out.l.1 e)
        have HWZ := Lib.hid HLQ4.out.z.lt
        have HLQ5 := Lib.hid (HLQ4.out.kept hg hk5 hs5)
        have ho4 := HLQ5.out.l.1.alloc (.cells #[.int .i64 kd, .int .u64 a0, .int .u64 a1, .int .u64 a2, .int .u64 a3, .int .i64 lo, .int .i64 hi, .slice A n c] 27)
        have hrr := reads8 w5 (.int .i64 kd) (.int .u64 a0) (.int .u64 a1) (.int .u64 a2) (.int .u64 a3) (.int .i64 lo) (.int .i64 hi) (.slice A n c)
        have hone : ∀ u ∈ ([.int .i64 kd, .int .u64 a0, .int .u64 a1, .int .u64 a2, .int .u64 a3, .int .i64 lo, .int .i64 hi, .slice A n c] : List Value), u.oneCell' = true := by simp [Value.oneCell']
        have hs45 : w4.heap.size ≤ w5.heap.size := hk5.size
        have hwz := HWZ.out
        have hinf := HI.out
        have hz0 := HI0.out
        have hz1 := HI1.out
        have hz2 := HI2.out
        clear hv hs5 hk5 c0 c1 c2 q1 q2
        go_wp2_with (at_builtin; refine wpList_append_any _ rfl (.tmp 27) (.tmp 30) 25 rfl (w.heap.size + 1) 27 i0 (.agg #[.int .i64 0, .int .u64 0, .int .u64 0, .int .u64 0, .int .u64 0, .int .i64 0, .int .i64 0, .slice none 0 0]) 8 80 Tryd.underlying25 hinf hz0 hz1 hz2 rfl (by decide) _ l.length css rfl ho4 _ _ _ _ [.int .i64 kd, .int .u64 a0, .int .u64 a1, .int .u64 a2, .int .u64 a3, .int .i64 lo, .int .i64 hi, .slice A n c] rfl hrr hone (by unfold maxLen; omega) (by omega) (by simp; omega) ?_)
        intro v5 w6 hown5 hg5 hv5
        clear hinf hz0 hz1 hz2 ho4 hrr hone
        have HLN := Lib.hid (HLQ5.out.push hg HVR.out hwz (fun i e => (HOW.out i e).2) hown5 hg5 hv5)
        clear hown5 hg5 hv5 HLQ5 HVR HOW HWZ HLQ4
        go_wp2_with fail
        go_roundg f
        case measure => omega
        case rel => exact ⟨_, _, k5, b5, by simp; omega, ⟨by omega, by omega, fun e => by have := hq3 e; simp; omega⟩, HPn, HLN⟩
  case rest =>
  obtain ⟨l, css, k, b, hlen, HP, HLQ⟩ := hcut
  clear HZ HR HC HO
  have HRx := Lib.hid HLQ.out.z
  have HSx := Lib.hid HLQ.out.s
  have HKx := Lib.hid HLQ.out.k
  have hLL := HLQ.out.l
  obtain ⟨A, c, rfl, hrd⟩ := own_form8 hLL.1
  have hvs := hLL.2
  clear HLQ hLL
  by_cases h2n : 2 ≤ l.length
  · obtain ⟨nl, hnl⟩ : ∃ nl, nl = l.length := ⟨_, rfl⟩
    have t0 : ((nl : Int) == 0) = false := by simp; omega
    have t1 : ((nl : Int) == 1) = false := by simp; omega
    rw [← hnl] at hrd hlen ⊢
    have HRD := Lib.hid hrd
    have HVS := Lib.hid hvs
    have HNL := Lib.hid hnl
    have hl2 : 2 ≤ nl := by omega
    rw [Rx.seq_many (by omega)] at HP
    clear hrd hvs hnl
    obtain ⟨⟨⟨r0, r1⟩, r2, r3⟩, ⟨r4, r5⟩, r6, r7⟩ := HRx.out.cells
    obtain ⟨⟨⟨z0, z1⟩, z2, z3⟩, ⟨z4, z5⟩, z6, z7⟩ := HRx.out.free
    have HF9 := Lib.hid (HRx.out.all (.int .i64 3) (.int .u64 0) (.int .u64 0) (.int .u64 0) (.int .u64 0) (.int .i64 0) (.int .i64 0) (.slice A nl c))
    have HG9 := Lib.hid (show GS T (set8 wc w.heap.size (.int .i64 3) (.int .u64 0) (.int .u64 0) (.int .u64 0) (.int .u64 0) (.int .i64 0) (.int .i64 0) (.slice A nl c)) g _ _ from Blk.set8 HSx.out (by omega) (.int .i64 3) (.int .u64 0) (.int .u64 0) (.int .u64 0) (.int .u64 0) (.int .i64 0) (.int .i64 0) (.slice A nl c))
    have HK9 := Lib.hid (kept_set8 HKx.out (.inr (Nat.le_refl w.heap.size)) (.int .i64 3) (.int .u64 0) (.int .u64 0) (.int .u64 0) (.int .u64 0) (.int .i64 0) (.int .i64 0) (.slice A nl c))
    go_wp2_with fail
    obtain ⟨⟨⟨d0, d1⟩, d2, d3⟩, ⟨d4, d5⟩, d6, d7⟩ := HF9.out.cells
    unfold set8 at d0 d1 d2 d3 d4 d5 d6 d7
    refine bodyPost_ret (v := .agg #[.int .i64 3, .int .u64 0, .int .u64 0, .int .u64 0, .int .u64 0, .int .i64 0, .int .i64 0, .slice A nl c]) (by simp [results, Tryd.results35, go_sem, d0, d1, d2, d3, d4, d5, d6, d7]) rfl ?_
    rw [HP.out]
    refine ⟨_, rfl, ?_, HG9.out, HK9.out⟩
    have hks := (kept_set8 (Kept.refl (fun i => i = w.heap.size) wc) (.inl rfl) (.int .i64 3) (.int .u64 0) (.int .u64 0) (.int .u64 0) (.int .u64 0) (.int .i64 0) (.int .i64 0) (.slice A nl c))
    exact gplain_rxv 3 HNL.out (HRD.out.keep (fun i hhi hl => hks.block i hl (fun e => by have e' : i = w.heap.size := e; have hh' : w.heap.size + 1 ≤ i := hhi; omega)) hks.size (fun i hhi hl => ⟨by have hh' : w.heap.size + 1 ≤ i := hhi; omega, Nat.lt_of_lt_of_le hl hks.size⟩)) (HVS.out.kept hks (fun i hhi _ e => by have e' : i = w.heap.size := e; have hh' := hhi.1; omega) (fun i hhi hl => ⟨by have hh' := hhi.1; omega, Nat.lt_of_lt_of_le hl (kept_set8 (Kept.refl (fun i => i = w.heap.size) wc) (.inl rfl) (.int .i64 3) (.int .u64 0) (.int .u64 0) (.int .u64 0) (.int .u64 0) (.int .i64 0) (.int .i64 0) (.slice A nl c)).size⟩))
  by_cases h0n : l.length = 0
  · obtain rfl : l = [] := List.length_eq_zero_iff.1 h0n
    simp only [List.length_nil] at hrd ⊢
    clear hrd hvs
    obtain ⟨⟨⟨r0, r1⟩, r2, r3⟩, ⟨r4, r5⟩, r6, r7⟩ := HRx.out.cells
    obtain ⟨⟨⟨z0, z1⟩, z2, z3⟩, ⟨z4, z5⟩, z6, z7⟩ := HRx.out.free
    have HF9 := Lib.hid (HRx.out.all (.int .i64 1) (.int .u64 0) (.int .u64 0) (.int .u64 0) (.int .u64 0) (.int .i64 0) (.int .i64 0) (.slice none 0 0))
    have HG9 := Lib.hid (show GS T (set8 wc w.heap.size (.int .i64 1) (.int .u64 0) (.int .u64 0) (.int .u64 0) (.int .u64 0) (.int .i64 0) (.int .i64 0) (.slice none 0 0)) g _ _ from Blk.set8 HSx.out (by omega) (.int .i64 1) (.int .u64 0) (.int .u64 0) (.int .u64 0) (.int .u64 0) (.int .i64 0) (.int .i64 0) (.slice none 0 0))
    have HK9 := Lib.hid (kept_set8 HKx.out (.inr (Nat.le_refl w.heap.size)) (.int .i64 1) (.int .u64 0) (.int .u64 0) (.int .u64 0) (.int .u64 0) (.int .i64 0) (.int .i64 0) (.slice none 0 0))
    go_wp2_with fail
    obtain ⟨⟨⟨d0, d1⟩, d2, d3⟩, ⟨d4, d5⟩, d6, d7⟩ := HF9.out.cells
    unfold set8 at d0 d1 d2 d3 d4 d5 d6 d7
    refine bodyPost_ret (v := .agg #[.int .i64 1, .int .u64 0, .int .u64 0, .int .u64 0, .int .u64 0, .int .i64 0, .int .i64 0, .slice none 0 0]) (by simp [results, Tryd.results35, go_sem, d0, d1, d2, d3, d4, d5, d6, d7]) rfl ?_
    rw [HP.out]
    refine ⟨_, rfl, ?_, HG9.out, HK9.out⟩
    exact gplain_rxv 1 rfl ⟨rfl, fun h => absurd h (by simp)⟩ (by unfold RxVs; rfl)
  obtain ⟨r1, rfl⟩ : ∃ r1, l = [r1] := by
    match l, h2n, h0n with
    | [r1], _, _ => exact ⟨r1, rfl⟩
    | [], _, h => exact absurd rfl h
    | _ :: _ :: _, h, _ => exact absurd (by simp) h
  obtain ⟨bq, oo, rfl, hFb, hbb, hcc⟩ := hrd.2 (by simp)
  have hvs1 := hvs
  unfold RxVs RxVs at hvs1
  obtain ⟨cs, css', rfl, hv1, rfl⟩ := hvs1
  rw [List.append_nil] at hcc
  obtain ⟨kd, a0, a1, a2, a3, lo, hi, A', n, c', rfl⟩ := hv1.eight
  have y0 := hcc 0 _ rfl
  have y1 := hcc 1 _ rfl
  have y2 := hcc 2 _ rfl
  have y3 := hcc 3 _ rfl
  have y4 := hcc 4 _ rfl
  have y5 := hcc 5 _ rfl
  have y6 := hcc 6 _ rfl
  have y7 := hcc 7 _ rfl
  rw [Nat.add_zero] at y0
  have HVV := Lib.hid hv1
  clear hcc hrd hvs hv1
  simp only [List.length_singleton]
  obtain ⟨⟨⟨r0, r1⟩, r2, r3⟩, ⟨r4, r5⟩, r6, r7⟩ := HRx.out.cells
  obtain ⟨⟨⟨z0, z1⟩, z2, z3⟩, ⟨z4, z5⟩, z6, z7⟩ := HRx.out.free
  have HF9 := Lib.hid (HRx.out.all (.int .i64 kd) (.int .u64 a0) (.int .u64 a1) (.int .u64 a2) (.int .u64 a3) (.int .i64 lo) (.int .i64 hi) (.slice A' n c'))
  have HG9 := Lib.hid (show GS T (set8 wc w.heap.size (.int .i64 kd) (.int .u64 a0) (.int .u64 a1) (.int .u64 a2) (.int .u64 a3) (.int .i64 lo) (.int .i64 hi) (.slice A' n c')) g _ _ from Blk.set8 HSx.out (by omega) (.int .i64 kd) (.int .u64 a0) (.int .u64 a1) (.int .u64 a2) (.int .u64 a3) (.int .i64 lo) (.int .i64 hi) (.slice A' n c'))
  have HK9 := Lib.hid (kept_set8 HKx.out (.inr (Nat.le_refl w.heap.size)) (.int .i64 kd) (.int .u64 a0) (.int .u64 a1) (.int .u64 a2) (.int .u64 a3) (.int .i64 lo) (.int .i64 hi) (.slice A' n c'))
  go_wp2_with fail
  obtain ⟨⟨⟨d0, d1⟩, d2, d3⟩, ⟨d4, d5⟩, d6, d7⟩ := HF9.out.cells
  unfold set8 at d0 d1 d2 d3 d4 d5 d6 d7
  refine bodyPost_ret (v := .agg #[.int .i64 kd, .int .u64 a0, .int .u64 a1, .int .u64 a2, .int .u64 a3, .int .i64 lo, .int .i64 hi, .slice A' n c']) (by simp [results, Tryd.results35, go_sem, d0, d1, d2, d3, d4, d5, d6, d7]) rfl ?_
  rw [HP.out]
  refine ⟨_, rfl, HVV.out.kept (kept_set8 (Kept.refl (fun i => i = w.heap.size) wc) (.inl rfl) (.int .i64 kd) (.int .u64 a0) (.int .u64 a1) (.int .u64 a2) (.int .u64 a3) (.int .i64 lo) (.int .i64 hi) (.slice A' n c')) (fun i hhi _ e => by have e' : i = w.heap.size := e; have hh' := hhi.1; omega) (fun i hhi hl => ⟨by have hh' := hhi.1; omega, Nat.lt_of_lt_of_le hl (kept_set8 (Kept.refl (fun i => i = w.heap.size) wc) (.inl rfl) (.int .i64 kd) (.int .u64 a0) (.int .u64 a1) (.int .u64 a2) (.int .u64 a3) (.int .i64 lo) (.int .i64 hi) (.slice A' n c')).size⟩), HG9.out, HK9.out⟩
end Go.Proofs.YtpiagfmjekcncaaDoor
