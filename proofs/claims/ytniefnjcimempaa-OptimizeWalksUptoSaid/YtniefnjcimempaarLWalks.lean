/- The walk of the law OptimizeWalks: rules applied one at a time end with the optimized plan (printed by gen_lopt.py). -/
import Derived.Test.YtniefnjcimempaarRzA
import Derived.Test.YtniefnjcimempaarRzB
import Derived.Test.YtniefnjcimempaarRzC
import Derived.Test.YtniefnjcimempaarRl
import Derived.Deep.DeepCutAuto
namespace Go.Proofs.Ytniefnjcimempaa
open Go.RowKit
theorem costR_le (n : List UInt8) : costR n ≤ 64 := by
  unfold costR
  split
  · omega
  · split
    · omega
    · split
      · omega
      · split <;> omega
theorem costL_le : ∀ l : List St, costL l ≤ 64 * (l.length : Int)
  | [] => by unfold costL; simp
  | s :: l => by
    rw [costL_cons]
    have := costR_le s.op
    have := costL_le l
    simp only [List.length_cons]
    omega
def WkRel (w : World) (X gr : Nat) (l : List St) (f : Nat) (v i : Value) (wr : World) : Prop := ∃ (k : Nat) (left : Int) (lc : List St) (Ac : Option Addr) (cc : Nat), i = .int .i64 k ∧ v = .int .i64 left ∧ k ≤ 11 ∧ left ≤ 10000000 ∧ Hid (costL lc ≤ left) ∧ Hid ((costL lc).toNat * 12 + (11 - k) < f) ∧ Hid (Sound lc) ∧ Hid (ofR lc = ofR l) ∧ Hid (∀ j, j < k → Oz.applyR j lc = none) ∧ Hid (Blk wr X 28 #[.slice Ac lc.length cc]) ∧ Hid (PlAt wr (fun i => i < wr.heap.size ∧ i ≠ X) Ac lc) ∧ Hid (Blk wr gr 9 namesC) ∧ Hid (Below w.heap.size w wr)
def WcCut (wr : World) (L : List St) (m : Nat) (z : Bool) (a ok er : Value) (wc : World) : Prop := ∃ (Y gs7 cap7 : Nat), a = .pointer (some ⟨Y, 0, none⟩) ∧ ok = .bool z ∧ er = .nilIface ∧ wr.heap.size ≤ Y ∧ Hid (Blk wc Y 28 #[.slice (some ⟨gs7, 0, none⟩) m cap7]) ∧ Hid (Below wr.heap.size wr wc) ∧ Hid (PlAt wc (fun i => wr.heap.size ≤ i ∧ i < wc.heap.size) (some ⟨gs7, 0, none⟩) L)
theorem wcA {wr w7 : World} {L : List St} {m gs7 cap7 : Nat} {z : Bool} (hb7 : Below wr.drew.heap.size wr.drew w7) (hp7 : PlAt w7 (fun i => wr.drew.heap.size ≤ i ∧ i < w7.heap.size) (some ⟨gs7, 0, none⟩) L) : WcCut wr L m z (.pointer (some ⟨w7.heap.size, 0, none⟩)) (.bool z) .nilIface (w7.alloc (.cells #[.slice (some ⟨gs7, 0, none⟩) m cap7] 28)) := by
  have hb : Below wr.heap.size wr w7 := (Below.refl _ wr).drew.trans hb7
  have hb2 := below_alloc w7 (.cells #[.slice (some ⟨gs7, 0, none⟩) m cap7] 28)
  exact ⟨w7.heap.size, gs7, cap7, rfl, rfl, rfl, hb.size, Lib.hid (Blk.new _ _ _), Lib.hid (hb.trans (hb2.mono hb.size)), Lib.hid (hp7.keep (fun i hi _ => hb2.block i hi.2) hb2.size (fun i hi _ => ⟨hi.1, Nat.lt_of_lt_of_le hi.2 hb2.size⟩))⟩
theorem wcB {wr w7 : World} {L : List St} {m gs7 cap7 : Nat} {z : Bool} (hb7 : Below (wr.alloc (.cells #[.slice none 0 0] 28)).drew.heap.size (wr.alloc (.cells #[.slice none 0 0] 28)).drew w7) (hp7 : PlAt w7 (fun i => (wr.alloc (.cells #[.slice none 0 0] 28)).drew.heap.size ≤ i ∧ i < w7.heap.size) (some ⟨gs7, 0, none⟩) L) : WcCut wr L m z (.pointer (some ⟨wr.heap.size, 0, none⟩)) (.bool z) .nilIface (w7.setCell ⟨wr.heap.size, 0, none⟩ (.slice (some ⟨gs7, 0, none⟩) m cap7)) := by
  have hb0 : Below wr.heap.size wr (wr.alloc (.cells #[.slice none 0 0] 28)).drew := (below_alloc _ _).drew
  have hz : (wr.alloc (.cells #[.slice none 0 0] 28)).drew.heap.size = wr.heap.size + 1 := by show (wr.alloc _).heap.size = _; simp
  have hb : Below wr.heap.size wr w7 := hb0.trans (hb7.mono hb0.size)
  have hB := (Blk.new wr 28 #[.slice none 0 0]).drew.below hb7 (by rw [hz]; omega)
  refine ⟨wr.heap.size, gs7, cap7, rfl, rfl, rfl, Nat.le_refl _, Lib.hid (hB.set_ 0 _), Lib.hid (hb.setCell (p := ⟨wr.heap.size, 0, none⟩) (Nat.le_refl _) _), Lib.hid (hp7.keep (fun i hi _ => Below.heap_setCell w7 ⟨wr.heap.size, 0, none⟩ _ i (by have := hi.1; rw [hz] at this; show i ≠ wr.heap.size; omega)) (by simp) (fun i hi _ => ⟨by have := hi.1; rw [hz] at this; omega, by simpa using hi.2⟩))⟩
set_option maxRecDepth 100000 in
set_option maxHeartbeats 8000000 in
theorem walks_law (A : Option Addr) (c : Nat) (l : List St) (w : World) (h : ArgPl w A l) (hn : l.length ≤ 1048576) (ha : ∀ s ∈ l, s.args.length ≤ 2000000) (ht : TxOk l) :
    Calls Try.prog 8 #[.slice A l.length c] w (AwEnd w) := by
  obtain ⟨n, hnn⟩ : ∃ n, n = l.length := ⟨_, rfl⟩
  have HN := Lib.hid hnn
  have HA := Lib.hid h
  have HM := Lib.hid ha
  have HT := Lib.hid ht
  rw [← hnn] at hn ⊢
  clear h ha ht hnn
  go_enter Try.func8, Try.ntmps8
  go_wp2_with fail
  refine (awake_any _).mono ?_
  rintro e w1 ⟨rfl, hb1⟩
  have HB1 := Lib.hid hb1
  by_cases hbig : 40 < n
  · have q0 : (40 : Int) < (n : Int) := by omega
    clear hb1
    go_wp2_with fail
    refine (awake_any _).mono ?_
    rintro e w2 ⟨rfl, hb2⟩
    have HB2 := Lib.hid (HB1.out.trans (hb2.mono HB1.out.size))
    clear hb2
    go_wp2_with fail
    go_ret
    exact ⟨rfl, HB2.out⟩
  have q0 : ¬ ((40 : Int) < (n : Int)) := by omega
  have hn6 : n ≤ 40 := by omega
  have HMD : Hid (Modest l) := Lib.hid ⟨by have := HN.out; omega, fun s hs => ⟨HM.out s hs, HT.out s hs⟩⟩
  have hto := fun w' (hb : Below w.heap.size w w') => to_any A c l w' (HA.out.below hb) (by have := HN.out; omega) HM.out
  rw [← HN.out] at hto
  have HTO := Lib.hid hto
  have HT1 := Lib.hid (hto w1 hb1)
  clear hb1 hto hbig
  go_wp2_with fail
  refine HT1.out.mono ?_
  rintro e w2 ⟨hb2, A2, c2, he2, hp2⟩
  rw [← HN.out] at he2
  subst he2
  have HB2 := Lib.hid (HB1.out.trans (hb2.mono HB1.out.size))
  have hck := Check_any A2 c2 l w2 (hp2.keep (w' := w2) (fun _ _ _ => rfl) (Nat.le_refl _) (fun i hi _ => hi.2)) HMD.out
  rw [← HN.out] at hck
  have HCK := Lib.hid hck
  clear hb2 hp2 hck HT1
  go_wp2_with fail
  refine HCK.out.mono ?_
  rintro e w3 ⟨rfl, hb3⟩
  have HB3 := Lib.hid (HB2.out.trans (hb3.mono HB2.out.size))
  clear hb3 HCK HB1 HB2
  obtain ⟨x, hx⟩ : ∃ x, x = checkR l := ⟨_, rfl⟩
  rw [← hx]
  have HX := Lib.hid hx
  clear hx
  by_cases hx0 : x = 0
  rotate_left
  · obtain ⟨v, hv⟩ : ∃ v, errV x = .iface 37 (.int .i64 v) := ⟨x, if_neg hx0⟩
    rw [hv]
    clear hv hx0
    go_wp2_with fail
    refine (awake_any _).mono ?_
    rintro e w4 ⟨rfl, hb4⟩
    have HB4 := Lib.hid (HB3.out.trans (hb4.mono HB3.out.size))
    clear hb4
    go_wp2_with fail
    go_ret
    exact ⟨rfl, HB4.out⟩
  subst hx0
  have HSD : Hid (Sound l) := Lib.hid ⟨HX.out.symm, HT.out⟩
  rw [show errV 0 = Value.nilIface from rfl]
  have HT3 := Lib.hid (HTO.out w3 HB3.out)
  go_wp2_with fail
  refine HT3.out.mono ?_
  rintro e w4 ⟨hb4, A4, c4, he4, hp4⟩
  rw [← HN.out] at he4
  subst he4
  have HB4 := Lib.hid (HB3.out.trans (hb4.mono HB3.out.size))
  have HP4' : Hid (PlAt w4 (fun i => i < w4.heap.size ∧ i ≠ w4.heap.size) A4 l) := Lib.hid (hp4.keep (w' := w4) (fun _ _ _ => rfl) (Nat.le_refl _) (fun i hi _ => ⟨hi.2, by have := hi.2; omega⟩))
  have HP4 : Hid (PlAt w4 (fun i => i < w4.heap.size) A4 l) := Lib.hid (hp4.keep (w' := w4) (fun _ _ _ => rfl) (Nat.le_refl _) (fun i hi _ => hi.2))
  clear hb4 hp4 HT3
  go_upto_region 4 with (fail)
  obtain ⟨w5, hw5⟩ : ∃ w5, w5 = w4.alloc (.cells #[.slice A4 n c4] 28) := ⟨_, rfl⟩
  rw [← hw5]
  have hb5 : Below w4.heap.size w4 w5 := by rw [hw5]; exact below_alloc _ _
  have HB5 := Lib.hid (HB4.out.trans (hb5.mono HB4.out.size))
  have HX5 : Hid (Blk w5 w4.heap.size 28 #[.slice A4 n c4]) := Lib.hid (by rw [hw5]; exact Blk.new _ _ _)
  have x5 := HX5.out.cell 0
  simp only [List.getElem?_toArray, List.getElem?_cons_zero] at x5
  have HP5 := Lib.hid (HP4.out.below hb5)
  have HP5' : Hid (PlAt w5 (fun i => i < w5.heap.size ∧ i ≠ w4.heap.size) A4 l) := Lib.hid (HP4'.out.keep (fun i _ hi => hb5.block i hi) hb5.size (fun i hi hl => ⟨Nat.lt_of_lt_of_le hl hb5.size, hi.2⟩))
  have hco := (Cost_any A4 c4 l w5 HP5.out HSD.out.modest)
  unfold CostEnd at hco
  rw [HSD.out.check, if_pos rfl, ← HN.out] at hco
  have hco : Calls Try.prog 25 #[.agg #[.slice A4 n c4]] w5 fun e w' => e = .returned (.tuple #[.int .i64 (costL l), .nilIface]) ∧ Below w5.heap.size w5 w' := hco
  have HCO := Lib.hid hco
  obtain ⟨K, hK⟩ : ∃ K, K = costL l := ⟨_, rfl⟩
  rw [← hK] at HCO
  have hKb : K ≤ 10000000 := by have := costL_le l; have := HN.out; omega
  have HKK := Lib.hid hK
  clear hw5 hb5 hco hK
  go_wp2_with fail
  refine HCO.out.mono ?_
  rintro e w6 ⟨rfl, hb6⟩
  have HB6 := Lib.hid (HB5.out.trans (hb6.mono HB5.out.size))
  have HX6 := Lib.hid (HX5.out.below hb6 HX5.out.lt)
  have HP6 : Hid (PlAt w6 (fun i => i < w6.heap.size ∧ i ≠ w4.heap.size) A4 l) := Lib.hid (HP5'.out.keep (fun i _ hi => hb6.block i hi) hb6.size (fun i hi hl => ⟨Nat.lt_of_lt_of_le hl hb6.size, hi.2⟩))
  clear hb6 HCO x5
  go_wp2_with fail
  refine (rules_any _).mono ?_
  rintro e wb ⟨rfl, hnb, hbb⟩
  have HBb := Lib.hid (HB6.out.trans (hbb.mono HB6.out.size))
  have HXb := Lib.hid (HX6.out.below hbb HX6.out.lt)
  have HPb : Hid (PlAt wb (fun i => i < wb.heap.size ∧ i ≠ w4.heap.size) A4 l) := Lib.hid (HP6.out.keep (fun i _ hi => hbb.block i hi) hbb.size (fun i hi hl => ⟨Nat.lt_of_lt_of_le hl hbb.size, hi.2⟩))
  have HNb := Lib.hid hnb
  have hX4 : w.heap.size ≤ w4.heap.size := HB4.out.size
  have HK0 : Hid (costL l ≤ K) := Lib.hid (by rw [HKK.out]; exact Int.le_refl _)
  have HB0 : Hid ((costL l).toNat * 12 + (11 - 0) < K.toNat * 12 + 12) := Lib.hid (by rw [HKK.out]; omega)
  have HN0 : Hid (∀ j, j < 0 → Oz.applyR j l = none) := Lib.hid (fun j hj => by omega)
  rw [HN.out] at HXb
  clear hbb hnb HB3 HB4 HB5 HB6 HX5 HX6 HP4 HP5 HP6 HP4' HP5'
  go_wp2_with fail
  go_loopg [4, 7, 8, 9, 10] (K.toNat * 12 + 12) (fun f v i _ _ _ wr => WkRel w w4.heap.size w6.heap.size l f v i wr)
  case atStart => exact ⟨0, K, l, A4, c4, rfl, rfl, by omega, hKb, HK0, HB0, HSD, Lib.hid rfl, HN0, HXb, HPb, HNb, HBb⟩
  case round =>
    clear HK0 HB0 HN0 HXb HPb HNb HBb hKb
    obtain ⟨k, left, lc, Ac, cc, rfl, rfl, hk, hlb, HLC, HMS, HS, HOF, HNO, HX, HP, HNM, HB⟩ := hrel
    have hgk : 0 < gk := by have := HMS.out; omega
    obtain ⟨f, rfl⟩ : ∃ f, gk = f + 1 := ⟨gk - 1, by omega⟩
    have hzr := HB.out.size
    have hXl := HX.out.lt
    have hNl := HNM.out.lt
    obtain ⟨m, hm⟩ : ∃ m, m = lc.length := ⟨_, rfl⟩
    rw [← hm] at HX
    have HMM := Lib.hid hm
    clear hm hgk
    by_cases hlt : k < 11
    · obtain ⟨s, hs⟩ : ∃ s, namesR[k]? = some s := ⟨namesR[k]'hlt, List.getElem?_eq_getElem _⟩
      have c0 : wr.cell? ⟨w6.heap.size, k, none⟩ = some (.string ⟨s.toArray⟩) := (HNM.out.cell k).trans (namesC_at hs)
      have c1 := HX.out.cell 0
      simp only [List.getElem?_toArray, List.getElem?_cons_zero] at c1
      have q1 : (k : Int) < 11 := by omega
      have q2 : (0 : Int) ≤ (k : Int) := by omega
      have hst := fun W (hb : Below wr.heap.size wr W) => step_x Ac cc lc k s W (HP.out.keep (fun i _ hi => hb.block i hi) hb.size (fun i _ hl => Nat.lt_of_lt_of_le hl hb.size)) HS.out.check HS.out.modest hs
      rw [← HMM.out] at hst
      obtain ⟨r, hr⟩ : ∃ r, r = Oz.applyR k lc := ⟨_, rfl⟩
      have HRR := Lib.hid hr
      obtain ⟨L, hL⟩ : ∃ L, L = doR k lc := ⟨_, rfl⟩
      have HLL := Lib.hid hL
      obtain ⟨m2, hm2⟩ : ∃ m2, m2 = L.length := ⟨_, rfl⟩
      have HM2 := Lib.hid hm2
      obtain ⟨z, hz⟩ : ∃ z, z = r.isSome := ⟨_, rfl⟩
      have HZ := Lib.hid hz
      rw [← hr, ← hL, ← hz] at hst
      have hst : ∀ W, Below wr.heap.size wr W → Calls Try.prog 21 #[.agg #[.slice Ac m cc], .string ⟨s.toArray⟩] W fun e w' => Below W.heap.size W w' ∧ ∃ gs cap, e = .returned (.tuple #[.agg #[.slice (some ⟨gs, 0, none⟩) m2 cap], .bool z, .nilIface]) ∧ PlAt w' (fun i => W.heap.size ≤ i ∧ i < w'.heap.size) (some ⟨gs, 0, none⟩) L := fun W hb => by
        rw [HM2.out]
        exact hst W hb
      have HST1 := Lib.hid (hst wr.drew (Below.refl _ _).drew)
      have HST2 := Lib.hid (hst (wr.alloc (.cells #[.slice none 0 0] 28)).drew (below_alloc _ _).drew)
      have HSL : Hid (Sound L) := Lib.hid (by rw [hL]; exact HS.out.step k)
      clear hs hst hr hL hm2 hz
      go_wp2_with fail
      go_cut [8, 9, 10] (fun a ok er wc => WcCut wr L m2 z a ok er wc)
      case first =>
        go_region_with (first
          | (go_at_call 21; refine HST1.out.mono ?_; rintro e w7 ⟨hb7, gs7, cap7, rfl, hp7⟩)
          | (go_at_call 21; refine HST2.out.mono ?_; rintro e w7 ⟨hb7, gs7, cap7, rfl, hp7⟩; have kz0 : w7.cell? ⟨wr.heap.size, 0, none⟩ = some (.slice none 0 0) := ((Blk.new wr 28 #[.slice none 0 0]).drew.below hb7 (by show wr.heap.size < (wr.alloc _).heap.size; simp)).cell 0; have kz1 : w7.frozen? ⟨wr.heap.size, 0, none⟩ = false := ((Blk.new wr 28 #[.slice none 0 0]).drew.below hb7 (by show wr.heap.size < (wr.alloc _).heap.size; simp)).frozen 0))
        all_goals
          go_wp2_with fail
          go_meet
          case rel => first | exact wcA hb7 hp7 | exact wcB hb7 hp7
      case rest =>
      clear HST1 HST2 c0 c1
      obtain ⟨Y, gs7, cap7, rfl, rfl, rfl, hY, HX8, HBr8, HPr8⟩ := hcut
      obtain ⟨w8, hw8⟩ : ∃ w8, w8 = wc := ⟨_, rfl⟩
      rw [← hw8] at HX8 HBr8 HPr8 ⊢
      clear hw8
      have hb8 := HBr8.out
      have HB8 := Lib.hid (HB.out.trans (hb8.mono hzr))
      have x8 := HX8.out.cell 0
      simp only [List.getElem?_toArray, List.getElem?_cons_zero] at x8
      have HXX8 := Lib.hid (HX.out.below hb8 hXl)
      have HP8 : Hid (PlAt w8 (fun i => i < w8.heap.size ∧ i ≠ w4.heap.size) Ac lc) := Lib.hid (HP.out.keep (fun i _ hi => hb8.block i hi) hb8.size (fun i hi hl => ⟨Nat.lt_of_lt_of_le hl hb8.size, hi.2⟩))
      have HQ8 : Hid (PlAt w8 (fun i => i < w8.heap.size ∧ i ≠ w4.heap.size) (some ⟨gs7, 0, none⟩) L) := Lib.hid (HPr8.out.keep (w' := w8) (fun _ _ _ => rfl) (Nat.le_refl _) (fun i hi _ => ⟨hi.2, by have := hi.1; omega⟩))
      have HN8 := Lib.hid (HNM.out.below hb8 HNM.out.lt)
      clear hb8 HX HP HNM HPr8 HBr8
      cases z with
      | false =>
        have HNO2 : Hid (∀ j, j < k + 1 → Oz.applyR j lc = none) := Lib.hid (fun j hj => by
          by_cases e : j = k
          · rw [e, ← HRR.out]
            cases r with
            | none => rfl
            | some l' => have := HZ.out; cases this
          · exact HNO.out j (by omega))
        rw [HMM.out] at HXX8
        have HMS2 : Hid ((costL lc).toNat * 12 + (11 - (k + 1)) < f) := Lib.hid (by have := HMS.out; omega)
        clear x8
        go_wp2_with fail
        go_roundg f
        case measure => omega
        case rel => exact ⟨k + 1, left, lc, Ac, cc, by go_num, rfl, by omega, hlb, HLC, HMS2, HS, HOF, HNO2, HXX8, HP8, HN8, HB8⟩
      | true =>
        obtain ⟨l', hl'⟩ : ∃ l', r = some l' := by
          cases r with
          | none => have := HZ.out; cases this
          | some l' => exact ⟨l', rfl⟩
        have hap : Oz.applyR k lc = some l' := HRR.out.symm.trans hl'
        have hLl : L = l' := by rw [HLL.out]; unfold doR; rw [hap]; rfl
        have hd := (applyR_done HS.out.check hap).cost
        rw [← hLl] at hd
        have hany : Oz.anyR lc = some L := by rw [hLl]; exact rs_some HNO.out hap 11 hlt
        have hc0 := costL_nonneg L
        have HLC2 : Hid (costL L ≤ left - 1) := Lib.hid (by have := HLC.out; omega)
        have HMS2 : Hid ((costL L).toNat * 12 + (11 - 0) < f) := Lib.hid (by have := HMS.out; omega)
        have HOF2 : Hid (ofR L = ofR l) := Lib.hid (by rw [← HOF.out]; exact (ofR_step HS.out.check hany).symm)
        have HNO2 : Hid (∀ j, j < 0 → Oz.applyR j L = none) := Lib.hid (fun j hj => by omega)
        have hl1 : 1 ≤ left := by have := HLC.out; omega
        have hwl : IntKind.i64.wrap (left - 1) = left - 1 := IntWalk.i64_in _ (by omega)
        have hl2 : ¬ (left - 1 < 0) := by omega
        have d0 := HXX8.out.cell 0
        have d1 := HXX8.out.frozen 0
        simp only [List.getElem?_toArray, List.getElem?_cons_zero] at d0
        have HX9 : Hid (Blk (w8.setCell ⟨w4.heap.size, 0, none⟩ (.slice (some ⟨gs7, 0, none⟩) m2 cap7)) w4.heap.size 28 #[.slice (some ⟨gs7, 0, none⟩) L.length cap7]) := Lib.hid (by rw [← HM2.out]; exact HXX8.out.set_ 0 _)
        have hk9 : ∀ b, b ≠ w4.heap.size → (w8.setCell ⟨w4.heap.size, 0, none⟩ (.slice (some ⟨gs7, 0, none⟩) m2 cap7)).heap[b]? = w8.heap[b]? := fun b hb => Below.heap_setCell w8 ⟨w4.heap.size, 0, none⟩ _ b hb
        have HQ9 : Hid (PlAt (w8.setCell ⟨w4.heap.size, 0, none⟩ (.slice (some ⟨gs7, 0, none⟩) m2 cap7)) (fun i => i < (w8.setCell ⟨w4.heap.size, 0, none⟩ (.slice (some ⟨gs7, 0, none⟩) m2 cap7)).heap.size ∧ i ≠ w4.heap.size) (some ⟨gs7, 0, none⟩) L) := Lib.hid (HQ8.out.keep (fun i hi _ => hk9 i hi.2) (by simp) (fun i hi _ => ⟨by simpa using hi.1, hi.2⟩))
        have HN9 := Lib.hid (HN8.out.far (p := ⟨w4.heap.size, 0, none⟩) (HN8.out.ne_ HXX8.out (by decide)) (.slice (some ⟨gs7, 0, none⟩) m2 cap7))
        have HB9 := Lib.hid (HB8.out.setCell (p := ⟨w4.heap.size, 0, none⟩) hX4 (.slice (some ⟨gs7, 0, none⟩) m2 cap7))
        clear hl' hap hLl hd hany hc0 hk9
        go_wp2_with fail
        go_roundg f
        case measure => omega
        case rel => exact ⟨0, left - 1, L, some ⟨gs7, 0, none⟩, cap7, by go_num, rfl, by omega, by omega, HLC2, HMS2, HSL, HOF2, HNO2, HX9, HQ9, HN9, HB9⟩
    · have hk11 : k = 11 := by omega
      subst hk11
      have hany : Oz.anyR lc = none := rs_none HNO.out
      have HEQ : Hid (ofR l = lc) := Lib.hid (by rw [← HOF.out]; exact ofR_stop hany)
      have HT7 := Lib.hid (HTO.out wr HB.out)
      clear hany
      go_wp2_with fail
      refine HT7.out.mono ?_
      rintro e w7 ⟨hb7, A7, c7, he7, hp7⟩
      rw [← HN.out] at he7
      subst he7
      have HB7 := Lib.hid (HB.out.trans (hb7.mono hzr))
      have hb7' : Below wr.heap.size wr w7 := hb7
      have HR7 := Lib.hid hb7'
      have hof := of_x A7 c7 l w7 (hp7.keep (w' := w7) (fun _ _ _ => rfl) (Nat.le_refl _) (fun i hi _ => hi.2)) HSD.out.check HMD.out
      rw [HEQ.out, ← HN.out] at hof
      have HOFX := Lib.hid hof
      clear hb7 hb7' hp7 hof HT7
      go_wp2_with fail
      refine HOFX.out.mono ?_
      rintro e w8 ⟨hb8, gs8, cap8, he8, hp8⟩
      rw [← HMM.out] at he8
      subst he8
      have HB8 := Lib.hid (HB7.out.trans (hb8.mono HB7.out.size))
      have HR8 := Lib.hid (HR7.out.trans (hb8.mono HR7.out.size))
      have HQ8 : Hid (PlAt w8 (fun i => i < w8.heap.size) (some ⟨gs8, 0, none⟩) lc) := Lib.hid (hp8.keep (w' := w8) (fun _ _ _ => rfl) (Nat.le_refl _) (fun i hi _ => hi.2))
      clear hb8 hp8 HOFX
      go_upto_region 20 with (fail)
      obtain ⟨w9, hw9⟩ : ∃ w9, w9 = w8.alloc (.cells #[.slice (some ⟨gs8, 0, none⟩) m cap8] 28) := ⟨_, rfl⟩
      rw [← hw9]
      have hb9 : Below w8.heap.size w8 w9 := by rw [hw9]; exact below_alloc _ _
      have HB9 := Lib.hid (HB8.out.trans (hb9.mono HB8.out.size))
      have HX9 : Hid (Blk w9 w8.heap.size 28 #[.slice (some ⟨gs8, 0, none⟩) m cap8]) := Lib.hid (by rw [hw9]; exact Blk.new _ _ _)
      have x9 := HX9.out.cell 0
      simp only [List.getElem?_toArray, List.getElem?_cons_zero] at x9
      have HR9 := Lib.hid (HR8.out.trans (hb9.mono HR8.out.size))
      have HQ9 := Lib.hid (HQ8.out.below hb9)
      have HP9 : Hid (PlAt w9 (fun i => i < w9.heap.size) Ac lc) := Lib.hid (HP.out.keep (fun i _ hi => HR9.out.block i hi) HR9.out.size (fun i _ hl => Nat.lt_of_lt_of_le hl HR9.out.size))
      have c1 := (HX.out.below HR9.out hXl).cell 0
      simp only [List.getElem?_toArray, List.getElem?_cons_zero] at c1
      have hfr := from_any (some ⟨gs8, 0, none⟩) cap8 lc w9.drew (HQ9.out.below (Below.refl _ _).drew) (by have := (check_fit.1 HS.out.check).2.1; omega) (fun s hs => by have := (ok_bd2 HS.out.check s hs).1; omega)
      rw [← HMM.out] at hfr
      have HFR := Lib.hid hfr
      have hisf := fun A11 c11 w11 (hb : Below w9.heap.size w9 w11) (ha : ArgPl w11 A11 lc) => is57_ok Ac A11 cc c11 lc w11 (HP9.out.below hb) ha (by have := (check_fit.1 HS.out.check).2.1; omega) (fun s hs => by have := (ok_bd2 HS.out.check s hs).1; omega)
      rw [← HMM.out] at hisf
      have HISF := Lib.hid hisf
      have hx9l := HX9.out.lt
      have hxbl : w4.heap.size < w9.heap.size := Nat.lt_of_lt_of_le hXl HR9.out.size
      have HC1 := Lib.hid c1
      have HX9' := Lib.hid x9
      clear hw9 hb9 hfr hisf
      go_wp2_with fail
      go_region_with (first
        | (go_at_call 23; refine HFR.out.mono ?_; rintro e w11 ⟨hb11, A11, c11, he11, ha11⟩; rw [← HMM.out] at he11; subst he11; have hb911 : Below w9.heap.size w9 w11 := (Below.refl _ w9).drew.trans hb11; have HB911 := Lib.hid hb911; have HA11 := Lib.hid ha11; have y9 := (hb911.cell (p := ⟨w8.heap.size, 0, none⟩) hx9l).trans HX9'.out; have y1 := (hb911.cell (p := ⟨w4.heap.size, 0, none⟩) hxbl).trans HC1.out; clear hb11 ha11 hb911)
        | (go_at_call 22; refine (HISF.out A11 c11 w11 HB911.out HA11.out).mono ?_; rintro e w12 ⟨rfl, hb12⟩; have HB12 := Lib.hid (HB911.out.trans (hb12.mono HB911.out.size)); clear hb12))
      all_goals (go_wp2_with fail; go_ret; exact ⟨rfl, HB9.out.trans (HB12.out.mono HB9.out.size)⟩)
end Go.Proofs.Ytniefnjcimempaa
