/- The walk of the parser's expression. -/
import Derived.Test.YtpiagfmjekcncaaDoorjTerms
set_option linter.unusedVariables false
set_option linter.unusedSimpArgs false
set_option linter.unusedSectionVars false
namespace Go.Proofs.YtpiagfmjekcncaaDoor
open Go.RowKit
/-- Behind an append of a tree to the list that the call has made. -/
theorem push_next {T : List UInt8} {w w4 w5 : World} {g k3 : Nat} {v v5 : Value} {l : List Rx} {css : List Value} {r2 : Rx} {o : Obj} {cs : List Value} {Fx : Nat → Prop} (hg : g < w.heap.size)
    (HP4 : PS T w4 g k3) (HL : RxVs w4 (offV (w.heap.size + 1) w4.heap.size v) l css) (HO : w4.ownsRow (w.heap.size + 1) 27 8 v l.length css) (HR4 : R8 w4 w.heap.size (.int .i64 0) (.int .u64 0) (.int .u64 0) (.int .u64 0) (.int .u64 0) (.int .i64 0) (.int .i64 0) (.slice none 0 0)) (HK4 : Kept (isG g) w w4) (hv4 : RxV w4 Fx r2 cs)
    (hFx : ∀ i, Fx i → i < w4.heap.size → w.heap.size + 1 ≤ i ∧ v.ownBlock ≠ some i) (hown5 : w5.ownsRow (w.heap.size + 1) 27 8 v5 (l.length + 1) (css ++ cs)) (hg5 : (w4.alloc o).grownBy w5 v.ownBlock) (hv5 : v5.ownBlock = v.ownBlock ∨ v5.ownBlock = some (w4.heap.size + 1)) :
    PS T w5 g k3 ∧ LSt (w.heap.size + 1) v5 (l ++ [r2]) (css ++ cs) w5 ∧ R8 w5 w.heap.size (.int .i64 0) (.int .u64 0) (.int .u64 0) (.int .u64 0) (.int .u64 0) (.int .i64 0) (.int .i64 0) (.slice none 0 0) ∧ Kept (isG g) w w5 := by
  have hge := fun i (e : v.ownBlock = some i) => own_ge HO e
  have h45 : Kept (fun i => v.ownBlock = some i) (w4.alloc o) w5 := Kept.of_grown hg5 fun gg e => e
  have h4a : Kept (fun _ => False) w4 (w4.alloc o) := (Kept.refl _ _).alloc o
  refine ⟨PS.kept (HP4.alloc o) h45 (fun e => by have := hge _ e; omega), ?_, R8.kept (HR4.alloc o) h45 (fun e => by have := hge _ e; omega), (HK4.alloc o).trans (h45.mono fun i e => .inr (by have := hge _ e; omega))⟩
  refine LSt.push (F := fun i => Fx i ∧ i < w4.heap.size) ?_ hown5 hg5 (by simpa using hv5) (hv4.kept h4a (fun _ _ _ => id) fun _ h hl => ⟨h, hl⟩) fun i hi hl' => hFx i hi.1 hi.2
  exact HL.kept h4a (fun _ _ _ => id) fun i hi hl' => ⟨hi.1, by simp; omega, hi.2.2⟩
def BrRel (T : List UInt8) (w : World) (g k0 : Nat) (E : Nat → Option (Rx × Nat)) (R : Option (List Rx × Nat)) (f : Nat) (v : Value) (wr : World) : Prop :=
  ∃ (l : List Rx) (css : List Value) (k : Nat), PS T wr g k ∧ k0 ≤ k ∧ 1 ≤ l.length ∧ l.length ≤ k + 1 ∧ T.length - k < f ∧ Hid (barsL T E f l k = R) ∧ LSt (w.heap.size + 1) v l css wr ∧ R8 wr w.heap.size (.int .i64 0) (.int .u64 0) (.int .u64 0) (.int .u64 0) (.int .u64 0) (.int .i64 0) (.int .i64 0) (.slice none 0 0) ∧ Kept (isG g) w wr
/-- A slice of one tree that has just been laid. -/
theorem LSt.one {lo : Nat} {w : World} {r : Rx} {F : Nat → Prop} {v0 v1 v2 v3 v4 v5 v6 v7 : Value} (hv : RxV w F r [v0, v1, v2, v3, v4, v5, v6, v7]) (hF : ∀ i, F i → i < w.heap.size → lo ≤ i) (hl : lo ≤ w.heap.size) :
    LSt lo (.slice (some ⟨w.heap.size, 0, none⟩) 1 1) [r] [v0, v1, v2, v3, v4, v5, v6, v7] (w.alloc (.cells #[v0, v1, v2, v3, v4, v5, v6, v7] 27)) := by
  refine ⟨⟨rfl, .inr ⟨w.heap.size, 1, _, rfl, hl, Blk.new _ _ _, Nat.le_refl _, by decide, rfl, rfl⟩⟩, RxVs.one ?_⟩
  refine hv.kept ((Kept.refl (fun _ => False) w).alloc _) (fun _ _ _ => id) fun i hi hl' => ⟨hF i hi hl', by simp; omega, ?_⟩
  intro e
  injection e with e
  have e' : w.heap.size = i := e
  omega
theorem barsL_step {T : List UInt8} {E : Nat → Option (Rx × Nat)} {f k : Nat} {l : List Rx} : barsL T E (f + 1) l k = if T[k]? = some 124 then (match termsP T E (k + 1) with
      | none => none
      | some (r, k') => barsL T E f (l ++ [r]) k')
    else some (l, k) := rfl
theorem Rx.alt_many {l : List Rx} (h : 2 ≤ l.length) : Rx.alt l = Rx.plain 4 l := by
  match l, h with
  | r :: q :: l, _ => rfl
set_option maxHeartbeats 3000000
set_option maxRecDepth 100000
theorem expr_step {T : List UInt8} {g k0 : Nat} (w : World) (E : Nat → Option (Rx × Nat)) (h : PS T w g k0) (hEp : ∀ k k' r, k ≤ T.length → E k = some (r, k') → k ≤ k' ∧ k' ≤ T.length)
    (hTm : ∀ k1 w1, k0 ≤ k1 → PS T w1 g k1 → Calls Tryd.prog 32 #[.pointer (some ⟨g, 0, none⟩)] w1 (TRes T w1 g (termsP T E k1))) (Z : Option (Rx × Nat)) (hZ : Z = match termsP T E k0 with
      | none => none
      | some (r, k1) => match barsL T E (T.length + 1) [r] k1 with
        | none => none
        | some (l, k2) => some (Rx.alt l, k2)) : Calls Tryd.prog 18 #[.pointer (some ⟨g, 0, none⟩)] w (TRes T w g Z) := by
  obtain ⟨i0, hinf, hz0, hz1, hz2⟩ := info_parts infoR
  have HZ := Lib.hid hZ
  have HE := Lib.hid hTm
  have HEP := Lib.hid hEp
  have hT := h.2.2
  have hg := h.lt
  have hk0 := h.2.1
  have HR0 := Lib.hid (R8.mk0 w w.heap.size rfl)
  have HP0 := Lib.hid (h.alloc (.cells #[.int .i64 0, .int .u64 0, .int .u64 0, .int .u64 0, .int .u64 0, .int .i64 0, .int .i64 0, .slice none 0 0] 27))
  have HK0 := Lib.hid ((Kept.refl (isG g) w).alloc (.cells #[.int .i64 0, .int .u64 0, .int .u64 0, .int .u64 0, .int .u64 0, .int .i64 0, .int .i64 0, .slice none 0 0] 27))
  have hne : ¬ isG g w.heap.size := fun e => absurd hg (by rw [show g = w.heap.size from e.symm]; omega)
  have HI := Lib.hid hinf
  have HI0 := Lib.hid hz0
  have HI1 := Lib.hid hz1
  have HI2 := Lib.hid hz2
  clear hZ hTm hEp h hinf hz0 hz1 hz2
  rcases ht : termsP T E k0 with _ | ⟨r, k1⟩
  · have hz := HZ.out
    rw [ht] at hz
    subst hz
    have HT := Lib.hid (HE.out k0 _ (Nat.le_refl _) HP0.out)
    rw [ht] at HT
    clear ht
    go_enter Tryd.func18, Tryd.ntmps18
    go_wp2_with fail
    refine HT.out.mono ?_
    rintro e w2 ⟨rfl, hp2, hk2⟩
    go_wp2_with fail
    exact ⟨rfl, rfl, hp2, HK0.out.then_ hk2⟩
  · have hz := HZ.out
    rw [ht] at hz
    simp only at hz
    have hkk := termsP_pos HEP.out hk0 ht
    obtain ⟨R, hR⟩ : ∃ R, R = barsL T E (T.length + 1) [r] k1 := ⟨_, rfl⟩
    rw [← hR] at hz
    have HZ := Lib.hid hz
    have HR := Lib.hid hR
    have HT := Lib.hid (HE.out k0 _ (Nat.le_refl _) HP0.out)
    rw [ht] at HT
    clear ht hz hR
    go_enter Tryd.func18, Tryd.ntmps18
    go_wp2_with fail
    refine HT.out.mono ?_
    rintro e w2 ⟨cs, rfl, hv, hp2, hk2⟩
    obtain ⟨kd, a0, a1, a2, a3, lo, hi, A, n, c, rfl⟩ := hv.eight
    have hR2 := HR0.out.kept hk2 hne
    have hK2 := HK0.out.then_ hk2
    have hs2 : w.heap.size + 1 ≤ w2.heap.size := by have := hk2.size; simpa using this
    have HL2 := Lib.hid (LSt.one (lo := w.heap.size + 1) hv (fun i hh _ => by have hh1 := hh.1; simp at hh1; omega) hs2)
    have HP2 := Lib.hid (hp2.alloc (.cells #[.int .i64 kd, .int .u64 a0, .int .u64 a1, .int .u64 a2, .int .u64 a3, .int .i64 lo, .int .i64 hi, .slice A n c] 27))
    have HR2 := Lib.hid (hR2.alloc (.cells #[.int .i64 kd, .int .u64 a0, .int .u64 a1, .int .u64 a2, .int .u64 a3, .int .i64 lo, .int .i64 hi, .slice A n c] 27))
    have HK2 := Lib.hid (hK2.alloc (.cells #[.int .i64 kd, .int .u64 a0, .int .u64 a1, .int .u64 a2, .int .u64 a3, .int .i64 lo, .int .i64 hi, .slice A n c] 27))
    clear hv hp2 hk2 hR2 hK2 HR0 HP0 HK0 HT
    go_wp2_with fail
    go_loopg [3] (T.length + 1) (fun f v wr => BrRel T w g k0 E R f v wr)
    case atStart => exact ⟨[r], _, k1, HP2.out, hkk.1, by simp, by simp, by omega, HR.out.symm, HL2.out, HR2.out, HK2.out⟩
    case round =>
      clear HP2 HR2 HK2 HL2
      obtain ⟨wo, rfl⟩ : ∃ wo : World, wo = wr := ⟨_, rfl⟩
      obtain ⟨l, css, k, hp, h1, hl1, h2, h3, hP, hL, hR8, hK⟩ := hrel
      obtain ⟨f, rfl⟩ : ∃ f, gk = f + 1 := ⟨gk - 1, by omega⟩
      have hke := hp.2.1
      have HP := Lib.hid hp
      have HL := Lib.hid hL
      have HR8 := Lib.hid hR8
      have HK := Lib.hid hK
      have hP2 := hP.out
      clear hp hL hR8 hK hP
      rw [barsL_step] at hP2
      by_cases hb : T[k]? = some 124
      · rw [if_pos hb] at hP2
        have hlb := at_lt hb
        have HS := Lib.hid (skY 124 124 rfl wo HP.out hb)
        clear hb
        rcases ht : termsP T E (k + 1) with _ | ⟨r2, k3⟩
        · rw [ht] at hP2
          have hz : Z = none := by rw [HZ.out, ← hP2]
          subst hz
          have HT := Lib.hid fun w1 h1 => HE.out (k + 1) w1 (by omega) h1
          rw [ht] at HT
          clear ht hP2
          go_wp2_with fail
          refine HS.out.mono ?_
          rintro e w3 ⟨rfl, hp3, hk3⟩
          go_wp2_with fail
          refine (HT.out w3 hp3).mono ?_
          rintro e w4 ⟨rfl, hp4, hk4⟩
          go_wp2_with fail
          exact ⟨rfl, rfl, hp4, (HK.out.then_ hk3).then_ hk4⟩
        · rw [ht] at hP2
          have hk3p := termsP_pos HEP.out (by omega) ht
          have HPn := Lib.hid hP2
          have HT := Lib.hid fun w1 h1 => HE.out (k + 1) w1 (by omega) h1
          rw [ht] at HT
          clear ht hP2
          go_wp2_with fail
          refine HS.out.mono ?_
          rintro e w3 ⟨rfl, hp3, hk3⟩
          go_wp2_with fail
          refine (HT.out w3 hp3).mono ?_
          rintro e w4 ⟨cs, rfl, hv, hp4, hk4⟩
          obtain ⟨kd, a0, a1, a2, a3, lo, hi, A, n, c, rfl⟩ := hv.eight
          have hs3 : wo.heap.size ≤ w3.heap.size := hk3.size
          have hs4 : w3.heap.size ≤ w4.heap.size := hk4.size
          have hso : w.heap.size < wo.heap.size := HR8.out.lt
          have hk34 := hk3.then_ hk4
          have hL4 := HL.out.kept hk34 (fun i h1 h2 e => by have e' : i = g := e; omega)
          have hR4 := HR8.out.kept hk34 hne
          have hK4 := HK.out.then_ hk34
          have ho4 := hL4.1.alloc (.cells #[.int .i64 kd, .int .u64 a0, .int .u64 a1, .int .u64 a2, .int .u64 a3, .int .i64 lo, .int .i64 hi, .slice A n c] 27)
          have hrr := reads8 w4 (.int .i64 kd) (.int .u64 a0) (.int .u64 a1) (.int .u64 a2) (.int .u64 a3) (.int .i64 lo) (.int .i64 hi) (.slice A n c)
          have hone : ∀ u ∈ ([.int .i64 kd, .int .u64 a0, .int .u64 a1, .int .u64 a2, .int .u64 a3, .int .i64 lo, .int .i64 hi, .slice A n c] : List Value), u.oneCell' = true := by simp [Value.oneCell']
          have HV4 := Lib.hid hv
          have HL4 := Lib.hid hL4.2
          have HO4 := Lib.hid hL4.1
          have HK4 := Lib.hid hK4
          have HP4 := Lib.hid hp4
          have HR4 := Lib.hid hR4
          clear hK4 hv hk34 hL4 hR4 hp4 hk4 hp3 hk3
          have hinf := HI.out
          have hz0 := HI0.out
          have hz1 := HI1.out
          have hz2 := HI2.out
          go_wp2_with (at_builtin; refine wpList_append_any _ rfl (.tmp 9) (.tmp 12) 25 rfl (w.heap.size + 1) 27 i0 (.agg #[.int .i64 0, .int .u64 0, .int .u64 0, .int .u64 0, .int .u64 0, .int .i64 0, .int .i64 0, .slice none 0 0]) 8 80 Tryd.underlying25 hinf hz0 hz1 hz2 rfl (by decide) _ l.length css rfl ho4 _ _ _ _ [.int .i64 kd, .int .u64 a0, .int .u64 a1, .int .u64 a2, .int .u64 a3, .int .i64 lo, .int .i64 hi, .slice A n c] rfl hrr hone (by unfold maxLen; omega) (by omega) (by simp; omega) ?_)
          intro v5 w5 hown5 hg5 hv5
          clear hinf hz0 hz1 hz2 ho4 hrr hone
          have HN := Lib.hid (push_next hg HP4.out HL4.out HO4.out HR4.out HK4.out HV4.out (fun i hh _ => ⟨by have hh1 := hh.1; omega, fun e => by have := own_ge HL.out.1 e; have hh1 := hh.1; omega⟩) hown5 hg5 hv5)
          clear hown5 hg5 hv5
          go_wp2_with fail
          go_roundg f
          case measure => omega
          case rel =>
            obtain ⟨n1, n2, n3, n4⟩ := HN.out
            exact ⟨l ++ [r2], _, k3, n1, by omega, by simp, by simp; omega, by omega, HPn.out, n2, n3, n4⟩
      · rw [if_neg hb] at hP2
        have HS := Lib.hid (skN 124 124 rfl wo HP.out hb)
        have hz : Z = some (Rx.alt l, k) := by rw [HZ.out, ← hP2]
        subst hz
        clear hb hP2
        go_wp2_with fail
        refine HS.out.mono ?_
        rintro e w3 ⟨rfl, hp3, hk3⟩
        have hL3 := HL.out.kept hk3 (fun i h1 h2 e => by have e' : i = g := e; omega)
        have hR3 := HR8.out.kept hk3 hne
        have hK3 := HK.out.then_ hk3
        obtain ⟨A, c, hvv, hrd⟩ := own_form8 hL3.1
        subst hvv
        have hvs := hL3.2
        by_cases h1n : l.length = 1
        · obtain ⟨r1, rfl⟩ : ∃ r1, l = [r1] := by
            match l, h1n with
            | [r1], _ => exact ⟨r1, rfl⟩
          obtain ⟨b, oo, rfl, hFb, hbb, hcc⟩ := hrd.2 (by simp)
          have hvs1 := hvs
          unfold RxVs RxVs at hvs1
          obtain ⟨cs, css', rfl, hv1, rfl⟩ := hvs1
          rw [List.append_nil] at hcc
          obtain ⟨kd, a0, a1, a2, a3, lo, hi, A', n, c', rfl⟩ := hv1.eight
          have y0 := hcc 0 _ rfl
          have y1 := hcc 1 _ rfl
          have y2 := hcc 2 _ rfl
          have y3 := hcc 3 _ rfl
          have y4 := hcc 4 _ rfl
          have y5 := hcc 5 _ rfl
          have y6 := hcc 6 _ rfl
          have y7 := hcc 7 _ rfl
          rw [Nat.add_zero] at y0
          have HVV := Lib.hid hv1
          clear hcc hrd hvs hL3 hv1
          simp only [List.length_singleton] at h1n ⊢
          obtain ⟨⟨⟨c0, c1⟩, c2, c3⟩, ⟨c4, c5⟩, c6, c7⟩ := hR3.cells
          obtain ⟨⟨⟨f0, f1⟩, f2, f3⟩, ⟨f4, f5⟩, f6, f7⟩ := hR3.free
          have HZ := Lib.hid (hR3.all (.int .i64 kd) (.int .u64 a0) (.int .u64 a1) (.int .u64 a2) (.int .u64 a3) (.int .i64 lo) (.int .i64 hi) (.slice A' n c'))
          have HPP := Lib.hid (hp3.far8 (X := w.heap.size) (by omega) (.int .i64 kd) (.int .u64 a0) (.int .u64 a1) (.int .u64 a2) (.int .u64 a3) (.int .i64 lo) (.int .i64 hi) (.slice A' n c'))
          have HKK := Lib.hid (kept_set8 hK3 (g := w.heap.size) (.inr (Nat.le_refl _)) (.int .i64 kd) (.int .u64 a0) (.int .u64 a1) (.int .u64 a2) (.int .u64 a3) (.int .i64 lo) (.int .i64 hi) (.slice A' n c'))
          clear hR3
          go_wp2_with fail
          obtain ⟨⟨⟨d0, d1⟩, d2, d3⟩, ⟨d4, d5⟩, d6, d7⟩ := HZ.out.cells
          unfold set8 at d0 d1 d2 d3 d4 d5 d6 d7
          refine bodyPost_ret (v := .agg #[.int .i64 kd, .int .u64 a0, .int .u64 a1, .int .u64 a2, .int .u64 a3, .int .i64 lo, .int .i64 hi, .slice A' n c']) (by simp [results, Tryd.results18, go_sem, d0, d1, d2, d3, d4, d5, d6, d7]) rfl ?_
          refine ⟨_, rfl, ?_, HPP.out, HKK.out⟩
          refine HVV.out.kept (kept_set8 (Kept.refl (fun i => i = w.heap.size) w3) (g := w.heap.size) (.inl rfl) (.int .i64 kd) (.int .u64 a0) (.int .u64 a1) (.int .u64 a2) (.int .u64 a3) (.int .i64 lo) (.int .i64 hi) (.slice A' n c')) (fun i hh _ e => by have e' : i = w.heap.size := e; have hh' : w.heap.size + 1 ≤ i := hh.1; omega) (fun i hh hl => ⟨by have hh' : w.heap.size + 1 ≤ i := hh.1; omega, ?_⟩)
          exact Nat.lt_of_lt_of_le hl (kept_set8 (Kept.refl (fun i => i = w.heap.size) w3) (g := w.heap.size) (.inl rfl) (.int .i64 kd) (.int .u64 a0) (.int .u64 a1) (.int .u64 a2) (.int .u64 a3) (.int .i64 lo) (.int .i64 hi) (.slice A' n c')).size
        · obtain ⟨nl, hnl⟩ : ∃ nl, nl = l.length := ⟨_, rfl⟩
          have t1 : ((nl : Int) == 1) = false := by simp; omega
          rw [← hnl] at hrd ⊢
          have HRD := Lib.hid hrd
          have HVS := Lib.hid hvs
          have hl2 : 2 ≤ nl := by omega
          have hl3 : nl ≤ k + 1 := by omega
          have HNL := Lib.hid hnl
          clear hrd hvs hL3 hnl h1n
          obtain ⟨⟨⟨c0, c1⟩, c2, c3⟩, ⟨c4, c5⟩, c6, c7⟩ := hR3.cells
          obtain ⟨⟨⟨f0, f1⟩, f2, f3⟩, ⟨f4, f5⟩, f6, f7⟩ := hR3.free
          have HZ := Lib.hid (hR3.all (.int .i64 4) (.int .u64 0) (.int .u64 0) (.int .u64 0) (.int .u64 0) (.int .i64 0) (.int .i64 0) (.slice A nl c))
          have HPP := Lib.hid (hp3.far8 (X := w.heap.size) (by omega) (.int .i64 4) (.int .u64 0) (.int .u64 0) (.int .u64 0) (.int .u64 0) (.int .i64 0) (.int .i64 0) (.slice A nl c))
          have HKK := Lib.hid (kept_set8 hK3 (g := w.heap.size) (.inr (Nat.le_refl _)) (.int .i64 4) (.int .u64 0) (.int .u64 0) (.int .u64 0) (.int .u64 0) (.int .i64 0) (.int .i64 0) (.slice A nl c))
          clear hR3
          go_wp2_with fail
          obtain ⟨⟨⟨d0, d1⟩, d2, d3⟩, ⟨d4, d5⟩, d6, d7⟩ := HZ.out.cells
          unfold set8 at d0 d1 d2 d3 d4 d5 d6 d7
          refine bodyPost_ret (v := .agg #[.int .i64 4, .int .u64 0, .int .u64 0, .int .u64 0, .int .u64 0, .int .i64 0, .int .i64 0, .slice A nl c]) (by simp [results, Tryd.results18, go_sem, d0, d1, d2, d3, d4, d5, d6, d7]) rfl ?_
          refine ⟨_, rfl, ?_, HPP.out, HKK.out⟩
          have hks := kept_set8 (Kept.refl (fun i => i = w.heap.size) w3) (g := w.heap.size) (.inl rfl) (.int .i64 4) (.int .u64 0) (.int .u64 0) (.int .u64 0) (.int .u64 0) (.int .i64 0) (.int .i64 0) (.slice A nl c)
          rw [Rx.alt_many (by have := HNL.out; omega)]
          unfold Rx.plain RxV
          rw [← HNL.out]
          refine ⟨A, c, css, rfl, HRD.out.keep (fun i hh hl => hks.block i hl (fun e => by have e' : i = w.heap.size := e; have hh' : w.heap.size + 1 ≤ i := hh; omega)) hks.size (fun i hh hl => ⟨by have hh' : w.heap.size + 1 ≤ i := hh; omega, Nat.lt_of_lt_of_le hl hks.size⟩), ?_⟩
          exact HVS.out.kept hks (fun i hh _ e => by have e' : i = w.heap.size := e; have hh' : w.heap.size + 1 ≤ i := hh.1; omega) (fun i hh hl => ⟨by have hh' : w.heap.size + 1 ≤ i := hh.1; omega, Nat.lt_of_lt_of_le hl hks.size⟩)
theorem expr_any {T : List UInt8} {g : Nat} : ∀ (n k : Nat) (w : World), PS T w g k → T.length - k < n → Calls Tryd.prog 18 #[.pointer (some ⟨g, 0, none⟩)] w (TRes T w g (exprN T n k))
  | 0, _, _, _, h => by omega
  | n + 1, k, w, h, hn => by
    have ih := expr_any (T := T) (g := g) n
    refine expr_step w (exprN T n) h (exprN_pos n) (fun k1 w1 hk h1 => ?_) _ rfl
    exact terms_any w1 (exprN T n) h1 (exprN_pos n) fun k2 w2 hk2 h2 => ih k2 w2 h2 (by have := h2.2.1; omega)
end Go.Proofs.YtpiagfmjekcncaaDoor
