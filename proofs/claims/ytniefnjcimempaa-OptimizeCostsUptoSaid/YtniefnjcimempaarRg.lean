/- The walk of the parser's expression. The walks of regex.copies, meter.node, measure. The walk of regex.measure. The walk of the deferred closure of regex.Parse. The walk of regex.Parse. -/
import Derived.Test.YtniefnjcimempaarRw
import Derived.Defers
import Derived.Recover
import Derived.Laws.Pointers
namespace Go.Proofs.Ytniefnjcimempaa
open Go.RowKit
theorem push_next {T : List UInt8} {w w4 w5 : World} {g k3 : Nat} {v v5 : Value} {l : List Rx} {css : List Value} {r2 : Rx} {o : Obj} {cs : List Value} {Fx : Nat → Prop} (hg : g < w.heap.size)
    (HP4 : PS T w4 g k3) (HL : RxVs w4 (offV (w.heap.size + 1) w4.heap.size v) l css) (HO : w4.ownsRow (w.heap.size + 1) 108 8 v l.length css) (HR4 : R8 w4 w.heap.size (.int .i64 0) (.int .u64 0) (.int .u64 0) (.int .u64 0) (.int .u64 0) (.int .i64 0) (.int .i64 0) (.slice none 0 0)) (HK4 : Kept (isG g) w w4) (hv4 : RxV w4 Fx r2 cs)
    (hFx : ∀ i, Fx i → i < w4.heap.size → w.heap.size + 1 ≤ i ∧ v.ownBlock ≠ some i) (hown5 : w5.ownsRow (w.heap.size + 1) 108 8 v5 (l.length + 1) (css ++ cs)) (hg5 : (w4.alloc o).grownBy w5 v.ownBlock) (hv5 : v5.ownBlock = v.ownBlock ∨ v5.ownBlock = some (w4.heap.size + 1)) :
    PS T w5 g k3 ∧ LSt (w.heap.size + 1) v5 (l ++ [r2]) (css ++ cs) w5 ∧ R8 w5 w.heap.size (.int .i64 0) (.int .u64 0) (.int .u64 0) (.int .u64 0) (.int .u64 0) (.int .i64 0) (.int .i64 0) (.slice none 0 0) ∧ Kept (isG g) w w5 := by
  have hge := fun i (e : v.ownBlock = some i) => own_ge HO e
  have h45 : Kept (fun i => v.ownBlock = some i) (w4.alloc o) w5 := Kept.of_grown hg5 fun gg e => e
  have h4a : Kept (fun _ => False) w4 (w4.alloc o) := (Kept.refl _ _).alloc o
  refine ⟨PS.kept (HP4.alloc o) h45 (fun e => by have := hge _ e; omega), ?_, R8.kept (HR4.alloc o) h45 (fun e => by have := hge _ e; omega), (HK4.alloc o).trans (h45.mono fun i e => .inr (by have := hge _ e; omega))⟩
  refine LSt.push (F := fun i => Fx i ∧ i < w4.heap.size) ?_ hown5 hg5 (by simpa using hv5) (hv4.kept h4a (fun _ _ _ => id) fun _ h hl => ⟨h, hl⟩) fun i hi hl' => hFx i hi.1 hi.2
  exact HL.kept h4a (fun _ _ _ => id) fun i hi hl' => ⟨hi.1, by simp; omega, hi.2.2⟩
def BrRel (T : List UInt8) (w : World) (g k0 : Nat) (E : Nat → Option (Rx × Nat)) (R : Option (List Rx × Nat)) (f : Nat) (v : Value) (wr : World) : Prop :=
  ∃ (l : List Rx) (css : List Value) (k : Nat), PS T wr g k ∧ k0 ≤ k ∧ 1 ≤ l.length ∧ l.length ≤ k + 1 ∧ T.length - k < f ∧ Hid (barsL T E f l k = R) ∧ LSt (w.heap.size + 1) v l css wr ∧ R8 wr w.heap.size (.int .i64 0) (.int .u64 0) (.int .u64 0) (.int .u64 0) (.int .u64 0) (.int .i64 0) (.int .i64 0) (.slice none 0 0) ∧ Kept (isG g) w wr
theorem LSt.one {lo : Nat} {w : World} {r : Rx} {F : Nat → Prop} {v0 v1 v2 v3 v4 v5 v6 v7 : Value} (hv : RxV w F r [v0, v1, v2, v3, v4, v5, v6, v7]) (hF : ∀ i, F i → i < w.heap.size → lo ≤ i) (hl : lo ≤ w.heap.size) :
    LSt lo (.slice (some ⟨w.heap.size, 0, none⟩) 1 1) [r] [v0, v1, v2, v3, v4, v5, v6, v7] (w.alloc (.cells #[v0, v1, v2, v3, v4, v5, v6, v7] 108)) := by
  refine ⟨⟨rfl, .inr ⟨w.heap.size, 1, _, rfl, hl, Blk.new _ _ _, Nat.le_refl _, by decide, rfl, rfl⟩⟩, RxVs.one ?_⟩
  refine hv.kept ((Kept.refl (fun _ => False) w).alloc _) (fun _ _ _ => id) fun i hi hl' => ⟨hF i hi hl', by simp; omega, ?_⟩
  intro e
  injection e with e
  have e' : w.heap.size = i := e
  omega
theorem barsL_step {T : List UInt8} {E : Nat → Option (Rx × Nat)} {f k : Nat} {l : List Rx} : barsL T E (f + 1) l k = if T[k]? = some 124 then (match termsP T E (k + 1) with
      | none => none
      | some (r, k') => barsL T E f (l ++ [r]) k')
    else some (l, k) := rfl
theorem Rx.alt_many {l : List Rx} (h : 2 ≤ l.length) : Rx.alt l = Rx.plain 4 l := by
  match l, h with
  | r :: q :: l, _ => rfl
set_option maxHeartbeats 3000000
set_option maxRecDepth 100000
theorem expr_step {T : List UInt8} {g k0 : Nat} (w : World) (E : Nat → Option (Rx × Nat)) (h : PS T w g k0) (hEp : ∀ k k' r, k ≤ T.length → E k = some (r, k') → k ≤ k' ∧ k' ≤ T.length)
    (hTm : ∀ k1 w1, k0 ≤ k1 → PS T w1 g k1 → Calls Try.prog 90 #[.pointer (some ⟨g, 0, none⟩)] w1 (TRes T w1 g (termsP T E k1))) (Z : Option (Rx × Nat)) (hZ : Z = match termsP T E k0 with
      | none => none
      | some (r, k1) => match barsL T E (T.length + 1) [r] k1 with
        | none => none
        | some (l, k2) => some (Rx.alt l, k2)) : Calls Try.prog 72 #[.pointer (some ⟨g, 0, none⟩)] w (TRes T w g Z) := by
  obtain ⟨i0, hinf, hz0, hz1, hz2⟩ := info_parts infoR
  have HZ := Lib.hid hZ
  have HE := Lib.hid hTm
  have HEP := Lib.hid hEp
  have hT := h.2.2
  have hg := h.lt
  have hk0 := h.2.1
  have HR0 := Lib.hid (R8.mk0 w w.heap.size rfl)
  have HP0 := Lib.hid (h.alloc (.cells #[.int .i64 0, .int .u64 0, .int .u64 0, .int .u64 0, .int .u64 0, .int .i64 0, .int .i64 0, .slice none 0 0] 108))
  have HK0 := Lib.hid ((Kept.refl (isG g) w).alloc (.cells #[.int .i64 0, .int .u64 0, .int .u64 0, .int .u64 0, .int .u64 0, .int .i64 0, .int .i64 0, .slice none 0 0] 108))
  have hne : ¬ isG g w.heap.size := fun e => absurd hg (by rw [show g = w.heap.size from e.symm]; omega)
  have HI := Lib.hid hinf
  have HI0 := Lib.hid hz0
  have HI1 := Lib.hid hz1
  have HI2 := Lib.hid hz2
  clear hZ hTm hEp h hinf hz0 hz1 hz2
  rcases ht : termsP T E k0 with _ | ⟨r, k1⟩
  · have hz := HZ.out
    rw [ht] at hz
    subst hz
    have HT := Lib.hid (HE.out k0 _ (Nat.le_refl _) HP0.out)
    rw [ht] at HT
    clear ht
    go_enter Try.func72, Try.ntmps72
    go_wp2_with fail
    refine HT.out.mono ?_
    rintro e w2 ⟨rfl, hp2, hk2⟩
    go_wp2_with fail
    exact ⟨rfl, rfl, hp2, HK0.out.then_ hk2⟩
  · have hz := HZ.out
    rw [ht] at hz
    simp only at hz
    have hkk := termsP_pos HEP.out hk0 ht
    obtain ⟨R, hR⟩ : ∃ R, R = barsL T E (T.length + 1) [r] k1 := ⟨_, rfl⟩
    rw [← hR] at hz
    have HZ := Lib.hid hz
    have HR := Lib.hid hR
    have HT := Lib.hid (HE.out k0 _ (Nat.le_refl _) HP0.out)
    rw [ht] at HT
    clear ht hz hR
    go_enter Try.func72, Try.ntmps72
    go_wp2_with fail
    refine HT.out.mono ?_
    rintro e w2 ⟨cs, rfl, hv, hp2, hk2⟩
    obtain ⟨kd, a0, a1, a2, a3, lo, hi, A, n, c, rfl⟩ := hv.eight
    have hR2 := HR0.out.kept hk2 hne
    have hK2 := HK0.out.then_ hk2
    have hs2 : w.heap.size + 1 ≤ w2.heap.size := by have := hk2.size; simpa using this
    have HL2 := Lib.hid (LSt.one (lo := w.heap.size + 1) hv (fun i hh _ => by have hh1 := hh.1; simp at hh1; omega) hs2)
    have HP2 := Lib.hid (hp2.alloc (.cells #[.int .i64 kd, .int .u64 a0, .int .u64 a1, .int .u64 a2, .int .u64 a3, .int .i64 lo, .int .i64 hi, .slice A n c] 108))
    have HR2 := Lib.hid (hR2.alloc (.cells #[.int .i64 kd, .int .u64 a0, .int .u64 a1, .int .u64 a2, .int .u64 a3, .int .i64 lo, .int .i64 hi, .slice A n c] 108))
    have HK2 := Lib.hid (hK2.alloc (.cells #[.int .i64 kd, .int .u64 a0, .int .u64 a1, .int .u64 a2, .int .u64 a3, .int .i64 lo, .int .i64 hi, .slice A n c] 108))
    clear hv hp2 hk2 hR2 hK2 HR0 HP0 HK0 HT
    go_wp2_with fail
    go_loopg [3] (T.length + 1) (fun f v wr => BrRel T w g k0 E R f v wr)
    case atStart => exact ⟨[r], _, k1, HP2.out, hkk.1, by simp, by simp, by omega, HR.out.symm, HL2.out, HR2.out, HK2.out⟩
    case round =>
      clear HP2 HR2 HK2 HL2
      obtain ⟨wo, rfl⟩ : ∃ wo : World, wo = wr := ⟨_, rfl⟩
      obtain ⟨l, css, k, hp, h1, hl1, h2, h3, hP, hL, hR8, hK⟩ := hrel
      obtain ⟨f, rfl⟩ : ∃ f, gk = f + 1 := ⟨gk - 1, by omega⟩
      have hke := hp.2.1
      have HP := Lib.hid hp
      have HL := Lib.hid hL
      have HR8 := Lib.hid hR8
      have HK := Lib.hid hK
      have hP2 := hP.out
      clear hp hL hR8 hK hP
      rw [barsL_step] at hP2
      by_cases hb : T[k]? = some 124
      · rw [if_pos hb] at hP2
        have hlb := at_lt hb
        have HS := Lib.hid (skY 124 124 rfl wo HP.out hb)
        clear hb
        rcases ht : termsP T E (k + 1) with _ | ⟨r2, k3⟩
        · rw [ht] at hP2
          have hz : Z = none := by rw [HZ.out, ← hP2]
          subst hz
          have HT := Lib.hid fun w1 h1 => HE.out (k + 1) w1 (by omega) h1
          rw [ht] at HT
          clear ht hP2
          go_wp2_with fail
          refine HS.out.mono ?_
          rintro e w3 ⟨rfl, hp3, hk3⟩
          go_wp2_with fail
          refine (HT.out w3 hp3).mono ?_
          rintro e w4 ⟨rfl, hp4, hk4⟩
          go_wp2_with fail
          exact ⟨rfl, rfl, hp4, (HK.out.then_ hk3).then_ hk4⟩
        · rw [ht] at hP2
          have hk3p := termsP_pos HEP.out (by omega) ht
          have HPn := Lib.hid hP2
          have HT := Lib.hid fun w1 h1 => HE.out (k + 1) w1 (by omega) h1
          rw [ht] at HT
          clear ht hP2
          go_wp2_with fail
          refine HS.out.mono ?_
          rintro e w3 ⟨rfl, hp3, hk3⟩
          go_wp2_with fail
          refine (HT.out w3 hp3).mono ?_
          rintro e w4 ⟨cs, rfl, hv, hp4, hk4⟩
          obtain ⟨kd, a0, a1, a2, a3, lo, hi, A, n, c, rfl⟩ := hv.eight
          have hs3 : wo.heap.size ≤ w3.heap.size := hk3.size
          have hs4 : w3.heap.size ≤ w4.heap.size := hk4.size
          have hso : w.heap.size < wo.heap.size := HR8.out.lt
          have hk34 := hk3.then_ hk4
          have hL4 := HL.out.kept hk34 (fun i h1 h2 e => by have e' : i = g := e; omega)
          have hR4 := HR8.out.kept hk34 hne
          have hK4 := HK.out.then_ hk34
          have ho4 := hL4.1.alloc (.cells #[.int .i64 kd, .int .u64 a0, .int .u64 a1, .int .u64 a2, .int .u64 a3, .int .i64 lo, .int .i64 hi, .slice A n c] 108)
          have hrr := reads8 w4 (.int .i64 kd) (.int .u64 a0) (.int .u64 a1) (.int .u64 a2) (.int .u64 a3) (.int .i64 lo) (.int .i64 hi) (.slice A n c)
          have hone : ∀ u ∈ ([.int .i64 kd, .int .u64 a0, .int .u64 a1, .int .u64 a2, .int .u64 a3, .int .i64 lo, .int .i64 hi, .slice A n c] : List Value), u.oneCell' = true := by simp [Value.oneCell']
          have HV4 := Lib.hid hv
          have HL4 := Lib.hid hL4.2
          have HO4 := Lib.hid hL4.1
          have HK4 := Lib.hid hK4
          have HP4 := Lib.hid hp4
          have HR4 := Lib.hid hR4
          clear hK4 hv hk34 hL4 hR4 hp4 hk4 hp3 hk3
          have hinf := HI.out
          have hz0 := HI0.out
          have hz1 := HI1.out
          have hz2 := HI2.out
          go_wp2_with (at_builtin; refine wpList_append_any _ rfl (.tmp 9) (.tmp 12) 106 rfl (w.heap.size + 1) 108 i0 (.agg #[.int .i64 0, .int .u64 0, .int .u64 0, .int .u64 0, .int .u64 0, .int .i64 0, .int .i64 0, .slice none 0 0]) 8 80 Try.underlying106 hinf hz0 hz1 hz2 rfl (by decide) _ l.length css rfl ho4 _ _ _ _ [.int .i64 kd, .int .u64 a0, .int .u64 a1, .int .u64 a2, .int .u64 a3, .int .i64 lo, .int .i64 hi, .slice A n c] rfl hrr hone (by unfold maxLen; omega) (by omega) (by simp; omega) ?_)
          intro v5 w5 hown5 hg5 hv5
          clear hinf hz0 hz1 hz2 ho4 hrr hone
          have HN := Lib.hid (push_next hg HP4.out HL4.out HO4.out HR4.out HK4.out HV4.out (fun i hh _ => ⟨by have hh1 := hh.1; omega, fun e => by have := own_ge HL.out.1 e; have hh1 := hh.1; omega⟩) hown5 hg5 hv5)
          clear hown5 hg5 hv5
          go_wp2_with fail
          go_roundg f
          case measure => omega
          case rel =>
            obtain ⟨n1, n2, n3, n4⟩ := HN.out
            exact ⟨l ++ [r2], _, k3, n1, by omega, by simp, by simp; omega, by omega, HPn.out, n2, n3, n4⟩
      · rw [if_neg hb] at hP2
        have HS := Lib.hid (skN 124 124 rfl wo HP.out hb)
        have hz : Z = some (Rx.alt l, k) := by rw [HZ.out, ← hP2]
        subst hz
        clear hb hP2
        go_wp2_with fail
        refine HS.out.mono ?_
        rintro e w3 ⟨rfl, hp3, hk3⟩
        have hL3 := HL.out.kept hk3 (fun i h1 h2 e => by have e' : i = g := e; omega)
        have hR3 := HR8.out.kept hk3 hne
        have hK3 := HK.out.then_ hk3
        obtain ⟨A, c, hvv, hrd⟩ := own_form8 hL3.1
        subst hvv
        have hvs := hL3.2
        by_cases h1n : l.length = 1
        · obtain ⟨r1, rfl⟩ : ∃ r1, l = [r1] := by
            match l, h1n with
            | [r1], _ => exact ⟨r1, rfl⟩
          obtain ⟨b, oo, rfl, hFb, hbb, hcc⟩ := hrd.2 (by simp)
          have hvs1 := hvs
          unfold RxVs RxVs at hvs1
          obtain ⟨cs, css', rfl, hv1, rfl⟩ := hvs1
          rw [List.append_nil] at hcc
          obtain ⟨kd, a0, a1, a2, a3, lo, hi, A', n, c', rfl⟩ := hv1.eight
          have y0 := hcc 0 _ rfl
          have y1 := hcc 1 _ rfl
          have y2 := hcc 2 _ rfl
          have y3 := hcc 3 _ rfl
          have y4 := hcc 4 _ rfl
          have y5 := hcc 5 _ rfl
          have y6 := hcc 6 _ rfl
          have y7 := hcc 7 _ rfl
          rw [Nat.add_zero] at y0
          have HVV := Lib.hid hv1
          clear hcc hrd hvs hL3 hv1
          simp only [List.length_singleton] at h1n ⊢
          obtain ⟨⟨⟨c0, c1⟩, c2, c3⟩, ⟨c4, c5⟩, c6, c7⟩ := hR3.cells
          obtain ⟨⟨⟨f0, f1⟩, f2, f3⟩, ⟨f4, f5⟩, f6, f7⟩ := hR3.free
          have HZ := Lib.hid (hR3.all (.int .i64 kd) (.int .u64 a0) (.int .u64 a1) (.int .u64 a2) (.int .u64 a3) (.int .i64 lo) (.int .i64 hi) (.slice A' n c'))
          have HPP := Lib.hid (hp3.far8 (X := w.heap.size) (by omega) (.int .i64 kd) (.int .u64 a0) (.int .u64 a1) (.int .u64 a2) (.int .u64 a3) (.int .i64 lo) (.int .i64 hi) (.slice A' n c'))
          have HKK := Lib.hid (kept_set8 hK3 (g := w.heap.size) (.inr (Nat.le_refl _)) (.int .i64 kd) (.int .u64 a0) (.int .u64 a1) (.int .u64 a2) (.int .u64 a3) (.int .i64 lo) (.int .i64 hi) (.slice A' n c'))
          clear hR3
          go_wp2_with fail
          obtain ⟨⟨⟨d0, d1⟩, d2, d3⟩, ⟨d4, d5⟩, d6, d7⟩ := HZ.out.cells
          unfold set8 at d0 d1 d2 d3 d4 d5 d6 d7
          refine bodyPost_ret (v := .agg #[.int .i64 kd, .int .u64 a0, .int .u64 a1, .int .u64 a2, .int .u64 a3, .int .i64 lo, .int .i64 hi, .slice A' n c']) (by simp [results, Try.results72, go_sem, d0, d1, d2, d3, d4, d5, d6, d7]) rfl ?_
          refine ⟨_, rfl, ?_, HPP.out, HKK.out⟩
          refine HVV.out.kept (kept_set8 (Kept.refl (fun i => i = w.heap.size) w3) (g := w.heap.size) (.inl rfl) (.int .i64 kd) (.int .u64 a0) (.int .u64 a1) (.int .u64 a2) (.int .u64 a3) (.int .i64 lo) (.int .i64 hi) (.slice A' n c')) (fun i hh _ e => by have e' : i = w.heap.size := e; have hh' : w.heap.size + 1 ≤ i := hh.1; omega) (fun i hh hl => ⟨by have hh' : w.heap.size + 1 ≤ i := hh.1; omega, ?_⟩)
          exact Nat.lt_of_lt_of_le hl (kept_set8 (Kept.refl (fun i => i = w.heap.size) w3) (g := w.heap.size) (.inl rfl) (.int .i64 kd) (.int .u64 a0) (.int .u64 a1) (.int .u64 a2) (.int .u64 a3) (.int .i64 lo) (.int .i64 hi) (.slice A' n c')).size
        · obtain ⟨nl, hnl⟩ : ∃ nl, nl = l.length := ⟨_, rfl⟩
          have t1 : ((nl : Int) == 1) = false := by simp; omega
          rw [← hnl] at hrd ⊢
          have HRD := Lib.hid hrd
          have HVS := Lib.hid hvs
          have hl2 : 2 ≤ nl := by omega
          have hl3 : nl ≤ k + 1 := by omega
          have HNL := Lib.hid hnl
          clear hrd hvs hL3 hnl h1n
          obtain ⟨⟨⟨c0, c1⟩, c2, c3⟩, ⟨c4, c5⟩, c6, c7⟩ := hR3.cells
          obtain ⟨⟨⟨f0, f1⟩, f2, f3⟩, ⟨f4, f5⟩, f6, f7⟩ := hR3.free
          have HZ := Lib.hid (hR3.all (.int .i64 4) (.int .u64 0) (.int .u64 0) (.int .u64 0) (.int .u64 0) (.int .i64 0) (.int .i64 0) (.slice A nl c))
          have HPP := Lib.hid (hp3.far8 (X := w.heap.size) (by omega) (.int .i64 4) (.int .u64 0) (.int .u64 0) (.int .u64 0) (.int .u64 0) (.int .i64 0) (.int .i64 0) (.slice A nl c))
          have HKK := Lib.hid (kept_set8 hK3 (g := w.heap.size) (.inr (Nat.le_refl _)) (.int .i64 4) (.int .u64 0) (.int .u64 0) (.int .u64 0) (.int .u64 0) (.int .i64 0) (.int .i64 0) (.slice A nl c))
          clear hR3
          go_wp2_with fail
          obtain ⟨⟨⟨d0, d1⟩, d2, d3⟩, ⟨d4, d5⟩, d6, d7⟩ := HZ.out.cells
          unfold set8 at d0 d1 d2 d3 d4 d5 d6 d7
          refine bodyPost_ret (v := .agg #[.int .i64 4, .int .u64 0, .int .u64 0, .int .u64 0, .int .u64 0, .int .i64 0, .int .i64 0, .slice A nl c]) (by simp [results, Try.results72, go_sem, d0, d1, d2, d3, d4, d5, d6, d7]) rfl ?_
          refine ⟨_, rfl, ?_, HPP.out, HKK.out⟩
          have hks := kept_set8 (Kept.refl (fun i => i = w.heap.size) w3) (g := w.heap.size) (.inl rfl) (.int .i64 4) (.int .u64 0) (.int .u64 0) (.int .u64 0) (.int .u64 0) (.int .i64 0) (.int .i64 0) (.slice A nl c)
          rw [Rx.alt_many (by have := HNL.out; omega)]
          unfold Rx.plain RxV
          rw [← HNL.out]
          refine ⟨A, c, css, rfl, HRD.out.keep (fun i hh hl => hks.block i hl (fun e => by have e' : i = w.heap.size := e; have hh' : w.heap.size + 1 ≤ i := hh; omega)) hks.size (fun i hh hl => ⟨by have hh' : w.heap.size + 1 ≤ i := hh; omega, Nat.lt_of_lt_of_le hl hks.size⟩), ?_⟩
          exact HVS.out.kept hks (fun i hh _ e => by have e' : i = w.heap.size := e; have hh' : w.heap.size + 1 ≤ i := hh.1; omega) (fun i hh hl => ⟨by have hh' : w.heap.size + 1 ≤ i := hh.1; omega, Nat.lt_of_lt_of_le hl hks.size⟩)
theorem expr_any {T : List UInt8} {g : Nat} : ∀ (n k : Nat) (w : World), PS T w g k → T.length - k < n → Calls Try.prog 72 #[.pointer (some ⟨g, 0, none⟩)] w (TRes T w g (exprN T n k))
  | 0, _, _, _, h => by omega
  | n + 1, k, w, h, hn => by
    have ih := expr_any (T := T) (g := g) n
    refine expr_step w (exprN T n) h (exprN_pos n) (fun k1 w1 hk h1 => ?_) _ rfl
    exact terms_any w1 (exprN T n) h1 (exprN_pos n) fun k2 w2 hk2 h2 => ih k2 w2 h2 (by have := h2.2.1; omega)
end Go.Proofs.Ytniefnjcimempaa
namespace Go.Proofs.Ytniefnjcimempaa
open Go.RowKit
theorem copies_any (b o : Nat) (lo hi : Int) (w : World) (c5 : w.cell? ⟨b, o + 5, none⟩ = some (.int .i64 lo)) (c6 : w.cell? ⟨b, o + 6, none⟩ = some (.int .i64 hi)) (h1 : 0 ≤ lo) (h2 : lo ≤ 64) (h3 : -1 ≤ hi) (h4 : hi ≤ 64) :
    Calls Try.prog 102 #[.pointer (some ⟨b, o, none⟩)] w fun e w' => e = .returned (.int .i64 (copZ lo hi)) ∧ w = w' := by
  by_cases hm : hi = -1
  · have e1 : ((copZ lo hi : Nat) : Int) = max lo 1 := by
      unfold copZ
      rw [if_pos hm]
      omega
    rw [e1]
    subst hm
    clear e1
    go_enter Try.func102, Try.ntmps102
    go_wp2_with fail
    go_ret
    exact ⟨rfl, rfl⟩
  · have e1 : ((copZ lo hi : Nat) : Int) = hi := by
      unfold copZ
      rw [if_neg hm]
      omega
    have t1 : (hi == -1) = false := by simpa using hm
    rw [e1]
    clear hm e1
    go_enter Try.func102, Try.ntmps102
    go_wp2_with fail
    go_ret
    exact ⟨rfl, rfl⟩
def fitsN (s d : Nat) (r : Rx) : Prop := s + r.size ≤ 256 ∧ d + r.depth ≤ 33
def NdEnd (w : World) (m s d : Nat) (r : Rx) (e : Ending) (w' : World) : Prop :=
  (fitsN s d r → e = .returned (.tuple #[.int .i64 r.posC, .int .i64 r.wriC, .bool true]) ∧ Blk w' m 147 #[.int .i64 ((s + r.size : Nat) : Int)]) ∧
  (¬ fitsN s d r → e = .returned (.tuple #[.int .i64 0, .int .i64 0, .bool false])) ∧ Kept (isG m) w w'
def At8 (w : World) (b o : Nat) (cs : List Value) : Prop := b < w.heap.size ∧ ∀ j u, cs[j]? = some u → w.cell? ⟨b, o + j, none⟩ = some u
theorem At8.kept {K : Nat → Prop} {w w' : World} {b o : Nat} {cs : List Value} (h : At8 w b o cs) (k : Kept K w w') (hb : ¬ K b) : At8 w' b o cs :=
  ⟨Nat.lt_of_lt_of_le h.1 k.size, fun j u hu => (k.cell (p := ⟨b, o + j, none⟩) h.1 hb).trans (h.2 j u hu)⟩
def NdRel (w : World) (m s d base : Nat) (ps : List Rx) (p q i : Value) (wr : World) : Prop :=
  ∃ k : Nat, k ≤ ps.length ∧ i = .int .i64 k ∧ p = .int .i64 ((base + sumC Rx.posC (ps.take k) : Nat) : Int) ∧ q = .int .i64 ((sumC Rx.wriC (ps.take k) : Nat) : Int) ∧ Blk wr m 147 #[.int .i64 ((s + 1 + sizeL (ps.take k) : Nat) : Int)] ∧
    s + 1 + sizeL (ps.take k) ≤ 256 ∧ (∀ (j : Nat) (x : Rx), j < k → ps[j]? = some x → d + 1 + x.depth ≤ 33) ∧ Kept (isG m) w wr
theorem sizeL_ge : ∀ l : List Rx, l.length ≤ sizeL l
  | [] => by simp
  | r :: rs => by rw [sizeL, List.length_cons]; have := sizeL_ge rs; have := r.size_pos; omega
theorem sum_bd (f : Rx → Nat) (hf : ∀ r, f r ≤ 1048576) (l : List Rx) (k : Nat) (h : sizeL (l.take k) ≤ 256) : sumC f (l.take k) ≤ 268435456 := by
  have h1 := sumC_le f 1048576 hf (l.take k)
  have h2 := sizeL_ge (l.take k)
  have h3 : (l.take k).length * 1048576 ≤ 256 * 1048576 := Nat.mul_le_mul_right _ (by omega)
  omega
theorem posC_le (r : Rx) : r.posC ≤ 1048576 := by unfold Rx.posC capM; omega
theorem wriC_le (r : Rx) : r.wriC ≤ 1048576 := by unfold Rx.wriC capM; omega
set_option maxHeartbeats 3000000
theorem node_big (m s d : Nat) (x : Value) (w : World) (hm : Blk w m 147 #[.int .i64 s]) (hs : s ≤ 300) (hd : d ≤ 40) (hb : 256 < s + 1 ∨ 32 < d) : Calls Try.prog 92 #[.pointer (some ⟨m, 0, none⟩), x, .int .i64 d] w fun e w' => e = .returned (.tuple #[.int .i64 0, .int .i64 0, .bool false]) ∧ Kept (isG m) w w' := by
  have c0 := hm.cell 0
  have f0 := hm.frozen 0
  simp only [List.getElem?_toArray, List.getElem?_cons_zero] at c0
  have HK := Lib.hid ((Kept.refl (isG m) w).setCell (p := ⟨m, 0, none⟩) (.inl rfl) (.int .i64 ((s : Int) + 1)))
  clear hm
  by_cases h1 : 256 < s + 1
  · have t1 : decide (256 < (s : Int) + 1) = true := by simp; omega
    clear hb
    go_enter Try.func92, Try.ntmps92
    go_wp2_with fail
    go_ret3
    exact ⟨rfl, HK.out⟩
  · have t1 : decide (256 < (s : Int) + 1) = false := by simp; omega
    have t2 : decide (32 < (d : Int)) = true := by simp; omega
    clear hb
    go_enter Try.func92, Try.ntmps92
    go_wp2_with fail
    go_ret3
    exact ⟨rfl, HK.out⟩
theorem tup3 {a b a' b' : Int} (h : a = a') (h2 : b = b') : Ending.returned (.tuple #[.int .i64 a, .int .i64 b, .bool true]) = .returned (.tuple #[.int .i64 a', .int .i64 b', .bool true]) := by rw [h, h2]
theorem min_cap (X : Nat) (x : Int) (h : x = (X : Int)) : min x 1048576 = ((min X capM : Nat) : Int) := by
  subst h
  have e : ((capM : Nat) : Int) = 1048576 := rfl
  rw [← e]
  omega
theorem at_lt8 {l : List Rx} {i : Nat} {x : Rx} (h : l[i]? = some x) : i < l.length := by
  rcases Nat.lt_or_ge i l.length with h1 | h1
  · exact h1
  · rw [List.getElem?_eq_none h1] at h; cases h
set_option maxRecDepth 100000
theorem node_any (m : Nat) : ∀ (n : Nat) (r : Rx), r.size ≤ n → ∀ (b o : Nat) (cs : List Value) (w : World) (s d : Nat) (F : Nat → Prop), RxV w F r cs → At8 w b o cs → b ≠ m → (∀ i, F i → i ≠ m) → Blk w m 147 #[.int .i64 s] → r.tame → s ≤ 300 → d ≤ 40 →
    Calls Try.prog 92 #[.pointer (some ⟨m, 0, none⟩), .pointer (some ⟨b, o, none⟩), .int .i64 d] w (NdEnd w m s d r)
  | 0, r, hn, _, _, _, _, _, _, _, _, _, _, _, _, _, _, _ => by have := r.size_pos; omega
  | n + 1, .node kind u0 u1 u2 u3 lo hi ps, hn, b, o, cs, w, s, d, F, hv, hA, hbm, hFm, hm, ht, hs, hd => by
    have ih := node_any m n
    by_cases hbig : 256 < s + 1 ∨ 32 < d
    · have hnf : ¬ fitsN s d (.node kind u0 u1 u2 u3 lo hi ps) := fun h => by
        unfold fitsN Rx.size Rx.depth at h
        omega
      refine (node_big m s d _ w hm hs hd hbig).mono ?_
      rintro e w' ⟨rfl, hk⟩
      exact ⟨fun h => absurd h hnf, fun _ => rfl, hk⟩
    · unfold RxV at hv
      obtain ⟨A, c, css, rfl, hrd, hvs⟩ := hv
      unfold Rx.tame at ht
      obtain ⟨hkd, _, _, _, _, hlo0, hlo, hhi0, hhi, htl⟩ := ht
      have hs1 : s + 1 ≤ 256 := by omega
      have hd1 : d ≤ 32 := by omega
      have y0 := hA.2 0 _ rfl
      have y7 := hA.2 7 _ rfl
      rw [Nat.add_zero] at y0
      have c0 := hm.cell 0
      have f0 := hm.frozen 0
      simp only [List.getElem?_toArray, List.getElem?_cons_zero] at c0
      have t1 : decide (256 < (s : Int) + 1) = false := by simp; omega
      have t2 : decide (32 < (d : Int)) = false := by simp; omega
      have hbm' : ¬ isG m b := fun e => hbm e
      have HSZ := Lib.hid (show 1 + sizeL ps ≤ n + 1 from hn)
      have HM := Lib.hid hm
      have HA := Lib.hid hA
      have HRD := Lib.hid hrd
      have HVS := Lib.hid hvs
      have HTL := Lib.hid htl
      have hne : b ≠ m := hbm
      have hne2 : ¬ m = b := fun e => hbm e.symm
      clear hbig hm hA hrd hvs htl hn hbm
      have hbm := hbm'
      clear hbm'
      by_cases hk2 : kind = 2
      · have q2 : ((kind : Int) == 2) = true := by subst hk2; rfl
        have q5 : ((kind : Int) == 5) = false := by subst hk2; rfl
        have HBP := Lib.hid (show baseP kind = 1 by unfold baseP; rw [if_pos hk2])
        have HK5 := Lib.hid (show ¬ kind = 5 by omega)
        clear hk2
        go_enter Try.func92, Try.ntmps92
        go_wp2_with fail
        obtain ⟨w1, hw1⟩ : ∃ w1, w1 = w.setCell ⟨m, 0, none⟩ (.int .i64 ((s : Int) + 1)) := ⟨_, rfl⟩
        rw [← hw1]
        have HM1 := Lib.hid (show Blk w1 m 147 #[.int .i64 ((s : Int) + 1)] by rw [hw1]; exact Blk.set_ HM.out 0 _)
        have HK1 := Lib.hid (show Kept (isG m) w w1 by rw [hw1]; exact (Kept.refl (isG m) w).setCell (p := ⟨m, 0, none⟩) (.inl rfl) _)
        clear hw1
        go_loopg [6, 7, 39] (ps.length + 1) (fun f p q i wr => NdRel w m s d (baseP kind) ps p q i wr ∧ ps.length - (intOf i).toNat < f)
        case atStart => exact ⟨⟨0, Nat.zero_le _, rfl, by rw [HBP.out]; rfl, rfl, by simpa [sizeL] using HM1.out, by simp [sizeL]; omega, fun j x h _ => by omega, HK1.out⟩, by simp [intOf]⟩
        case round =>
          obtain ⟨⟨k, hk, rfl, rfl, rfl, hmk, hsk, hdk, hKk⟩, hfk⟩ := hrel
          have hbp := sum_bd Rx.posC posC_le ps k (by omega)
          have hbw := sum_bd Rx.wriC wriC_le ps k (by omega)
          have hbase : baseP kind ≤ 1 := by unfold baseP; split <;> omega
          have HMK := Lib.hid hmk
          have HKK := Lib.hid hKk
          have HDK := Lib.hid hdk
          have hA8 := HA.out.kept hKk hbm
          have y0 := hA8.2 0 _ rfl
          have y5 := hA8.2 5 _ rfl
          have y6 := hA8.2 6 _ rfl
          have y7 := hA8.2 7 _ rfl
          rw [Nat.add_zero] at y0
          clear hmk hKk hdk hA8
          have hfk2 : ps.length - k < gk := by simpa [intOf] using hfk
          clear hfk
          by_cases hlt : k < ps.length
          · obtain ⟨x, hx⟩ : ∃ x, ps[k]? = some x := ⟨_, List.getElem?_eq_getElem hlt⟩
            obtain ⟨cx, hvx, hcx⟩ := HVS.out.get k x hx
            obtain ⟨b', o', hA', hFb, hbb, hcc⟩ := HRD.out.2 (by omega)
            subst hA'
            have htx := tameL_get HTL.out hx
            have hszx := sizeL_take ps k x hx
            have hszle := sizeL_le ps (k + 1)
            have hxd := depthL_get hx
            have hb'm : b' ≠ m := fun e => hFm b' hFb e
            have hAx : At8 wr b' (o' + k * 8) cx := At8.kept (w := w) ⟨hbb, fun j u hu => by
              have := hcc (k * 8 + j) u (hcx j u hu)
              rw [show o' + k * 8 + j = o' + (k * 8 + j) by omega]
              exact this⟩ HKK.out (fun e => hb'm e)
            have hvr := hvx.kept HKK.out (fun i hi _ e => hFm i hi e) (fun i hi _ => hi)
            have HC := Lib.hid (ih x (by have := HSZ.out; omega) b' (o' + k * 8) cx wr (s + 1 + sizeL (ps.take k)) (d + 1) F hvr hAx hb'm hFm HMK.out htx (by omega) (by omega))
            have HX := Lib.hid hx
            have hlast : k ≤ 300 := by have := sizeL_ge (ps.take k); rw [List.length_take] at this; omega
            clear hx hvx hcx hcc hbb hvr hAx htx
            by_cases hfit : fitsN (s + 1 + sizeL (ps.take k)) (d + 1) x
            · have HF := Lib.hid hfit
              have hf1 := hfit.1
              have hf2 := hfit.2
              have hpx := posC_le x
              have hwx := wriC_le x
              clear hfit
              go_wp2_with fail
              refine HC.out.mono ?_
              rintro e w2 ⟨hok, _, hk2⟩
              obtain ⟨rfl, hm2⟩ := hok HF.out
              have HM2 := Lib.hid hm2
              have HK2 := Lib.hid (HKK.out.then_ hk2)
              clear hm2 hk2 hok y0 y5 y6 y7
              go_wp2_with fail
              go_roundg (ps.length - k)
              case measure => omega
              case rel =>
                refine ⟨⟨k + 1, hlt, rfl, ?_, ?_, ?_, by omega, fun j x' hj hx' => ?_, HK2.out⟩, by simp [intOf]; omega⟩
                · rw [sumC_take Rx.posC ps k x HX.out]; congr 1; omega
                · rw [sumC_take Rx.wriC ps k x HX.out]; congr 1
                · rw [hszx, show s + 1 + (sizeL (ps.take k) + x.size) = s + 1 + sizeL (ps.take k) + x.size by omega]; exact HM2.out
                · rcases Nat.lt_or_ge j k with hjk | hjk
                  · exact HDK.out j x' hjk hx'
                  · have : j = k := by omega
                    subst this
                    rw [HX.out] at hx'
                    injection hx' with hx'
                    subst hx'
                    omega
            · have HF := Lib.hid hfit
              have hnf : ¬ fitsN s d (.node kind u0 u1 u2 u3 lo hi ps) := fun h => hfit (by
                unfold fitsN Rx.size Rx.depth at h
                unfold fitsN
                omega)
              have HNF := Lib.hid hnf
              clear hfit hnf
              go_wp2_with fail
              refine HC.out.mono ?_
              rintro e w2 ⟨_, hno, hk2⟩
              obtain rfl := hno HF.out
              have HK2 := Lib.hid (HKK.out.then_ hk2)
              clear hk2 hno y0 y5 y6 y7
              go_wp2_with fail
              go_ret3
              exact ⟨fun h => absurd h HNF.out, fun _ => rfl, HK2.out⟩
          · have hke : k = ps.length := by omega
            subst hke
            have htk : ps.take ps.length = ps := List.take_length
            rw [htk] at hsk hbp hbw
            have HMK2 := Lib.hid (by have := HMK.out; rw [htk] at this; exact this)
            have HDF := Lib.hid (show depthL ps ≤ 32 - d from depthL_le fun j x hx => by have := HDK.out j x (at_lt8 hx) hx; omega)
            have hfit : fitsN s d (.node kind u0 u1 u2 u3 lo hi ps) := by
              unfold fitsN Rx.size Rx.depth
              have := HDF.out
              omega
            have HFit := Lib.hid hfit
            have hPN := pos_node kind u0 u1 u2 u3 lo hi ps capM
            have hWN := wri_node kind u0 u1 u2 u3 lo hi ps capM
            have hPN2 : min (mulC kind lo hi (baseP kind + sumC Rx.posC ps)) capM = Rx.posC (.node kind u0 u1 u2 u3 lo hi ps) := hPN
            have hWN2 : min (mulC kind lo hi (sumC Rx.wriC ps) + 1) capM = Rx.wriC (.node kind u0 u1 u2 u3 lo hi ps) := hWN
            have HPN := Lib.hid hPN2
            have HWN := Lib.hid hWN2
            clear hPN hWN hPN2 hWN2 hfit HMK HDK
            rw [htk]
            clear htk
            generalize sumC Rx.posC ps = P at *
            generalize sumC Rx.wriC ps = Q at *
            generalize baseP kind = B0 at *
            have hmul1 : mulC kind lo hi (B0 + P) = B0 + P := by unfold mulC; rw [if_neg HK5.out]
            have hmul2 : mulC kind lo hi Q = Q := by unfold mulC; rw [if_neg HK5.out]
            rw [hmul1] at HPN
            rw [hmul2] at HWN
            clear hmul1 hmul2
            generalize B0 + P = BP at *
            go_wp2_with fail
            go_ret3
            refine ⟨fun _ => ⟨?_, by unfold Rx.size; rw [← Nat.add_assoc]; exact HMK2.out⟩, fun h => absurd HFit.out h, HKK.out⟩
            rw [← HPN.out, ← HWN.out]
            refine tup3 (min_cap _ _ ?_) (min_cap _ _ ?_)
            · first | rfl | omega
            · first | rfl | omega
      · have q2 : ((kind : Int) == 2) = false := by simp; omega
        have HBP := Lib.hid (show baseP kind = 0 by unfold baseP; rw [if_neg hk2])
        by_cases hk5 : kind = 5
        · have q5 : ((kind : Int) == 5) = true := by subst hk5; rfl
          have HK5 := Lib.hid hk5
          clear hk2 hk5
          go_enter Try.func92, Try.ntmps92
          go_wp2_with fail
          obtain ⟨w1, hw1⟩ : ∃ w1, w1 = w.setCell ⟨m, 0, none⟩ (.int .i64 ((s : Int) + 1)) := ⟨_, rfl⟩
          rw [← hw1]
          have HM1 := Lib.hid (show Blk w1 m 147 #[.int .i64 ((s : Int) + 1)] by rw [hw1]; exact Blk.set_ HM.out 0 _)
          have HK1 := Lib.hid (show Kept (isG m) w w1 by rw [hw1]; exact (Kept.refl (isG m) w).setCell (p := ⟨m, 0, none⟩) (.inl rfl) _)
          clear hw1
          go_loopg [6, 7, 39] (ps.length + 1) (fun f p q i wr => NdRel w m s d (baseP kind) ps p q i wr ∧ ps.length - (intOf i).toNat < f)
          case atStart => exact ⟨⟨0, Nat.zero_le _, rfl, by rw [HBP.out]; rfl, rfl, by simpa [sizeL] using HM1.out, by simp [sizeL]; omega, fun j x h _ => by omega, HK1.out⟩, by simp [intOf]⟩
          case round =>
            obtain ⟨⟨k, hk, rfl, rfl, rfl, hmk, hsk, hdk, hKk⟩, hfk⟩ := hrel
            have hbp := sum_bd Rx.posC posC_le ps k (by omega)
            have hbw := sum_bd Rx.wriC wriC_le ps k (by omega)
            have hbase : baseP kind ≤ 1 := by unfold baseP; split <;> omega
            have HMK := Lib.hid hmk
            have HKK := Lib.hid hKk
            have HDK := Lib.hid hdk
            have hA8 := HA.out.kept hKk hbm
            have y0 := hA8.2 0 _ rfl
            have y5 := hA8.2 5 _ rfl
            have y6 := hA8.2 6 _ rfl
            have y7 := hA8.2 7 _ rfl
            rw [Nat.add_zero] at y0
            clear hmk hKk hdk hA8
            have hfk2 : ps.length - k < gk := by simpa [intOf] using hfk
            clear hfk
            by_cases hlt : k < ps.length
            · obtain ⟨x, hx⟩ : ∃ x, ps[k]? = some x := ⟨_, List.getElem?_eq_getElem hlt⟩
              obtain ⟨cx, hvx, hcx⟩ := HVS.out.get k x hx
              obtain ⟨b', o', hA', hFb, hbb, hcc⟩ := HRD.out.2 (by omega)
              subst hA'
              have htx := tameL_get HTL.out hx
              have hszx := sizeL_take ps k x hx
              have hszle := sizeL_le ps (k + 1)
              have hxd := depthL_get hx
              have hb'm : b' ≠ m := fun e => hFm b' hFb e
              have hAx : At8 wr b' (o' + k * 8) cx := At8.kept (w := w) ⟨hbb, fun j u hu => by
                have := hcc (k * 8 + j) u (hcx j u hu)
                rw [show o' + k * 8 + j = o' + (k * 8 + j) by omega]
                exact this⟩ HKK.out (fun e => hb'm e)
              have hvr := hvx.kept HKK.out (fun i hi _ e => hFm i hi e) (fun i hi _ => hi)
              have HC := Lib.hid (ih x (by have := HSZ.out; omega) b' (o' + k * 8) cx wr (s + 1 + sizeL (ps.take k)) (d + 1) F hvr hAx hb'm hFm HMK.out htx (by omega) (by omega))
              have HX := Lib.hid hx
              have hlast : k ≤ 300 := by have := sizeL_ge (ps.take k); rw [List.length_take] at this; omega
              clear hx hvx hcx hcc hbb hvr hAx htx
              by_cases hfit : fitsN (s + 1 + sizeL (ps.take k)) (d + 1) x
              · have HF := Lib.hid hfit
                have hf1 := hfit.1
                have hf2 := hfit.2
                have hpx := posC_le x
                have hwx := wriC_le x
                clear hfit
                go_wp2_with fail
                refine HC.out.mono ?_
                rintro e w2 ⟨hok, _, hk2⟩
                obtain ⟨rfl, hm2⟩ := hok HF.out
                have HM2 := Lib.hid hm2
                have HK2 := Lib.hid (HKK.out.then_ hk2)
                clear hm2 hk2 hok y0 y5 y6 y7
                go_wp2_with fail
                go_roundg (ps.length - k)
                case measure => omega
                case rel =>
                  refine ⟨⟨k + 1, hlt, rfl, ?_, ?_, ?_, by omega, fun j x' hj hx' => ?_, HK2.out⟩, by simp [intOf]; omega⟩
                  · rw [sumC_take Rx.posC ps k x HX.out]; congr 1; omega
                  · rw [sumC_take Rx.wriC ps k x HX.out]; congr 1
                  · rw [hszx, show s + 1 + (sizeL (ps.take k) + x.size) = s + 1 + sizeL (ps.take k) + x.size by omega]; exact HM2.out
                  · rcases Nat.lt_or_ge j k with hjk | hjk
                    · exact HDK.out j x' hjk hx'
                    · have : j = k := by omega
                      subst this
                      rw [HX.out] at hx'
                      injection hx' with hx'
                      subst hx'
                      omega
              · have HF := Lib.hid hfit
                have hnf : ¬ fitsN s d (.node kind u0 u1 u2 u3 lo hi ps) := fun h => hfit (by
                  unfold fitsN Rx.size Rx.depth at h
                  unfold fitsN
                  omega)
                have HNF := Lib.hid hnf
                clear hfit hnf
                go_wp2_with fail
                refine HC.out.mono ?_
                rintro e w2 ⟨_, hno, hk2⟩
                obtain rfl := hno HF.out
                have HK2 := Lib.hid (HKK.out.then_ hk2)
                clear hk2 hno y0 y5 y6 y7
                go_wp2_with fail
                go_ret3
                exact ⟨fun h => absurd h HNF.out, fun _ => rfl, HK2.out⟩
            · have hke : k = ps.length := by omega
              subst hke
              have htk : ps.take ps.length = ps := List.take_length
              rw [htk] at hsk hbp hbw
              have HMK2 := Lib.hid (by have := HMK.out; rw [htk] at this; exact this)
              have HDF := Lib.hid (show depthL ps ≤ 32 - d from depthL_le fun j x hx => by have := HDK.out j x (at_lt8 hx) hx; omega)
              have hfit : fitsN s d (.node kind u0 u1 u2 u3 lo hi ps) := by
                unfold fitsN Rx.size Rx.depth
                have := HDF.out
                omega
              have HFit := Lib.hid hfit
              have hPN := pos_node kind u0 u1 u2 u3 lo hi ps capM
              have hWN := wri_node kind u0 u1 u2 u3 lo hi ps capM
              have hPN2 : min (mulC kind lo hi (baseP kind + sumC Rx.posC ps)) capM = Rx.posC (.node kind u0 u1 u2 u3 lo hi ps) := hPN
              have hWN2 : min (mulC kind lo hi (sumC Rx.wriC ps) + 1) capM = Rx.wriC (.node kind u0 u1 u2 u3 lo hi ps) := hWN
              have HPN := Lib.hid hPN2
              have HWN := Lib.hid hWN2
              clear hPN hWN hPN2 hWN2 hfit HMK HDK
              rw [htk]
              clear htk
              generalize sumC Rx.posC ps = P at *
              generalize sumC Rx.wriC ps = Q at *
              generalize baseP kind = B0 at *
              have hcz : (copZ lo hi : Nat) ≤ 64 := by unfold copZ; split <;> omega
              have HC5 := Lib.hid (copies_any b o lo hi wr y5 y6 hlo0 hlo hhi0 hhi)
              have HC5' := Lib.hid (show copZ lo hi = copZ lo hi from rfl)
              have m1 : (B0 + P) * copZ lo hi ≤ 268435457 * 64 := Nat.mul_le_mul (by omega) hcz
              have m2 : Q * copZ lo hi ≤ 268435456 * 64 := Nat.mul_le_mul (by omega) hcz
              have M1 : (((B0 + P : Nat) : Int)) * ((copZ lo hi : Nat) : Int) = (((B0 + P) * copZ lo hi : Nat) : Int) := by simp
              have M2 : (((Q : Nat) : Int)) * ((copZ lo hi : Nat) : Int) = ((Q * copZ lo hi : Nat) : Int) := by simp
              have hmul1 : mulC kind lo hi (B0 + P) = (B0 + P) * copZ lo hi := by unfold mulC; rw [if_pos HK5.out]
              have hmul2 : mulC kind lo hi Q = Q * copZ lo hi := by unfold mulC; rw [if_pos HK5.out]
              rw [hmul1] at HPN
              rw [hmul2] at HWN
              generalize (B0 + P) * copZ lo hi = PC at *
              generalize Q * copZ lo hi = QC at *
              clear hmul1 hmul2 HC5'
              generalize copZ lo hi = cz at *
              generalize B0 + P = BP at *
              go_wp2_with fail
              refine HC5.out.mono ?_
              rintro e w9 ⟨rfl, rfl⟩
              go_wp2_with fail
              refine HC5.out.mono ?_
              rintro e w9 ⟨rfl, rfl⟩
              go_wp2_with fail
              go_ret3
              refine ⟨fun _ => ⟨?_, by unfold Rx.size; rw [← Nat.add_assoc]; exact HMK2.out⟩, fun h => absurd HFit.out h, HKK.out⟩
              rw [← HPN.out, ← HWN.out]
              refine tup3 (min_cap _ _ ?_) (min_cap _ _ ?_)
              · first | rfl | omega
              · first | rfl | omega
        · have q5 : ((kind : Int) == 5) = false := by simp; omega
          have HK5 := Lib.hid hk5
          clear hk2 hk5
          go_enter Try.func92, Try.ntmps92
          go_wp2_with fail
          obtain ⟨w1, hw1⟩ : ∃ w1, w1 = w.setCell ⟨m, 0, none⟩ (.int .i64 ((s : Int) + 1)) := ⟨_, rfl⟩
          rw [← hw1]
          have HM1 := Lib.hid (show Blk w1 m 147 #[.int .i64 ((s : Int) + 1)] by rw [hw1]; exact Blk.set_ HM.out 0 _)
          have HK1 := Lib.hid (show Kept (isG m) w w1 by rw [hw1]; exact (Kept.refl (isG m) w).setCell (p := ⟨m, 0, none⟩) (.inl rfl) _)
          clear hw1
          go_loopg [6, 7, 39] (ps.length + 1) (fun f p q i wr => NdRel w m s d (baseP kind) ps p q i wr ∧ ps.length - (intOf i).toNat < f)
          case atStart => exact ⟨⟨0, Nat.zero_le _, rfl, by rw [HBP.out]; rfl, rfl, by simpa [sizeL] using HM1.out, by simp [sizeL]; omega, fun j x h _ => by omega, HK1.out⟩, by simp [intOf]⟩
          case round =>
            obtain ⟨⟨k, hk, rfl, rfl, rfl, hmk, hsk, hdk, hKk⟩, hfk⟩ := hrel
            have hbp := sum_bd Rx.posC posC_le ps k (by omega)
            have hbw := sum_bd Rx.wriC wriC_le ps k (by omega)
            have hbase : baseP kind ≤ 1 := by unfold baseP; split <;> omega
            have HMK := Lib.hid hmk
            have HKK := Lib.hid hKk
            have HDK := Lib.hid hdk
            have hA8 := HA.out.kept hKk hbm
            have y0 := hA8.2 0 _ rfl
            have y5 := hA8.2 5 _ rfl
            have y6 := hA8.2 6 _ rfl
            have y7 := hA8.2 7 _ rfl
            rw [Nat.add_zero] at y0
            clear hmk hKk hdk hA8
            have hfk2 : ps.length - k < gk := by simpa [intOf] using hfk
            clear hfk
            by_cases hlt : k < ps.length
            · obtain ⟨x, hx⟩ : ∃ x, ps[k]? = some x := ⟨_, List.getElem?_eq_getElem hlt⟩
              obtain ⟨cx, hvx, hcx⟩ := HVS.out.get k x hx
              obtain ⟨b', o', hA', hFb, hbb, hcc⟩ := HRD.out.2 (by omega)
              subst hA'
              have htx := tameL_get HTL.out hx
              have hszx := sizeL_take ps k x hx
              have hszle := sizeL_le ps (k + 1)
              have hxd := depthL_get hx
              have hb'm : b' ≠ m := fun e => hFm b' hFb e
              have hAx : At8 wr b' (o' + k * 8) cx := At8.kept (w := w) ⟨hbb, fun j u hu => by
                have := hcc (k * 8 + j) u (hcx j u hu)
                rw [show o' + k * 8 + j = o' + (k * 8 + j) by omega]
                exact this⟩ HKK.out (fun e => hb'm e)
              have hvr := hvx.kept HKK.out (fun i hi _ e => hFm i hi e) (fun i hi _ => hi)
              have HC := Lib.hid (ih x (by have := HSZ.out; omega) b' (o' + k * 8) cx wr (s + 1 + sizeL (ps.take k)) (d + 1) F hvr hAx hb'm hFm HMK.out htx (by omega) (by omega))
              have HX := Lib.hid hx
              have hlast : k ≤ 300 := by have := sizeL_ge (ps.take k); rw [List.length_take] at this; omega
              clear hx hvx hcx hcc hbb hvr hAx htx
              by_cases hfit : fitsN (s + 1 + sizeL (ps.take k)) (d + 1) x
              · have HF := Lib.hid hfit
                have hf1 := hfit.1
                have hf2 := hfit.2
                have hpx := posC_le x
                have hwx := wriC_le x
                clear hfit
                go_wp2_with fail
                refine HC.out.mono ?_
                rintro e w2 ⟨hok, _, hk2⟩
                obtain ⟨rfl, hm2⟩ := hok HF.out
                have HM2 := Lib.hid hm2
                have HK2 := Lib.hid (HKK.out.then_ hk2)
                clear hm2 hk2 hok y0 y5 y6 y7
                go_wp2_with fail
                go_roundg (ps.length - k)
                case measure => omega
                case rel =>
                  refine ⟨⟨k + 1, hlt, rfl, ?_, ?_, ?_, by omega, fun j x' hj hx' => ?_, HK2.out⟩, by simp [intOf]; omega⟩
                  · rw [sumC_take Rx.posC ps k x HX.out]; congr 1; omega
                  · rw [sumC_take Rx.wriC ps k x HX.out]; congr 1
                  · rw [hszx, show s + 1 + (sizeL (ps.take k) + x.size) = s + 1 + sizeL (ps.take k) + x.size by omega]; exact HM2.out
                  · rcases Nat.lt_or_ge j k with hjk | hjk
                    · exact HDK.out j x' hjk hx'
                    · have : j = k := by omega
                      subst this
                      rw [HX.out] at hx'
                      injection hx' with hx'
                      subst hx'
                      omega
              · have HF := Lib.hid hfit
                have hnf : ¬ fitsN s d (.node kind u0 u1 u2 u3 lo hi ps) := fun h => hfit (by
                  unfold fitsN Rx.size Rx.depth at h
                  unfold fitsN
                  omega)
                have HNF := Lib.hid hnf
                clear hfit hnf
                go_wp2_with fail
                refine HC.out.mono ?_
                rintro e w2 ⟨_, hno, hk2⟩
                obtain rfl := hno HF.out
                have HK2 := Lib.hid (HKK.out.then_ hk2)
                clear hk2 hno y0 y5 y6 y7
                go_wp2_with fail
                go_ret3
                exact ⟨fun h => absurd h HNF.out, fun _ => rfl, HK2.out⟩
            · have hke : k = ps.length := by omega
              subst hke
              have htk : ps.take ps.length = ps := List.take_length
              rw [htk] at hsk hbp hbw
              have HMK2 := Lib.hid (by have := HMK.out; rw [htk] at this; exact this)
              have HDF := Lib.hid (show depthL ps ≤ 32 - d from depthL_le fun j x hx => by have := HDK.out j x (at_lt8 hx) hx; omega)
              have hfit : fitsN s d (.node kind u0 u1 u2 u3 lo hi ps) := by
                unfold fitsN Rx.size Rx.depth
                have := HDF.out
                omega
              have HFit := Lib.hid hfit
              have hPN := pos_node kind u0 u1 u2 u3 lo hi ps capM
              have hWN := wri_node kind u0 u1 u2 u3 lo hi ps capM
              have hPN2 : min (mulC kind lo hi (baseP kind + sumC Rx.posC ps)) capM = Rx.posC (.node kind u0 u1 u2 u3 lo hi ps) := hPN
              have hWN2 : min (mulC kind lo hi (sumC Rx.wriC ps) + 1) capM = Rx.wriC (.node kind u0 u1 u2 u3 lo hi ps) := hWN
              have HPN := Lib.hid hPN2
              have HWN := Lib.hid hWN2
              clear hPN hWN hPN2 hWN2 hfit HMK HDK
              rw [htk]
              clear htk
              generalize sumC Rx.posC ps = P at *
              generalize sumC Rx.wriC ps = Q at *
              generalize baseP kind = B0 at *
              have hmul1 : mulC kind lo hi (B0 + P) = B0 + P := by unfold mulC; rw [if_neg HK5.out]
              have hmul2 : mulC kind lo hi Q = Q := by unfold mulC; rw [if_neg HK5.out]
              rw [hmul1] at HPN
              rw [hmul2] at HWN
              clear hmul1 hmul2
              generalize B0 + P = BP at *
              go_wp2_with fail
              go_ret3
              refine ⟨fun _ => ⟨?_, by unfold Rx.size; rw [← Nat.add_assoc]; exact HMK2.out⟩, fun h => absurd HFit.out h, HKK.out⟩
              rw [← HPN.out, ← HWN.out]
              refine tup3 (min_cap _ _ ?_) (min_cap _ _ ?_)
              · first | rfl | omega
              · first | rfl | omega
end Go.Proofs.Ytniefnjcimempaa
namespace Go.Proofs.Ytniefnjcimempaa
open Go.RowKit
def largeE : Value := .iface 37 (.int .i64 9)
def msV (r : Rx) : Value := if r.fits then .tuple #[.int .i64 r.pos, .nilIface] else .tuple #[.int .i64 0, largeE]
set_option maxHeartbeats 1000000
theorem measure_any (b o : Nat) (r : Rx) (cs : List Value) (w : World) (F : Nat → Prop) (hv : RxV w F r cs) (hF : ∀ i, F i → i < w.heap.size) (hA : At8 w b o cs) (ht : r.tame) : Calls Try.prog 73 #[.pointer (some ⟨b, o, none⟩)] w fun e w' => e = .returned (msV r) ∧ Below w.heap.size w w' := by
  have hb := hA.1
  have hK : Kept (fun _ => False) w (w.alloc (.cells #[.int .i64 0] 147)) := (Kept.refl _ w).alloc _
  have hN := node_any w.heap.size r.size r (Nat.le_refl _) b o cs (w.alloc (.cells #[.int .i64 0] 147)) 0 1 F (hv.kept hK (fun _ _ _ => id) fun _ h _ => h) (hA.kept hK id) (by omega) (fun i hi => by have := hF i hi; omega) (Blk.new w _ _) ht (by omega) (by omega)
  have HN := Lib.hid hN
  have HB := Lib.hid (show ∀ w', Kept (isG w.heap.size) (w.alloc (.cells #[.int .i64 0] 147)) w' → Below w.heap.size w w' from fun w' hk => by
    refine hk.below ((Below.refl _ w).alloc (Nat.le_refl _) _) (by simp) fun i hi => by have e : i = w.heap.size := hi; omega)
  clear hN hK hv hF hA ht hb
  unfold msV
  by_cases hfit : fitsN 0 1 r
  · have hf1 := hfit.1
    have hf2 := hfit.2
    by_cases hp : r.pos ≤ 64
    · have hpc : r.posC = r.pos := by unfold Rx.posC capM; omega
      by_cases hw : r.wri ≤ 4096
      · have hwc : r.wriC = r.wri := by unfold Rx.wriC capM; omega
        have hfits : r.fits = true := by unfold Rx.fits; simp; omega
        rw [if_pos hfits]
        have HF := Lib.hid hfit
        have HPC := Lib.hid hpc
        have HWC := Lib.hid hwc
        have t1 : decide (64 < (r.pos : Int)) = false := by simp; omega
        have t2 : decide (4096 < (r.wri : Int)) = false := by simp; omega
        clear hfit hpc hwc hfits hf1 hf2
        go_enter Try.func73, Try.ntmps73
        go_wp2_with fail
        refine HN.out.mono ?_
        rintro e w2 ⟨hok, _, hk2⟩
        obtain ⟨rfl, _⟩ := hok HF.out
        rw [HPC.out, HWC.out]
        clear hok
        go_wp2_with fail
        go_ret2
        exact ⟨rfl, HB.out _ hk2⟩
      · have hfits : r.fits = false := by unfold Rx.fits; simp; omega
        rw [if_neg (by rw [hfits]; decide)]
        have HF := Lib.hid hfit
        have HPC := Lib.hid hpc
        have t1 : decide (64 < (r.pos : Int)) = false := by simp; omega
        have t2 : decide (4096 < (r.wriC : Int)) = true := by unfold Rx.wriC capM; simp; omega
        clear hfit hpc hfits hf1 hf2 hw
        unfold largeE
        go_enter Try.func73, Try.ntmps73
        go_wp2_with fail
        refine HN.out.mono ?_
        rintro e w2 ⟨hok, _, hk2⟩
        obtain ⟨rfl, _⟩ := hok HF.out
        rw [HPC.out]
        clear hok
        go_wp2_with fail
        go_ret2
        exact ⟨rfl, HB.out _ hk2⟩
    · have hfits : r.fits = false := by unfold Rx.fits; simp; omega
      rw [if_neg (by rw [hfits]; decide)]
      have HF := Lib.hid hfit
      have t1 : decide (64 < (r.posC : Int)) = true := by unfold Rx.posC capM; simp; omega
      clear hfit hfits hf1 hf2 hp
      unfold largeE
      go_enter Try.func73, Try.ntmps73
      go_wp2_with fail
      refine HN.out.mono ?_
      rintro e w2 ⟨hok, _, hk2⟩
      obtain ⟨rfl, _⟩ := hok HF.out
      clear hok
      go_wp2_with fail
      go_ret2
      exact ⟨rfl, HB.out _ hk2⟩
  · have hfits : r.fits = false := by
      unfold fitsN at hfit
      unfold Rx.fits
      simp
      omega
    rw [if_neg (by rw [hfits]; decide)]
    have HF := Lib.hid hfit
    clear hfit hfits
    unfold largeE
    go_enter Try.func73, Try.ntmps73
    go_wp2_with fail
    refine HN.out.mono ?_
    rintro e w2 ⟨_, hno, hk2⟩
    obtain rfl := hno HF.out
    clear hno
    go_wp2_with fail
    go_ret2
    exact ⟨rfl, HB.out _ hk2⟩
end Go.Proofs.Ytniefnjcimempaa
namespace Go.Proofs.Ytniefnjcimempaa
open Go.RowKit
theorem catch_idle (p q : Addr) (w : World) : CallsD Try.prog 71 #[.pointer (some p), .pointer (some q)] .returning w fun e u' w' => e = .returned (.tuple #[]) ∧ u' = .returning ∧ w' = w := by
  refine callsD_of_wpS Try.func71 rfl fun c₀ cs hu => ?_
  apply wpS_seq
  apply wpS_region
  simp [wpOpsS, go_sem, recoverD, hu, Try.ntmps71, Exit.thenS]
  refine wpS_cond (t := false) (by simp [Act.eval, Array.replicate]) ?_
  simp only [Bool.false_eq_true, if_false]
  refine wpS_of_wp (wp_skip ?_)
  cases c₀
  simp_all [bodyPostS, results, Try.results71]
set_option maxHeartbeats 2000000 in
theorem catch_panicking (g h : Nat) (v0 v1 v2 v3 v4 v5 v6 v7 : Value) (er : Value) (u : TypeId) (pv : Value) (older : List PanicEntry) (w : World) (hR : R8 w g v0 v1 v2 v3 v4 v5 v6 v7) (hE : Blk w h 33 #[er]) :
    CallsD Try.prog 71 #[.pointer (some ⟨g, 0, none⟩), .pointer (some ⟨h, 0, none⟩)] (.panicking ({ v := .iface u pv, recovered := false } :: older)) w fun e u' w' =>
      e = .returned (.tuple #[]) ∧ u' = .panicking ({ v := .iface u pv, recovered := true } :: older) ∧ w' = (set8 w g (.int .i64 0) (.int .u64 0) (.int .u64 0) (.int .u64 0) (.int .u64 0) (.int .i64 0) (.int .i64 0) (.slice none 0 0)).setCell ⟨h, 0, none⟩ formE := by
  have hgh2 : ¬ h = g := fun e => Blk.ne_ hR hE (by decide) e.symm
  obtain ⟨⟨⟨c0, c1⟩, c2, c3⟩, ⟨c4, c5⟩, c6, c7⟩ := hR.cells
  obtain ⟨⟨⟨f0, f1⟩, f2, f3⟩, ⟨f4, f5⟩, f6, f7⟩ := hR.free
  have e0 := hE.cell 0
  have e1 := hE.frozen 0
  simp only [List.getElem?_toArray, List.getElem?_cons_zero] at e0
  clear hR hE
  unfold formE set8
  refine callsD_of_wpS Try.func71 rfl fun c₀ cs hu => ?_
  apply wpS_seq
  apply wpS_region
  simp [wpOpsS, go_sem, recoverD, hu, Try.ntmps71, Exit.thenS]
  refine wpS_cond (t := true) (by simp [Act.eval, Array.replicate]) ?_
  simp only [if_true]
  apply wpS_region
  simp [wpOpsS, go_sem, c0, c1, c2, c3, c4, c5, c6, c7, f0, f1, f2, f3, f4, f5, f6, f7, e0, e1, bodyPostS, results, Try.results71]
end Go.Proofs.Ytniefnjcimempaa
namespace Go.Proofs.Ytniefnjcimempaa
open Go.RowKit
def bigT (T : List UInt8) : Bool := decide (262144 < T.length) || decide (1024 < Lib.countByte T 40)
def parseR (T : List UInt8) : Option Rx := if bigT T then none else match parseP T with
  | none => none
  | some r => if r.fits then some r else none
def parseE (T : List UInt8) : Value := if bigT T then largeE else match parseP T with
  | none => formE
  | some r => if r.fits then .nilIface else largeE
def zeroC : List Value := [.int .i64 0, .int .u64 0, .int .u64 0, .int .u64 0, .int .u64 0, .int .i64 0, .int .i64 0, .slice none 0 0]
def TreeOr (w w' : World) (r : Option Rx) (cs : List Value) : Prop := match r with
  | none => cs = zeroC
  | some r => RxV w' (rng w.heap.size w'.heap.size) r cs ∧ r.tame
theorem treeOr_form {w w' : World} {r : Option Rx} {cs : List Value} (h : TreeOr w w' r cs) : ∃ kd a0 a1 a2 a3 lo hi A n c, cs = [.int .i64 kd, .int .u64 a0, .int .u64 a1, .int .u64 a2, .int .u64 a3, .int .i64 lo, .int .i64 hi, .slice A n c] := by
  unfold TreeOr at h
  split at h
  · exact ⟨_, _, _, _, _, _, _, _, _, _, h⟩
  · rename_i r
    obtain ⟨kd, a, b, c, d, lo, hi, l⟩ := r
    obtain ⟨h, _⟩ := h
    unfold RxV at h
    obtain ⟨A, c, css, h, _⟩ := h
    exact ⟨_, _, _, _, _, _, _, _, _, _, h⟩
def ParseEnd (T : List UInt8) (w : World) (e : Ending) (w' : World) : Prop :=
  (∃ cs, e = .returned (.tuple #[.agg cs.toArray, parseE T]) ∧ TreeOr w w' (parseR T) cs) ∧ Below w.heap.size w w'
set_option maxHeartbeats 2000000
theorem parse_big (T : List UInt8) (w : World) (h : T.length ≤ 9223372036854775807) (hb : bigT T = true) : Calls Try.prog 51 #[.string ⟨T.toArray⟩] w (ParseEnd T w) := by
  have hsz : (ByteArray.mk T.toArray).size = T.length := by simp [ByteArray.size]
  have hmf : ∀ (fn : Fn) (first cap : Array Value) (w : World), (Instr.makeFunc fn first cap).run Try.prog w = .ok (.func fn first cap) w := fun _ _ _ _ => rfl
  have hc := Try.strings_Count_one ⟨T.toArray⟩ 40 ((w.alloc (.cells #[.int .i64 0, .int .u64 0, .int .u64 0, .int .u64 0, .int .u64 0, .int .i64 0, .int .i64 0, .slice none 0 0] 108)).alloc (.cells #[.nilIface] 33))
  have hPE : parseE T = largeE := by unfold parseE; rw [if_pos hb]
  have hPR : parseR T = none := by unfold parseR; rw [if_pos hb]
  have HPE := Lib.hid hPE
  have HPR := Lib.hid hPR
  unfold bigT at hb
  by_cases h1 : 262144 < T.length
  · have t1 : decide (262144 < (T.length : Int)) = true := by simp; omega
    clear hb hPE hPR hc
    go_enter_defers Try.func51, Try.ntmps51
    go_wp2_with fail
    simp [bodyPostD, Leaves, results, Try.results51, go_sem]
    exact ⟨⟨zeroC, by rw [HPE.out]; rfl, by rw [HPR.out]; rfl⟩, ((Below.refl _ _).alloc (Nat.le_refl _) _).alloc (by simp) _⟩
  · have t1 : decide (262144 < (T.length : Int)) = false := by simp; omega
    rw [decide_eq_false h1, Bool.false_or] at hb
    have h2 := of_decide_eq_true hb
    generalize hcc : Lib.countByte T 40 = cc at *
    have hc2 : Calls Try.prog 70 #[.string ⟨T.toArray⟩, .string ⟨#[40]⟩] ((w.alloc (.cells #[.int .i64 0, .int .u64 0, .int .u64 0, .int .u64 0, .int .u64 0, .int .i64 0, .int .i64 0, .slice none 0 0] 108)).alloc (.cells #[.nilIface] 33)) fun e w' => e = .returned (.int .i64 cc) ∧ ((w.alloc (.cells #[.int .i64 0, .int .u64 0, .int .u64 0, .int .u64 0, .int .u64 0, .int .i64 0, .int .i64 0, .slice none 0 0] 108)).alloc (.cells #[.nilIface] 33)) = w' := by
      rw [← hcc]
      refine hc.mono ?_
      rintro e w' ⟨rfl, rfl⟩
      exact ⟨by simp [hcc], rfl⟩
    have HC := Lib.hid hc2
    have t2 : decide (1024 < (cc : Int)) = true := by simp; omega
    clear hb hPE hPR hc hc2 hcc
    go_enter_defers Try.func51, Try.ntmps51
    go_wp2_with fail
    refine HC.out.mono ?_
    rintro e w' ⟨rfl, rfl⟩
    go_wp2_with fail
    simp [bodyPostD, Leaves, results, Try.results51, go_sem]
    exact ⟨⟨zeroC, by rw [HPE.out]; rfl, by rw [HPR.out]; rfl⟩, ((Below.refl _ _).alloc (Nat.le_refl _) _).alloc (by simp) _⟩
def set9 (w : World) (g h : Nat) (u0 u1 u2 u3 u4 u5 u6 u7 er : Value) : World := (set8 w g u0 u1 u2 u3 u4 u5 u6 u7).setCell ⟨h, 0, none⟩ er
theorem set9_R {w : World} {g h : Nat} {v0 v1 v2 v3 v4 v5 v6 v7 : Value} (hR : R8 w g v0 v1 v2 v3 v4 v5 v6 v7) (hgh : g ≠ h) (u0 u1 u2 u3 u4 u5 u6 u7 er : Value) : R8 (set9 w g h u0 u1 u2 u3 u4 u5 u6 u7 er) g u0 u1 u2 u3 u4 u5 u6 u7 := Blk.far (p := ⟨h, 0, none⟩) (hR.all u0 u1 u2 u3 u4 u5 u6 u7) hgh er
theorem set9_E {w : World} {g h : Nat} {e0 : Value} (hE : Blk w h 33 #[e0]) (hgh : h ≠ g) (u0 u1 u2 u3 u4 u5 u6 u7 er : Value) : Blk (set9 w g h u0 u1 u2 u3 u4 u5 u6 u7 er) h 33 #[er] := Blk.set_ (Blk.set8 hE hgh u0 u1 u2 u3 u4 u5 u6 u7) 0 er
theorem kept_set9 {F : Nat → Prop} {w w' : World} {g h : Nat} (k : Kept F w w') (hg : F g ∨ w.heap.size ≤ g) (hh : F h ∨ w.heap.size ≤ h) (u0 u1 u2 u3 u4 u5 u6 u7 er : Value) : Kept F w (set9 w' g h u0 u1 u2 u3 u4 u5 u6 u7 er) := (kept_set8 k hg u0 u1 u2 u3 u4 u5 u6 u7).setCell (p := ⟨h, 0, none⟩) hh er
theorem below_set9 {B : Nat} {w w' : World} {g h : Nat} (k : Below B w w') (hg : B ≤ g) (hh : B ≤ h) (u0 u1 u2 u3 u4 u5 u6 u7 er : Value) : Below B w (set9 w' g h u0 u1 u2 u3 u4 u5 u6 u7 er) := (below_set8 k hg u0 u1 u2 u3 u4 u5 u6 u7).setCell hh er
theorem parse_fail (T : List UInt8) (w : World) (hb : bigT T = false) (hx : exprN T (T.length + 1) 0 = none) : Calls Try.prog 51 #[.string ⟨T.toArray⟩] w (ParseEnd T w) := by
  have hP : parseP T = none := by unfold parseP; rw [hx]
  have hPE : parseE T = formE := by unfold parseE; rw [if_neg (by rw [hb]; decide), hP]
  have hPR : parseR T = none := by unfold parseR; rw [if_neg (by rw [hb]; decide), hP]
  have HPE := Lib.hid hPE
  have HPR := Lib.hid hPR
  have hsz : (ByteArray.mk T.toArray).size = T.length := by simp [ByteArray.size]
  have hmf : ∀ (fn : Fn) (first cap : Array Value) (w : World), (Instr.makeFunc fn first cap).run Try.prog w = .ok (.func fn first cap) w := fun _ _ _ _ => rfl
  have hc := Try.strings_Count_one ⟨T.toArray⟩ 40 ((w.alloc (.cells #[.int .i64 0, .int .u64 0, .int .u64 0, .int .u64 0, .int .u64 0, .int .i64 0, .int .i64 0, .slice none 0 0] 108)).alloc (.cells #[.nilIface] 33))
  unfold bigT at hb
  rw [Bool.or_eq_false_iff] at hb
  have h1 := of_decide_eq_false hb.1
  have h2 := of_decide_eq_false hb.2
  have t1 : decide (262144 < (T.length : Int)) = false := by simp; omega
  generalize hcc : Lib.countByte T 40 = cc at *
  have hc2 : Calls Try.prog 70 #[.string ⟨T.toArray⟩, .string ⟨#[40]⟩] ((w.alloc (.cells #[.int .i64 0, .int .u64 0, .int .u64 0, .int .u64 0, .int .u64 0, .int .i64 0, .int .i64 0, .slice none 0 0] 108)).alloc (.cells #[.nilIface] 33)) fun e w' => e = .returned (.int .i64 cc) ∧ ((w.alloc (.cells #[.int .i64 0, .int .u64 0, .int .u64 0, .int .u64 0, .int .u64 0, .int .i64 0, .int .i64 0, .slice none 0 0] 108)).alloc (.cells #[.nilIface] 33)) = w' := by
    rw [← hcc]
    refine hc.mono ?_
    rintro e w' ⟨rfl, rfl⟩
    exact ⟨by simp [hcc], rfl⟩
  have HC := Lib.hid hc2
  have t2 : decide (1024 < (cc : Int)) = false := by simp; omega
  obtain ⟨w3, hw3⟩ : ∃ w3, w3 = ((w.alloc (.cells #[.int .i64 0, .int .u64 0, .int .u64 0, .int .u64 0, .int .u64 0, .int .i64 0, .int .i64 0, .slice none 0 0] 108)).alloc (.cells #[.nilIface] 33)).alloc (.cells #[.string ⟨T.toArray⟩, .int .i64 0] 124) := ⟨_, rfl⟩
  have hR3 : R8 w3 w.heap.size (.int .i64 0) (.int .u64 0) (.int .u64 0) (.int .u64 0) (.int .u64 0) (.int .i64 0) (.int .i64 0) (.slice none 0 0) := by rw [hw3]; exact ((R8.mk0 w w.heap.size rfl).alloc _).alloc _
  have hE3 : Blk w3 (w.heap.size + 1) 33 #[.nilIface] := by
    rw [hw3]
    have := Blk.new (w.alloc (.cells #[.int .i64 0, .int .u64 0, .int .u64 0, .int .u64 0, .int .u64 0, .int .i64 0, .int .i64 0, .slice none 0 0] 108)) 33 #[.nilIface]
    exact Blk.alloc (by simpa using this) _
  have hp3 : PS T w3 (w.heap.size + 1 + 1) 0 := by
    refine ⟨?_, Nat.zero_le _, by omega⟩
    rw [hw3]
    have := Blk.new ((w.alloc (.cells #[.int .i64 0, .int .u64 0, .int .u64 0, .int .u64 0, .int .u64 0, .int .i64 0, .int .i64 0, .slice none 0 0] 108)).alloc (.cells #[.nilIface] 33)) 124 #[.string ⟨T.toArray⟩, .int .i64 0]
    simpa using this
  have hb3 : Below w.heap.size w w3 := by rw [hw3]; exact (((Below.refl _ _).alloc (Nat.le_refl _) _).alloc (by simp) _).alloc (by simp; omega) _
  have hs3 : w3.heap.size = w.heap.size + 1 + 1 + 1 := by rw [hw3]; simp
  have HX := Lib.hid (expr_any (T.length + 1) 0 w3 hp3 (by omega))
  have HR3 := Lib.hid hR3
  have HE3 := Lib.hid hE3
  have HB3 := Lib.hid hb3
  have HW3 := Lib.hid hw3
  clear hb hc hc2 hcc hw3 hR3 hE3 hp3 hb3 h2
  rw [hx] at HX
  clear hP hPE hPR hx
  go_enter_defers Try.func51, Try.ntmps51
  go_wp2_with fail
  refine HC.out.mono ?_
  rintro e w' ⟨rfl, rfl⟩
  go_wp2_with fail
  rw [← HW3.out]
  refine HX.out.mono ?_
  rintro e w4 ⟨rfl, hp4, hk4⟩
  have hR4 := HR3.out.kept hk4 (fun e => by have e' : w.heap.size = w.heap.size + 1 + 1 := e; omega)
  have hE4 := HE3.out.kept hk4 (fun e => by have e' : w.heap.size + 1 = w.heap.size + 1 + 1 := e; omega)
  have hB4 := hk4.below HB3.out (by omega) (fun i e => by have e' : i = w.heap.size + 1 + 1 := e; omega)
  go_wp2_with fail
  refine leaves_cons (f := 71) (args := #[.pointer (some ⟨w.heap.size, 0, none⟩), .pointer (some ⟨w.heap.size + 1, 0, none⟩)]) (by simp) (by simp [go_sem]) ?_
  refine (catch_panicking w.heap.size (w.heap.size + 1) _ _ _ _ _ _ _ _ _ _ _ [] _ hR4 hE4).mono ?_
  rintro e u' w'' ⟨rfl, rfl, rfl⟩
  obtain ⟨⟨⟨d0, d1⟩, d2, d3⟩, ⟨d4, d5⟩, d6, d7⟩ := (set9_R hR4 (h := w.heap.size + 1) (by omega) (.int .i64 0) (.int .u64 0) (.int .u64 0) (.int .u64 0) (.int .u64 0) (.int .i64 0) (.int .i64 0) (.slice none 0 0) formE).cells
  have d8 := (set9_E hE4 (g := w.heap.size) (by omega) (.int .i64 0) (.int .u64 0) (.int .u64 0) (.int .u64 0) (.int .u64 0) (.int .i64 0) (.int .i64 0) (.slice none 0 0) formE).cell 0
  simp only [List.getElem?_toArray, List.getElem?_cons_zero] at d8
  have HF := Lib.hid (below_set9 hB4 (g := w.heap.size) (h := w.heap.size + 1) (Nat.le_refl _) (by omega) (.int .i64 0) (.int .u64 0) (.int .u64 0) (.int .u64 0) (.int .u64 0) (.int .i64 0) (.int .i64 0) (.slice none 0 0) formE)
  unfold set9 set8 at d0 d1 d2 d3 d4 d5 d6 d7 d8
  simp [Leaves, settle, results, Try.results51, go_sem, set8, d0, d1, d2, d3, d4, d5, d6, d7, d8]
  exact ⟨⟨zeroC, by rw [HPE.out]; rfl, by rw [HPR.out]; rfl⟩, HF.out⟩
theorem parse_tail (T : List UInt8) (w : World) (r : Rx) (k : Nat) (hb : bigT T = false) (hx : exprN T (T.length + 1) 0 = some (r, k)) (hk : k ≠ T.length) : Calls Try.prog 51 #[.string ⟨T.toArray⟩] w (ParseEnd T w) := by
  have hP : parseP T = none := by unfold parseP; rw [hx]; exact if_neg hk
  have hPE : parseE T = formE := by unfold parseE; rw [if_neg (by rw [hb]; decide), hP]
  have hPR : parseR T = none := by unfold parseR; rw [if_neg (by rw [hb]; decide), hP]
  have HPE := Lib.hid hPE
  have HPR := Lib.hid hPR
  have hkl := exprN_pos _ _ _ _ (Nat.zero_le _) hx
  have hsz : (ByteArray.mk T.toArray).size = T.length := by simp [ByteArray.size]
  have hmf : ∀ (fn : Fn) (first cap : Array Value) (w : World), (Instr.makeFunc fn first cap).run Try.prog w = .ok (.func fn first cap) w := fun _ _ _ _ => rfl
  have hc := Try.strings_Count_one ⟨T.toArray⟩ 40 ((w.alloc (.cells #[.int .i64 0, .int .u64 0, .int .u64 0, .int .u64 0, .int .u64 0, .int .i64 0, .int .i64 0, .slice none 0 0] 108)).alloc (.cells #[.nilIface] 33))
  unfold bigT at hb
  rw [Bool.or_eq_false_iff] at hb
  have h1 := of_decide_eq_false hb.1
  have h2 := of_decide_eq_false hb.2
  have t1 : decide (262144 < (T.length : Int)) = false := by simp; omega
  generalize hcc : Lib.countByte T 40 = cc at *
  have hc2 : Calls Try.prog 70 #[.string ⟨T.toArray⟩, .string ⟨#[40]⟩] ((w.alloc (.cells #[.int .i64 0, .int .u64 0, .int .u64 0, .int .u64 0, .int .u64 0, .int .i64 0, .int .i64 0, .slice none 0 0] 108)).alloc (.cells #[.nilIface] 33)) fun e w' => e = .returned (.int .i64 cc) ∧ ((w.alloc (.cells #[.int .i64 0, .int .u64 0, .int .u64 0, .int .u64 0, .int .u64 0, .int .i64 0, .int .i64 0, .slice none 0 0] 108)).alloc (.cells #[.nilIface] 33)) = w' := by
    rw [← hcc]
    refine hc.mono ?_
    rintro e w' ⟨rfl, rfl⟩
    exact ⟨by simp [hcc], rfl⟩
  have HC := Lib.hid hc2
  have t2 : decide (1024 < (cc : Int)) = false := by simp; omega
  obtain ⟨w3, hw3⟩ : ∃ w3, w3 = ((w.alloc (.cells #[.int .i64 0, .int .u64 0, .int .u64 0, .int .u64 0, .int .u64 0, .int .i64 0, .int .i64 0, .slice none 0 0] 108)).alloc (.cells #[.nilIface] 33)).alloc (.cells #[.string ⟨T.toArray⟩, .int .i64 0] 124) := ⟨_, rfl⟩
  have hR3 : R8 w3 w.heap.size (.int .i64 0) (.int .u64 0) (.int .u64 0) (.int .u64 0) (.int .u64 0) (.int .i64 0) (.int .i64 0) (.slice none 0 0) := by rw [hw3]; exact ((R8.mk0 w w.heap.size rfl).alloc _).alloc _
  have hE3 : Blk w3 (w.heap.size + 1) 33 #[.nilIface] := by
    rw [hw3]
    have := Blk.new (w.alloc (.cells #[.int .i64 0, .int .u64 0, .int .u64 0, .int .u64 0, .int .u64 0, .int .i64 0, .int .i64 0, .slice none 0 0] 108)) 33 #[.nilIface]
    exact Blk.alloc (by simpa using this) _
  have hp3 : PS T w3 (w.heap.size + 1 + 1) 0 := by
    refine ⟨?_, Nat.zero_le _, by omega⟩
    rw [hw3]
    have := Blk.new ((w.alloc (.cells #[.int .i64 0, .int .u64 0, .int .u64 0, .int .u64 0, .int .u64 0, .int .i64 0, .int .i64 0, .slice none 0 0] 108)).alloc (.cells #[.nilIface] 33)) 124 #[.string ⟨T.toArray⟩, .int .i64 0]
    simpa using this
  have hb3 : Below w.heap.size w w3 := by rw [hw3]; exact (((Below.refl _ _).alloc (Nat.le_refl _) _).alloc (by simp) _).alloc (by simp; omega) _
  have hs3 : w3.heap.size = w.heap.size + 1 + 1 + 1 := by rw [hw3]; simp
  have HX := Lib.hid (expr_any (T.length + 1) 0 w3 hp3 (by omega))
  have HR3 := Lib.hid hR3
  have HE3 := Lib.hid hE3
  have HB3 := Lib.hid hb3
  have HW3 := Lib.hid hw3
  clear hb hc hc2 hcc hw3 hR3 hE3 hp3 hb3 h2
  rw [hx] at HX
  have t3 : decide ((k : Int) < (T.length : Int)) = true := by simp; omega
  have t3' : decide (k < T.length) = true := by simp; omega
  clear hP hPE hPR hx
  go_enter_defers Try.func51, Try.ntmps51
  go_wp2_with fail
  refine HC.out.mono ?_
  rintro e w' ⟨rfl, rfl⟩
  go_wp2_with fail
  rw [← HW3.out]
  refine HX.out.mono ?_
  rintro e w4 ⟨cs, rfl, hv, hp4, hk4⟩
  obtain ⟨kd, a0, a1, a2, a3, lo, hi, A, n, c, rfl⟩ := hv.eight
  have hR4 := HR3.out.kept hk4 (fun e => by have e' : w.heap.size = w.heap.size + 1 + 1 := e; omega)
  have hE4 := HE3.out.kept hk4 (fun e => by have e' : w.heap.size + 1 = w.heap.size + 1 + 1 := e; omega)
  have hB4 := hk4.below HB3.out (by omega) (fun i e => by have e' : i = w.heap.size + 1 + 1 := e; omega)
  have hs4 : w3.heap.size ≤ w4.heap.size := hk4.size
  obtain ⟨⟨⟨c0, c1⟩, c2, c3⟩, ⟨c4, c5⟩, c6, c7⟩ := hR4.cells
  obtain ⟨⟨⟨f0, f1⟩, f2, f3⟩, ⟨f4, f5⟩, f6, f7⟩ := hR4.free
  have hp5 := hp4.far8 (X := w.heap.size) (by omega) (.int .i64 kd) (.int .u64 a0) (.int .u64 a1) (.int .u64 a2) (.int .u64 a3) (.int .i64 lo) (.int .i64 hi) (.slice A n c)
  have hR5 := hR4.all (.int .i64 kd) (.int .u64 a0) (.int .u64 a1) (.int .u64 a2) (.int .u64 a3) (.int .i64 lo) (.int .i64 hi) (.slice A n c)
  have hE5 := Blk.set8 (g := w.heap.size) hE4 (by omega) (.int .i64 kd) (.int .u64 a0) (.int .u64 a1) (.int .u64 a2) (.int .u64 a3) (.int .i64 lo) (.int .i64 hi) (.slice A n c)
  have hB5 := below_set8 hB4 (Nat.le_refl w.heap.size) (.int .i64 kd) (.int .u64 a0) (.int .u64 a1) (.int .u64 a2) (.int .u64 a3) (.int .i64 lo) (.int .i64 hi) (.slice A n c)
  have hK5 := kept_set8 (Kept.refl (fun i => i = w.heap.size) w4) (g := w.heap.size) (.inl rfl) (.int .i64 kd) (.int .u64 a0) (.int .u64 a1) (.int .u64 a2) (.int .u64 a3) (.int .i64 lo) (.int .i64 hi) (.slice A n c)
  have hv5 : RxV (set8 w4 w.heap.size (.int .i64 kd) (.int .u64 a0) (.int .u64 a1) (.int .u64 a2) (.int .u64 a3) (.int .i64 lo) (.int .i64 hi) (.slice A n c)) (fun i => w3.heap.size ≤ i ∧ i < w4.heap.size) r [.int .i64 kd, .int .u64 a0, .int .u64 a1, .int .u64 a2, .int .u64 a3, .int .i64 lo, .int .i64 hi, .slice A n c] := hv.kept hK5 (fun i hh _ e => by have hh1 := hh.1; have e' : i = w.heap.size := e; omega) (fun i hh _ => hh)
  obtain ⟨g0, g1, g2⟩ := hp5.cells
  have hs5 : w4.heap.size ≤ (set8 w4 w.heap.size (.int .i64 kd) (.int .u64 a0) (.int .u64 a1) (.int .u64 a2) (.int .u64 a3) (.int .i64 lo) (.int .i64 hi) (.slice A n c)).heap.size := hK5.size
  clear hp4 hk4 hv
  have HV := Lib.hid hv5
  unfold set8 at g0 g1 g2
  have HR5 := Lib.hid hR5
  have HE5 := Lib.hid hE5
  have HB5 := Lib.hid hB5
  clear hp5 hR5 hE5 hB5 hK5 hv5 hR4 hE4
  go_wp2_with fail
  refine leaves_cons (f := 71) (args := #[.pointer (some ⟨w.heap.size, 0, none⟩), .pointer (some ⟨w.heap.size + 1, 0, none⟩)]) (by simp) (by simp [go_sem]) ?_
  refine (catch_panicking w.heap.size (w.heap.size + 1) _ _ _ _ _ _ _ _ _ _ _ [] _ HR5.out HE5.out).mono ?_
  rintro e u' w'' ⟨rfl, rfl, rfl⟩
  obtain ⟨⟨⟨d0, d1⟩, d2, d3⟩, ⟨d4, d5⟩, d6, d7⟩ := (set9_R HR5.out (h := w.heap.size + 1) (by omega) (.int .i64 0) (.int .u64 0) (.int .u64 0) (.int .u64 0) (.int .u64 0) (.int .i64 0) (.int .i64 0) (.slice none 0 0) formE).cells
  have d8 := (set9_E HE5.out (g := w.heap.size) (by omega) (.int .i64 0) (.int .u64 0) (.int .u64 0) (.int .u64 0) (.int .u64 0) (.int .i64 0) (.int .i64 0) (.slice none 0 0) formE).cell 0
  simp only [List.getElem?_toArray, List.getElem?_cons_zero] at d8
  have HF := Lib.hid (below_set9 HB5.out (g := w.heap.size) (h := w.heap.size + 1) (Nat.le_refl _) (by omega) (.int .i64 0) (.int .u64 0) (.int .u64 0) (.int .u64 0) (.int .u64 0) (.int .i64 0) (.int .i64 0) (.slice none 0 0) formE)
  unfold set9 set8 at d0 d1 d2 d3 d4 d5 d6 d7 d8
  simp [Leaves, settle, results, Try.results51, go_sem, set8, d0, d1, d2, d3, d4, d5, d6, d7, d8]
  exact ⟨⟨zeroC, by rw [HPE.out]; rfl, by rw [HPR.out]; rfl⟩, HF.out⟩
theorem parse_fits (T : List UInt8) (w : World) (r : Rx) (hb : bigT T = false) (hx : exprN T (T.length + 1) 0 = some (r, T.length)) (hf : r.fits = true) : Calls Try.prog 51 #[.string ⟨T.toArray⟩] w (ParseEnd T w) := by
  have hP : parseP T = some r := by unfold parseP; rw [hx]; exact if_pos rfl
  have hPE : parseE T = .nilIface := by unfold parseE; rw [if_neg (by rw [hb]; decide), hP]; simp only; rw [hf]; rfl
  have hPR : parseR T = some r := by unfold parseR; rw [if_neg (by rw [hb]; decide), hP]; simp only; rw [hf]; rfl
  have HPE := Lib.hid hPE
  have HPR := Lib.hid hPR
  have htm := Lib.hid (exprN_tame _ _ _ _ (Nat.zero_le _) hx)
  have HMS := Lib.hid (show msV r = .tuple #[.int .i64 r.pos, .nilIface] by unfold msV; rw [hf]; rfl)
  have hsz : (ByteArray.mk T.toArray).size = T.length := by simp [ByteArray.size]
  have hmf : ∀ (fn : Fn) (first cap : Array Value) (w : World), (Instr.makeFunc fn first cap).run Try.prog w = .ok (.func fn first cap) w := fun _ _ _ _ => rfl
  have hc := Try.strings_Count_one ⟨T.toArray⟩ 40 ((w.alloc (.cells #[.int .i64 0, .int .u64 0, .int .u64 0, .int .u64 0, .int .u64 0, .int .i64 0, .int .i64 0, .slice none 0 0] 108)).alloc (.cells #[.nilIface] 33))
  unfold bigT at hb
  rw [Bool.or_eq_false_iff] at hb
  have h1 := of_decide_eq_false hb.1
  have h2 := of_decide_eq_false hb.2
  have t1 : decide (262144 < (T.length : Int)) = false := by simp; omega
  generalize hcc : Lib.countByte T 40 = cc at *
  have hc2 : Calls Try.prog 70 #[.string ⟨T.toArray⟩, .string ⟨#[40]⟩] ((w.alloc (.cells #[.int .i64 0, .int .u64 0, .int .u64 0, .int .u64 0, .int .u64 0, .int .i64 0, .int .i64 0, .slice none 0 0] 108)).alloc (.cells #[.nilIface] 33)) fun e w' => e = .returned (.int .i64 cc) ∧ ((w.alloc (.cells #[.int .i64 0, .int .u64 0, .int .u64 0, .int .u64 0, .int .u64 0, .int .i64 0, .int .i64 0, .slice none 0 0] 108)).alloc (.cells #[.nilIface] 33)) = w' := by
    rw [← hcc]
    refine hc.mono ?_
    rintro e w' ⟨rfl, rfl⟩
    exact ⟨by simp [hcc], rfl⟩
  have HC := Lib.hid hc2
  have t2 : decide (1024 < (cc : Int)) = false := by simp; omega
  obtain ⟨w3, hw3⟩ : ∃ w3, w3 = ((w.alloc (.cells #[.int .i64 0, .int .u64 0, .int .u64 0, .int .u64 0, .int .u64 0, .int .i64 0, .int .i64 0, .slice none 0 0] 108)).alloc (.cells #[.nilIface] 33)).alloc (.cells #[.string ⟨T.toArray⟩, .int .i64 0] 124) := ⟨_, rfl⟩
  have hR3 : R8 w3 w.heap.size (.int .i64 0) (.int .u64 0) (.int .u64 0) (.int .u64 0) (.int .u64 0) (.int .i64 0) (.int .i64 0) (.slice none 0 0) := by rw [hw3]; exact ((R8.mk0 w w.heap.size rfl).alloc _).alloc _
  have hE3 : Blk w3 (w.heap.size + 1) 33 #[.nilIface] := by
    rw [hw3]
    have := Blk.new (w.alloc (.cells #[.int .i64 0, .int .u64 0, .int .u64 0, .int .u64 0, .int .u64 0, .int .i64 0, .int .i64 0, .slice none 0 0] 108)) 33 #[.nilIface]
    exact Blk.alloc (by simpa using this) _
  have hp3 : PS T w3 (w.heap.size + 1 + 1) 0 := by
    refine ⟨?_, Nat.zero_le _, by omega⟩
    rw [hw3]
    have := Blk.new ((w.alloc (.cells #[.int .i64 0, .int .u64 0, .int .u64 0, .int .u64 0, .int .u64 0, .int .i64 0, .int .i64 0, .slice none 0 0] 108)).alloc (.cells #[.nilIface] 33)) 124 #[.string ⟨T.toArray⟩, .int .i64 0]
    simpa using this
  have hb3 : Below w.heap.size w w3 := by rw [hw3]; exact (((Below.refl _ _).alloc (Nat.le_refl _) _).alloc (by simp) _).alloc (by simp; omega) _
  have hs3 : w3.heap.size = w.heap.size + 1 + 1 + 1 := by rw [hw3]; simp
  have HX := Lib.hid (expr_any (T.length + 1) 0 w3 hp3 (by omega))
  have HR3 := Lib.hid hR3
  have HE3 := Lib.hid hE3
  have HB3 := Lib.hid hb3
  have HW3 := Lib.hid hw3
  clear hb hc hc2 hcc hw3 hR3 hE3 hp3 hb3 h2
  rw [hx] at HX
  have t3 : decide ((T.length : Int) < (T.length : Int)) = false := by simp
  have t3' : decide (T.length < T.length) = false := by simp
  clear hP hPE hPR hx hf
  go_enter_defers Try.func51, Try.ntmps51
  go_wp2_with fail
  refine HC.out.mono ?_
  rintro e w' ⟨rfl, rfl⟩
  go_wp2_with fail
  rw [← HW3.out]
  refine HX.out.mono ?_
  rintro e w4 ⟨cs, rfl, hv, hp4, hk4⟩
  obtain ⟨kd, a0, a1, a2, a3, lo, hi, A, n, c, rfl⟩ := hv.eight
  have hR4 := HR3.out.kept hk4 (fun e => by have e' : w.heap.size = w.heap.size + 1 + 1 := e; omega)
  have hE4 := HE3.out.kept hk4 (fun e => by have e' : w.heap.size + 1 = w.heap.size + 1 + 1 := e; omega)
  have hB4 := hk4.below HB3.out (by omega) (fun i e => by have e' : i = w.heap.size + 1 + 1 := e; omega)
  have hs4 : w3.heap.size ≤ w4.heap.size := hk4.size
  obtain ⟨⟨⟨c0, c1⟩, c2, c3⟩, ⟨c4, c5⟩, c6, c7⟩ := hR4.cells
  obtain ⟨⟨⟨f0, f1⟩, f2, f3⟩, ⟨f4, f5⟩, f6, f7⟩ := hR4.free
  have hp5 := hp4.far8 (X := w.heap.size) (by omega) (.int .i64 kd) (.int .u64 a0) (.int .u64 a1) (.int .u64 a2) (.int .u64 a3) (.int .i64 lo) (.int .i64 hi) (.slice A n c)
  have hR5 := hR4.all (.int .i64 kd) (.int .u64 a0) (.int .u64 a1) (.int .u64 a2) (.int .u64 a3) (.int .i64 lo) (.int .i64 hi) (.slice A n c)
  have hE5 := Blk.set8 (g := w.heap.size) hE4 (by omega) (.int .i64 kd) (.int .u64 a0) (.int .u64 a1) (.int .u64 a2) (.int .u64 a3) (.int .i64 lo) (.int .i64 hi) (.slice A n c)
  have hB5 := below_set8 hB4 (Nat.le_refl w.heap.size) (.int .i64 kd) (.int .u64 a0) (.int .u64 a1) (.int .u64 a2) (.int .u64 a3) (.int .i64 lo) (.int .i64 hi) (.slice A n c)
  have hK5 := kept_set8 (Kept.refl (fun i => i = w.heap.size) w4) (g := w.heap.size) (.inl rfl) (.int .i64 kd) (.int .u64 a0) (.int .u64 a1) (.int .u64 a2) (.int .u64 a3) (.int .i64 lo) (.int .i64 hi) (.slice A n c)
  have hv5 : RxV (set8 w4 w.heap.size (.int .i64 kd) (.int .u64 a0) (.int .u64 a1) (.int .u64 a2) (.int .u64 a3) (.int .i64 lo) (.int .i64 hi) (.slice A n c)) (fun i => w3.heap.size ≤ i ∧ i < w4.heap.size) r [.int .i64 kd, .int .u64 a0, .int .u64 a1, .int .u64 a2, .int .u64 a3, .int .i64 lo, .int .i64 hi, .slice A n c] := hv.kept hK5 (fun i hh _ e => by have hh1 := hh.1; have e' : i = w.heap.size := e; omega) (fun i hh _ => hh)
  obtain ⟨g0, g1, g2⟩ := hp5.cells
  have hs5 : w4.heap.size ≤ (set8 w4 w.heap.size (.int .i64 kd) (.int .u64 a0) (.int .u64 a1) (.int .u64 a2) (.int .u64 a3) (.int .i64 lo) (.int .i64 hi) (.slice A n c)).heap.size := hK5.size
  clear hp4 hk4 hv
  have hA5 : At8 (set8 w4 w.heap.size (.int .i64 kd) (.int .u64 a0) (.int .u64 a1) (.int .u64 a2) (.int .u64 a3) (.int .i64 lo) (.int .i64 hi) (.slice A n c)) w.heap.size 0 [.int .i64 kd, .int .u64 a0, .int .u64 a1, .int .u64 a2, .int .u64 a3, .int .i64 lo, .int .i64 hi, .slice A n c] := ⟨hR5.lt, fun j u hu => by rw [Nat.zero_add, Blk.cell hR5]; simpa using hu⟩
  have hms := measure_any w.heap.size 0 r [.int .i64 kd, .int .u64 a0, .int .u64 a1, .int .u64 a2, .int .u64 a3, .int .i64 lo, .int .i64 hi, .slice A n c] (set8 w4 w.heap.size (.int .i64 kd) (.int .u64 a0) (.int .u64 a1) (.int .u64 a2) (.int .u64 a3) (.int .i64 lo) (.int .i64 hi) (.slice A n c)) _ hv5 (fun i hh => by have hh1 := hh.2; omega) hA5 htm.out
  rw [HMS.out] at hms
  have HM := Lib.hid hms
  unfold set8 at g0 g1 g2
  have HV := Lib.hid hv5
  have HR5 := Lib.hid hR5
  have HE5 := Lib.hid hE5
  have HB5 := Lib.hid hB5
  clear hp5 hR5 hE5 hB5 hK5 hv5 hR4 hE4 hA5 hms
  go_wp2_with fail
  refine HM.out.mono ?_
  rintro e w6 ⟨rfl, hb6⟩
  have hR6 := HR5.out.below hb6 HR5.out.lt
  have hE6 := Blk.below HE5.out hb6 (Blk.lt HE5.out)
  have hB6 := HB5.out.trans (hb6.mono (by omega))
  have hv6 := HV.out.below hb6
  have hs6 : w4.heap.size ≤ w6.heap.size := Nat.le_trans hs5 hb6.size
  clear c0 c1 c2 c3 c4 c5 c6 c7 f0 f1 f2 f3 f4 f5 f6 f7 g0 g1 g2
  obtain ⟨⟨⟨c0, c1⟩, c2, c3⟩, ⟨c4, c5⟩, c6, c7⟩ := hR6.cells
  obtain ⟨⟨⟨f0, f1⟩, f2, f3⟩, ⟨f4, f5⟩, f6, f7⟩ := hR6.free
  have e0 := hE6.cell 0
  have e1 := hE6.frozen 0
  simp only [List.getElem?_toArray, List.getElem?_cons_zero] at e0
  have HZ := Lib.hid (set9_R hR6 (h := w.heap.size + 1) (by omega) (.int .i64 kd) (.int .u64 a0) (.int .u64 a1) (.int .u64 a2) (.int .u64 a3) (.int .i64 lo) (.int .i64 hi) (.slice A n c) .nilIface)
  have HZE := Lib.hid (set9_E hE6 (g := w.heap.size) (by omega) (.int .i64 kd) (.int .u64 a0) (.int .u64 a1) (.int .u64 a2) (.int .u64 a3) (.int .i64 lo) (.int .i64 hi) (.slice A n c) .nilIface)
  have HF := Lib.hid (below_set9 hB6 (g := w.heap.size) (h := w.heap.size + 1) (Nat.le_refl _) (by omega) (.int .i64 kd) (.int .u64 a0) (.int .u64 a1) (.int .u64 a2) (.int .u64 a3) (.int .i64 lo) (.int .i64 hi) (.slice A n c) .nilIface)
  have HK9 := Lib.hid (kept_set9 (F := fun i => i = w.heap.size ∨ i = w.heap.size + 1) (Kept.refl _ w6) (g := w.heap.size) (h := w.heap.size + 1) (.inl (.inl rfl)) (.inl (.inr rfl)) (.int .i64 kd) (.int .u64 a0) (.int .u64 a1) (.int .u64 a2) (.int .u64 a3) (.int .i64 lo) (.int .i64 hi) (.slice A n c) .nilIface)
  have HV6 := Lib.hid hv6
  clear hR6 hE6 hB6 hv6 hb6
  go_wp2_with fail
  refine leaves_cons (f := 71) (args := #[.pointer (some ⟨w.heap.size, 0, none⟩), .pointer (some ⟨w.heap.size + 1, 0, none⟩)]) (by simp) (by simp [go_sem]) ?_
  refine (catch_idle _ _ _).mono ?_
  rintro e u' w'' ⟨rfl, rfl, rfl⟩
  obtain ⟨⟨⟨d0, d1⟩, d2, d3⟩, ⟨d4, d5⟩, d6, d7⟩ := HZ.out.cells
  have d8 := HZE.out.cell 0
  simp only [List.getElem?_toArray, List.getElem?_cons_zero] at d8
  unfold set9 set8 at d0 d1 d2 d3 d4 d5 d6 d7 d8
  simp [Leaves, settle, results, Try.results51, go_sem, d0, d1, d2, d3, d4, d5, d6, d7, d8]
  refine ⟨⟨_, by rw [HPE.out], ?_⟩, HF.out⟩
  rw [HPR.out]
  exact ⟨HV6.out.kept HK9.out (fun i hh _ e => by have hh1 := hh.1; omega) (fun i hh hl => ⟨by have hh1 := hh.1; omega, Nat.lt_of_lt_of_le hl HK9.out.size⟩), htm.out⟩
theorem parse_misfit (T : List UInt8) (w : World) (r : Rx) (hb : bigT T = false) (hx : exprN T (T.length + 1) 0 = some (r, T.length)) (hf : r.fits = false) : Calls Try.prog 51 #[.string ⟨T.toArray⟩] w (ParseEnd T w) := by
  have hP : parseP T = some r := by unfold parseP; rw [hx]; exact if_pos rfl
  have hPE : parseE T = largeE := by unfold parseE; rw [if_neg (by rw [hb]; decide), hP]; simp only; rw [hf]; rfl
  have hPR : parseR T = none := by unfold parseR; rw [if_neg (by rw [hb]; decide), hP]; simp only; rw [hf]; rfl
  have HPE := Lib.hid hPE
  have HPR := Lib.hid hPR
  have htm := Lib.hid (exprN_tame _ _ _ _ (Nat.zero_le _) hx)
  have HMS := Lib.hid (show msV r = .tuple #[.int .i64 0, largeE] by unfold msV; rw [hf]; rfl)
  have hsz : (ByteArray.mk T.toArray).size = T.length := by simp [ByteArray.size]
  have hmf : ∀ (fn : Fn) (first cap : Array Value) (w : World), (Instr.makeFunc fn first cap).run Try.prog w = .ok (.func fn first cap) w := fun _ _ _ _ => rfl
  have hc := Try.strings_Count_one ⟨T.toArray⟩ 40 ((w.alloc (.cells #[.int .i64 0, .int .u64 0, .int .u64 0, .int .u64 0, .int .u64 0, .int .i64 0, .int .i64 0, .slice none 0 0] 108)).alloc (.cells #[.nilIface] 33))
  unfold bigT at hb
  rw [Bool.or_eq_false_iff] at hb
  have h1 := of_decide_eq_false hb.1
  have h2 := of_decide_eq_false hb.2
  have t1 : decide (262144 < (T.length : Int)) = false := by simp; omega
  generalize hcc : Lib.countByte T 40 = cc at *
  have hc2 : Calls Try.prog 70 #[.string ⟨T.toArray⟩, .string ⟨#[40]⟩] ((w.alloc (.cells #[.int .i64 0, .int .u64 0, .int .u64 0, .int .u64 0, .int .u64 0, .int .i64 0, .int .i64 0, .slice none 0 0] 108)).alloc (.cells #[.nilIface] 33)) fun e w' => e = .returned (.int .i64 cc) ∧ ((w.alloc (.cells #[.int .i64 0, .int .u64 0, .int .u64 0, .int .u64 0, .int .u64 0, .int .i64 0, .int .i64 0, .slice none 0 0] 108)).alloc (.cells #[.nilIface] 33)) = w' := by
    rw [← hcc]
    refine hc.mono ?_
    rintro e w' ⟨rfl, rfl⟩
    exact ⟨by simp [hcc], rfl⟩
  have HC := Lib.hid hc2
  have t2 : decide (1024 < (cc : Int)) = false := by simp; omega
  obtain ⟨w3, hw3⟩ : ∃ w3, w3 = ((w.alloc (.cells #[.int .i64 0, .int .u64 0, .int .u64 0, .int .u64 0, .int .u64 0, .int .i64 0, .int .i64 0, .slice none 0 0] 108)).alloc (.cells #[.nilIface] 33)).alloc (.cells #[.string ⟨T.toArray⟩, .int .i64 0] 124) := ⟨_, rfl⟩
  have hR3 : R8 w3 w.heap.size (.int .i64 0) (.int .u64 0) (.int .u64 0) (.int .u64 0) (.int .u64 0) (.int .i64 0) (.int .i64 0) (.slice none 0 0) := by rw [hw3]; exact ((R8.mk0 w w.heap.size rfl).alloc _).alloc _
  have hE3 : Blk w3 (w.heap.size + 1) 33 #[.nilIface] := by
    rw [hw3]
    have := Blk.new (w.alloc (.cells #[.int .i64 0, .int .u64 0, .int .u64 0, .int .u64 0, .int .u64 0, .int .i64 0, .int .i64 0, .slice none 0 0] 108)) 33 #[.nilIface]
    exact Blk.alloc (by simpa using this) _
  have hp3 : PS T w3 (w.heap.size + 1 + 1) 0 := by
    refine ⟨?_, Nat.zero_le _, by omega⟩
    rw [hw3]
    have := Blk.new ((w.alloc (.cells #[.int .i64 0, .int .u64 0, .int .u64 0, .int .u64 0, .int .u64 0, .int .i64 0, .int .i64 0, .slice none 0 0] 108)).alloc (.cells #[.nilIface] 33)) 124 #[.string ⟨T.toArray⟩, .int .i64 0]
    simpa using this
  have hb3 : Below w.heap.size w w3 := by rw [hw3]; exact (((Below.refl _ _).alloc (Nat.le_refl _) _).alloc (by simp) _).alloc (by simp; omega) _
  have hs3 : w3.heap.size = w.heap.size + 1 + 1 + 1 := by rw [hw3]; simp
  have HX := Lib.hid (expr_any (T.length + 1) 0 w3 hp3 (by omega))
  have HR3 := Lib.hid hR3
  have HE3 := Lib.hid hE3
  have HB3 := Lib.hid hb3
  have HW3 := Lib.hid hw3
  clear hb hc hc2 hcc hw3 hR3 hE3 hp3 hb3 h2
  rw [hx] at HX
  have t3 : decide ((T.length : Int) < (T.length : Int)) = false := by simp
  have t3' : decide (T.length < T.length) = false := by simp
  clear hP hPE hPR hx hf
  go_enter_defers Try.func51, Try.ntmps51
  go_wp2_with fail
  refine HC.out.mono ?_
  rintro e w' ⟨rfl, rfl⟩
  go_wp2_with fail
  rw [← HW3.out]
  refine HX.out.mono ?_
  rintro e w4 ⟨cs, rfl, hv, hp4, hk4⟩
  obtain ⟨kd, a0, a1, a2, a3, lo, hi, A, n, c, rfl⟩ := hv.eight
  have hR4 := HR3.out.kept hk4 (fun e => by have e' : w.heap.size = w.heap.size + 1 + 1 := e; omega)
  have hE4 := HE3.out.kept hk4 (fun e => by have e' : w.heap.size + 1 = w.heap.size + 1 + 1 := e; omega)
  have hB4 := hk4.below HB3.out (by omega) (fun i e => by have e' : i = w.heap.size + 1 + 1 := e; omega)
  have hs4 : w3.heap.size ≤ w4.heap.size := hk4.size
  obtain ⟨⟨⟨c0, c1⟩, c2, c3⟩, ⟨c4, c5⟩, c6, c7⟩ := hR4.cells
  obtain ⟨⟨⟨f0, f1⟩, f2, f3⟩, ⟨f4, f5⟩, f6, f7⟩ := hR4.free
  have hp5 := hp4.far8 (X := w.heap.size) (by omega) (.int .i64 kd) (.int .u64 a0) (.int .u64 a1) (.int .u64 a2) (.int .u64 a3) (.int .i64 lo) (.int .i64 hi) (.slice A n c)
  have hR5 := hR4.all (.int .i64 kd) (.int .u64 a0) (.int .u64 a1) (.int .u64 a2) (.int .u64 a3) (.int .i64 lo) (.int .i64 hi) (.slice A n c)
  have hE5 := Blk.set8 (g := w.heap.size) hE4 (by omega) (.int .i64 kd) (.int .u64 a0) (.int .u64 a1) (.int .u64 a2) (.int .u64 a3) (.int .i64 lo) (.int .i64 hi) (.slice A n c)
  have hB5 := below_set8 hB4 (Nat.le_refl w.heap.size) (.int .i64 kd) (.int .u64 a0) (.int .u64 a1) (.int .u64 a2) (.int .u64 a3) (.int .i64 lo) (.int .i64 hi) (.slice A n c)
  have hK5 := kept_set8 (Kept.refl (fun i => i = w.heap.size) w4) (g := w.heap.size) (.inl rfl) (.int .i64 kd) (.int .u64 a0) (.int .u64 a1) (.int .u64 a2) (.int .u64 a3) (.int .i64 lo) (.int .i64 hi) (.slice A n c)
  have hv5 : RxV (set8 w4 w.heap.size (.int .i64 kd) (.int .u64 a0) (.int .u64 a1) (.int .u64 a2) (.int .u64 a3) (.int .i64 lo) (.int .i64 hi) (.slice A n c)) (fun i => w3.heap.size ≤ i ∧ i < w4.heap.size) r [.int .i64 kd, .int .u64 a0, .int .u64 a1, .int .u64 a2, .int .u64 a3, .int .i64 lo, .int .i64 hi, .slice A n c] := hv.kept hK5 (fun i hh _ e => by have hh1 := hh.1; have e' : i = w.heap.size := e; omega) (fun i hh _ => hh)
  obtain ⟨g0, g1, g2⟩ := hp5.cells
  have hs5 : w4.heap.size ≤ (set8 w4 w.heap.size (.int .i64 kd) (.int .u64 a0) (.int .u64 a1) (.int .u64 a2) (.int .u64 a3) (.int .i64 lo) (.int .i64 hi) (.slice A n c)).heap.size := hK5.size
  clear hp4 hk4 hv
  have hA5 : At8 (set8 w4 w.heap.size (.int .i64 kd) (.int .u64 a0) (.int .u64 a1) (.int .u64 a2) (.int .u64 a3) (.int .i64 lo) (.int .i64 hi) (.slice A n c)) w.heap.size 0 [.int .i64 kd, .int .u64 a0, .int .u64 a1, .int .u64 a2, .int .u64 a3, .int .i64 lo, .int .i64 hi, .slice A n c] := ⟨hR5.lt, fun j u hu => by rw [Nat.zero_add, Blk.cell hR5]; simpa using hu⟩
  have hms := measure_any w.heap.size 0 r [.int .i64 kd, .int .u64 a0, .int .u64 a1, .int .u64 a2, .int .u64 a3, .int .i64 lo, .int .i64 hi, .slice A n c] (set8 w4 w.heap.size (.int .i64 kd) (.int .u64 a0) (.int .u64 a1) (.int .u64 a2) (.int .u64 a3) (.int .i64 lo) (.int .i64 hi) (.slice A n c)) _ hv5 (fun i hh => by have hh1 := hh.2; omega) hA5 htm.out
  rw [HMS.out] at hms
  have HM := Lib.hid hms
  unfold set8 at g0 g1 g2
  have HV := Lib.hid hv5
  have HR5 := Lib.hid hR5
  have HE5 := Lib.hid hE5
  have HB5 := Lib.hid hB5
  clear hp5 hR5 hE5 hB5 hK5 hv5 hR4 hE4 hA5 hms
  go_wp2_with fail
  refine HM.out.mono ?_
  rintro e w6 ⟨rfl, hb6⟩
  have hR6 := HR5.out.below hb6 HR5.out.lt
  have hE6 := Blk.below HE5.out hb6 (Blk.lt HE5.out)
  have hB6 := HB5.out.trans (hb6.mono (by omega))
  have hv6 := HV.out.below hb6
  have hs6 : w4.heap.size ≤ w6.heap.size := Nat.le_trans hs5 hb6.size
  clear c0 c1 c2 c3 c4 c5 c6 c7 f0 f1 f2 f3 f4 f5 f6 f7 g0 g1 g2
  obtain ⟨⟨⟨c0, c1⟩, c2, c3⟩, ⟨c4, c5⟩, c6, c7⟩ := hR6.cells
  obtain ⟨⟨⟨f0, f1⟩, f2, f3⟩, ⟨f4, f5⟩, f6, f7⟩ := hR6.free
  have e0 := hE6.cell 0
  have e1 := hE6.frozen 0
  simp only [List.getElem?_toArray, List.getElem?_cons_zero] at e0
  have HZ := Lib.hid (set9_R hR6 (h := w.heap.size + 1) (by omega) (.int .i64 0) (.int .u64 0) (.int .u64 0) (.int .u64 0) (.int .u64 0) (.int .i64 0) (.int .i64 0) (.slice none 0 0) largeE)
  have HZE := Lib.hid (set9_E hE6 (g := w.heap.size) (by omega) (.int .i64 0) (.int .u64 0) (.int .u64 0) (.int .u64 0) (.int .u64 0) (.int .i64 0) (.int .i64 0) (.slice none 0 0) largeE)
  have HF := Lib.hid (below_set9 hB6 (g := w.heap.size) (h := w.heap.size + 1) (Nat.le_refl _) (by omega) (.int .i64 0) (.int .u64 0) (.int .u64 0) (.int .u64 0) (.int .u64 0) (.int .i64 0) (.int .i64 0) (.slice none 0 0) largeE)
  have HK9 := Lib.hid (kept_set9 (F := fun i => i = w.heap.size ∨ i = w.heap.size + 1) (Kept.refl _ w6) (g := w.heap.size) (h := w.heap.size + 1) (.inl (.inl rfl)) (.inl (.inr rfl)) (.int .i64 0) (.int .u64 0) (.int .u64 0) (.int .u64 0) (.int .u64 0) (.int .i64 0) (.int .i64 0) (.slice none 0 0) largeE)
  have HV6 := Lib.hid hv6
  clear hR6 hE6 hB6 hv6 hb6
  unfold largeE at *
  go_wp2_with fail
  refine leaves_cons (f := 71) (args := #[.pointer (some ⟨w.heap.size, 0, none⟩), .pointer (some ⟨w.heap.size + 1, 0, none⟩)]) (by simp) (by simp [go_sem]) ?_
  refine (catch_idle _ _ _).mono ?_
  rintro e u' w'' ⟨rfl, rfl, rfl⟩
  obtain ⟨⟨⟨d0, d1⟩, d2, d3⟩, ⟨d4, d5⟩, d6, d7⟩ := HZ.out.cells
  have d8 := HZE.out.cell 0
  simp only [List.getElem?_toArray, List.getElem?_cons_zero] at d8
  unfold set9 set8 at d0 d1 d2 d3 d4 d5 d6 d7 d8
  simp [Leaves, settle, results, Try.results51, go_sem, d0, d1, d2, d3, d4, d5, d6, d7, d8]
  exact ⟨⟨zeroC, by rw [HPE.out]; rfl, by rw [HPR.out]; rfl⟩, HF.out⟩
theorem parse_any (T : List UInt8) (w : World) (h : T.length ≤ 9223372036854775807) : Calls Try.prog 51 #[.string ⟨T.toArray⟩] w (ParseEnd T w) := by
  rcases hb : bigT T with _ | _
  · rcases hx : exprN T (T.length + 1) 0 with _ | ⟨r, k⟩
    · exact parse_fail T w hb hx
    · by_cases hk : k = T.length
      · subst hk
        rcases hf : r.fits with _ | _
        · exact parse_misfit T w r hb hx hf
        · exact parse_fits T w r hb hx hf
      · exact parse_tail T w r k hb hx hk
  · exact parse_big T w h hb
end Go.Proofs.Ytniefnjcimempaa
