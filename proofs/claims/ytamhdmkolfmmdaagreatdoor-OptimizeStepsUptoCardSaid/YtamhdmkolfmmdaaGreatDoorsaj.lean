/- The walk of the parser's expression. The walks of regex.copies, meter.node, measure. The walk of the deferred closure of regex.Parse. -/
import Derived.Test.YtamhdmkolfmmdaaGreatDoorsai
import Derived.Test.YtamhdmkolfmmdaaGreatDoorsaa
import Derived.Defers
import Derived.Recover
import Derived.Laws.Pointers
set_option linter.unusedVariables false
set_option linter.unusedSimpArgs false
namespace Go.Proofs.YtamhdmkolfmmdaaGreatDoor
open Go.RowKit
theorem klB {T : List UInt8} {w w4 w5 : World} {g k3 : Nat} {v v5 : Value} {l : List Rx} {css : List Value} {r2 : Rx} {o : Obj} {cs : List Value} {Fx : Nat → Prop} (hg : g < w.heap.size)
  (HP4 : PS T w4 g k3) (HL : RxVs w4 (offV (w.heap.size + 1) w4.heap.size v) l css) (HO : w4.ownsRow (w.heap.size + 1) 105 8 v l.length css) (HR4 : R8 w4 w.heap.size (.int .i64 0) (.int .u64 0) (.int .u64 0) (.int .u64 0) (.int .u64 0) (.int .i64 0) (.int .i64 0) (.slice none 0 0)) (HK4 : Kept (isG g) w w4) (hv4 : RxV w4 Fx r2 cs)
  (hFx : ∀ i, Fx i → i < w4.heap.size → w.heap.size + 1 ≤ i ∧ v.ownBlock ≠ some i) (hown5 : w5.ownsRow (w.heap.size + 1) 105 8 v5 (l.length + 1) (css ++ cs)) (hg5 : (w4.alloc o).grownBy w5 v.ownBlock) (hv5 : v5.ownBlock = v.ownBlock ∨ v5.ownBlock = some (w4.heap.size + 1)) :
  PS T w5 g k3 ∧ LSt (w.heap.size + 1) v5 (l ++ [r2]) (css ++ cs) w5 ∧ R8 w5 w.heap.size (.int .i64 0) (.int .u64 0) (.int .u64 0) (.int .u64 0) (.int .u64 0) (.int .i64 0) (.int .i64 0) (.slice none 0 0) ∧ Kept (isG g) w w5 := by
 exact y37
def BrRel (T : List UInt8) (w : World) (g k0 : Nat) (E : Nat → Option (Rx × Nat)) (R : Option (List Rx × Nat)) (f : Nat) (v : Value) (wr : World) : Prop :=
 ∃ (l : List Rx) (css : List Value) (k : Nat), PS T wr g k ∧ k0 ≤ k ∧ 1 ≤ l.length ∧ l.length ≤ k + 1 ∧ T.length - k < f ∧ Hid (kcA T E f l k = R) ∧ LSt (w.heap.size + 1) v l css wr ∧ R8 wr w.heap.size (.int .i64 0) (.int .u64 0) (.int .u64 0) (.int .u64 0) (.int .u64 0) (.int .i64 0) (.int .i64 0) (.slice none 0 0) ∧ Kept (isG g) w wr
theorem LSt.one {lo : Nat} {w : World} {r : Rx} {F : Nat → Prop} {v0 v1 v2 v3 v4 v5 v6 v7 : Value} (hv : RxV w F r [v0, v1, v2, v3, v4, v5, v6, v7]) (hF : ∀ i, F i → i < w.heap.size → lo ≤ i) (hl : lo ≤ w.heap.size) :
  LSt lo (.slice (some ⟨w.heap.size, 0, none⟩) 1 1) [r] [v0, v1, v2, v3, v4, v5, v6, v7] (w.alloc (.cells #[v0, v1, v2, v3, v4, v5, v6, v7] 105)) := by
 refine ⟨⟨rfl, .inr ⟨w.heap.size, 1, _, rfl, hl, Blk.new _ _ _, Nat.le_refl _, by decide, rfl, rfl⟩⟩, RxVs.one ?_⟩
 refine hv.kept ((Kept.refl (fun _ => False) w).alloc _) (fun _ _ _ => id) fun i hi hl' => ⟨hF i hi hl', by simp; omega, ?_⟩
 intro e
 injection e with e
 have e' : w.heap.size = i := e
 omega
theorem kkZ {T : List UInt8} {E : Nat → Option (Rx × Nat)} {f k : Nat} {l : List Rx} : kcA T E (f + 1) l k = if T[k]? = some 124 then (match kbv T E (k + 1) with
   | none => none
   | some (r, k') => kcA T E f (l ++ [r]) k')
  else some (l, k) := rfl
theorem Rx.alt_many {l : List Rx} (h : 2 ≤ l.length) : Rx.alt l = Rx.plain 4 l := by
 match l, h with
 | r :: q :: l, _ => rfl
set_option maxHeartbeats 3000000
set_option maxRecDepth 100000
theorem kl0 {T : List UInt8} {g k0 : Nat} (w : World) (E : Nat → Option (Rx × Nat)) (h : PS T w g k0) (hEp : ∀ k k' r, k ≤ T.length → E k = some (r, k') → k ≤ k' ∧ k' ≤ T.length)
  (hTm : ∀ k1 w1, k0 ≤ k1 → PS T w1 g k1 → Calls Tryz.prog 137 #[.pointer (some ⟨g, 0, none⟩)] w1 (TRes T w1 g (kbv T E k1))) (Z : Option (Rx × Nat)) (hZ : Z = match kbv T E k0 with
   | none => none
   | some (r, k1) => match kcA T E (T.length + 1) [r] k1 with
    | none => none
    | some (l, k2) => some (Rx.alt l, k2)) : Calls Tryz.prog 90 #[.pointer (some ⟨g, 0, none⟩)] w (TRes T w g Z) := by
 obtain ⟨i0, hinf, hz0, hz1, hz2⟩ := info_parts infoR
 have HZ := hD hZ
 have HE := hD hTm
 have HEP := hD hEp
 have hT := h.2.2
 have hg := h.lt
 have hk0 := h.2.1
 have HR0 := hD (R8.mk0 w w.heap.size rfl)
 have HP0 := hD (h.alloc (.cells #[.int .i64 0, .int .u64 0, .int .u64 0, .int .u64 0, .int .u64 0, .int .i64 0, .int .i64 0, .slice none 0 0] 105))
 have HK0 := hD ((Kept.refl (isG g) w).alloc (.cells #[.int .i64 0, .int .u64 0, .int .u64 0, .int .u64 0, .int .u64 0, .int .i64 0, .int .i64 0, .slice none 0 0] 105))
 have hne : ¬ isG g w.heap.size := fun e => absurd hg (by rw [show g = w.heap.size from e.symm]; omega)
 have HI := hD hinf
 have HI0 := hD hz0
 have HI1 := hD hz1
 have HI2 := hD hz2
 clear hZ hTm hEp h hinf hz0 hz1 hz2
 rcases ht : kbv T E k0 with _ | ⟨r, k1⟩
 ·
  have hz := HZ.out
  rw [ht] at hz
  subst hz
  have HT := hD (HE.out k0 _ (Nat.le_refl _) HP0.out)
  rw [ht] at HT
  clear ht
  go_enter Tryz.func90, Tryz.ntmps90
  go_wp2_with fail
  refine HT.out.mono ?_
  rintro e w2 ⟨rfl, hp2, hk2⟩
  go_wp2_with fail
  exact ⟨rfl, rfl, hp2, HK0.out.then_ hk2⟩
 ·
  have hz := HZ.out
  rw [ht] at hz
  simp only at hz
  have hkk := kca HEP.out hk0 ht
  obtain ⟨R, hR⟩ := xE (kcA T E (T.length + 1) [r] k1)
  rw [← hR] at hz
  have HZ := hD hz
  have HR := hD hR
  have HT := hD (HE.out k0 _ (Nat.le_refl _) HP0.out)
  rw [ht] at HT
  clear ht hz hR
  go_enter Tryz.func90, Tryz.ntmps90
  go_wp2_with fail
  refine HT.out.mono ?_
  rintro e w2 ⟨cs, rfl, hv, hp2, hk2⟩
  obtain ⟨kd, a0, a1, a2, a3, lo, hi, A, n, c, rfl⟩ := hv.eight
  have hR2 := HR0.out.kept hk2 hne
  have hK2 := HK0.out.then_ hk2
  have hs2 : w.heap.size + 1 ≤ w2.heap.size := by have := hk2.size; simpa using this
  have HL2 := hD (LSt.one (lo := w.heap.size + 1) hv (fun i hh _ => by have hh1 := hh.1; simp at hh1; omega) hs2)
  have HP2 := hD (hp2.alloc (.cells #[.int .i64 kd, .int .u64 a0, .int .u64 a1, .int .u64 a2, .int .u64 a3, .int .i64 lo, .int .i64 hi, .slice A n c] 105))
  have HR2 := hD (hR2.alloc (.cells #[.int .i64 kd, .int .u64 a0, .int .u64 a1, .int .u64 a2, .int .u64 a3, .int .i64 lo, .int .i64 hi, .slice A n c] 105))
  have HK2 := hD (hK2.alloc (.cells #[.int .i64 kd, .int .u64 a0, .int .u64 a1, .int .u64 a2, .int .u64 a3, .int .i64 lo, .int .i64 hi, .slice A n c] 105))
  clear hv hp2 hk2 hR2 hK2 HR0 HP0 HK0 HT
  go_wp2_with fail
  go_loopg [3] (T.length + 1) (fun f v wr => BrRel T w g k0 E R f v wr)
  case atStart => exact ⟨[r], _, k1, HP2.out, hkk.1, by simp, by simp, by omega, HR.out.symm, HL2.out, HR2.out, HK2.out⟩
  case round =>
   clear HP2 HR2 HK2 HL2
   obtain ⟨wo, rfl⟩ : ∃ wo : World, wo = wr := ⟨_, rfl⟩
   obtain ⟨l, css, k, hp, h1, hl1, h2, h3, hP, hL, hR8, hK⟩ := hrel
   obtain ⟨f, rfl⟩ : ∃ f, gk = f + 1 := ⟨gk - 1, by omega⟩
   have hke := hp.2.1
   have HP := hD hp
   have HL := hD hL
   have HR8 := hD hR8
   have HK := hD hK
   have hP2 := hP.out
   clear hp hL hR8 hK hP
   rw [kkZ] at hP2
   by_cases hb : T[k]? = some 124
   ·
    rw [if_pos hb] at hP2
    have hlb := kaw hb
    have HS := hD (skY 124 124 rfl wo HP.out hb)
    clear hb
    rcases ht : kbv T E (k + 1) with _ | ⟨r2, k3⟩
    ·
     rw [ht] at hP2
     have hz : Z = none := by rw [HZ.out, ← hP2]
     subst hz
     have HT := hD fun w1 h1 => HE.out (k + 1) w1 (by omega) h1
     rw [ht] at HT
     clear ht hP2
     go_wp2_with fail
     refine HS.out.mono ?_
     rintro e w3 ⟨rfl, hp3, hk3⟩
     go_wp2_with fail
     refine (HT.out w3 hp3).mono ?_
     rintro e w4 ⟨rfl, hp4, hk4⟩
     go_wp2_with fail
     exact ⟨rfl, rfl, hp4, (HK.out.then_ hk3).then_ hk4⟩
    ·
     rw [ht] at hP2
     have hk3p := kca HEP.out (by omega) ht
     have HPn := hD hP2
     have HT := hD fun w1 h1 => HE.out (k + 1) w1 (by omega) h1
     rw [ht] at HT
     clear ht hP2
     go_wp2_with fail
     refine HS.out.mono ?_
     rintro e w3 ⟨rfl, hp3, hk3⟩
     go_wp2_with fail
     refine (HT.out w3 hp3).mono ?_
     rintro e w4 ⟨cs, rfl, hv, hp4, hk4⟩
     obtain ⟨kd, a0, a1, a2, a3, lo, hi, A, n, c, rfl⟩ := hv.eight
     have hs3 : wo.heap.size ≤ w3.heap.size := hk3.size
     have hs4 : w3.heap.size ≤ w4.heap.size := hk4.size
     have hso : w.heap.size < wo.heap.size := HR8.out.lt
     have hk34 := hk3.then_ hk4
     have hL4 := HL.out.kept hk34 (fun i h1 h2 e => by have e' : i = g := e; omega)
     have hR4 := HR8.out.kept hk34 hne
     have hK4 := HK.out.then_ hk34
     exact y62
   ·
    rw [if_neg hb] at hP2
    have HS := hD (skN 124 124 rfl wo HP.out hb)
    have hz : Z = some (Rx.alt l, k) := by rw [HZ.out, ← hP2]
    subst hz
    clear hb hP2
    go_wp2_with fail
    refine HS.out.mono ?_
    rintro e w3 ⟨rfl, hp3, hk3⟩
    have hL3 := HL.out.kept hk3 (fun i h1 h2 e => by have e' : i = g := e; omega)
    have hR3 := HR8.out.kept hk3 hne
    have hK3 := HK.out.then_ hk3
    obtain ⟨A, c, hvv, hrd⟩ := kgy hL3.1
    subst hvv
    have hvs := hL3.2
    by_cases h1n : l.length = 1
    ·
     obtain ⟨r1, rfl⟩ : ∃ r1, l = [r1] := by
      match l, h1n with
      | [r1], _ => exact ⟨r1, rfl⟩
     obtain ⟨b, oo, rfl, hFb, hbb, hcc⟩ := hrd.2 (by simp)
     have hvs1 := hvs
     unfold RxVs RxVs at hvs1
     obtain ⟨cs, css', rfl, hv1, rfl⟩ := hvs1
     rw [List.append_nil] at hcc
     obtain ⟨kd, a0, a1, a2, a3, lo, hi, A', n, c', rfl⟩ := hv1.eight
     have y0 := hcc 0 _ rfl
     have y1 := hcc 1 _ rfl
     have y2 := hcc 2 _ rfl
     have y3 := hcc 3 _ rfl
     have y4 := hcc 4 _ rfl
     have y5 := hcc 5 _ rfl
     have y6 := hcc 6 _ rfl
     have y7 := hcc 7 _ rfl
     rw [Nat.add_zero] at y0
     have HVV := hD hv1
     clear hcc hrd hvs hL3 hv1
     simp only [List.length_singleton] at h1n ⊢
     exact y73
    ·
     obtain ⟨nl, hnl⟩ := xE l.length
     have t1 : ((nl : Int) == 1) = false := by simp; omega
     rw [← hnl] at hrd ⊢
     have HRD := hD hrd
     have HVS := hD hvs
     have hl2 : 2 ≤ nl := by omega
     have hl3 : nl ≤ k + 1 := by omega
     have HNL := hD hnl
     clear hrd hvs hL3 hnl h1n
     obtain ⟨⟨⟨c0, c1⟩, c2, c3⟩, ⟨c4, c5⟩, c6, c7⟩ := hR3.cells
     obtain ⟨⟨⟨f0, f1⟩, f2, f3⟩, ⟨f4, f5⟩, f6, f7⟩ := hR3.free
     have HZ := hD (hR3.all (.int .i64 4) (.int .u64 0) (.int .u64 0) (.int .u64 0) (.int .u64 0) (.int .i64 0) (.int .i64 0) (.slice A nl c))
     have HPP := hD (hp3.far8 (X := w.heap.size) (by omega) (.int .i64 4) (.int .u64 0) (.int .u64 0) (.int .u64 0) (.int .u64 0) (.int .i64 0) (.int .i64 0) (.slice A nl c))
     have HKK := hD (kaD hK3 (g := w.heap.size) (.inr (Nat.le_refl _)) (.int .i64 4) (.int .u64 0) (.int .u64 0) (.int .u64 0) (.int .u64 0) (.int .i64 0) (.int .i64 0) (.slice A nl c))
     clear hR3
     go_wp2_with fail
     obtain ⟨⟨⟨d0, d1⟩, d2, d3⟩, ⟨d4, d5⟩, d6, d7⟩ := HZ.out.cells
     unfold set8 at d0 d1 d2 d3 d4 d5 d6 d7
     refine bodyPost_ret (v := .agg #[.int .i64 4, .int .u64 0, .int .u64 0, .int .u64 0, .int .u64 0, .int .i64 0, .int .i64 0, .slice A nl c]) (by simp [results, Tryz.results90, go_sem, d0, d1, d2, d3, d4, d5, d6, d7]) rfl ?_
     refine ⟨_, rfl, ?_, HPP.out, HKK.out⟩
     have hks := kaD (Kept.refl (fun i => i = w.heap.size) w3) (g := w.heap.size) (.inl rfl) (.int .i64 4) (.int .u64 0) (.int .u64 0) (.int .u64 0) (.int .u64 0) (.int .i64 0) (.int .i64 0) (.slice A nl c)
     rw [Rx.alt_many (by have := HNL.out; omega)]
     unfold Rx.plain RxV
     rw [← HNL.out]
     refine ⟨A, c, css, rfl, HRD.out.keep (fun i hh hl => hks.block i hl (fun e => by have e' : i = w.heap.size := e; have hh' : w.heap.size + 1 ≤ i := hh; omega)) hks.size (fun i hh hl => ⟨by have hh' : w.heap.size + 1 ≤ i := hh; omega, Nat.lt_of_lt_of_le hl hks.size⟩), ?_⟩
     exact HVS.out.kept hks (fun i hh _ e => by have e' : i = w.heap.size := e; have hh' : w.heap.size + 1 ≤ i := hh.1; omega) (fun i hh hl => ⟨by have hh' : w.heap.size + 1 ≤ i := hh.1; omega, Nat.lt_of_lt_of_le hl hks.size⟩)
theorem kh7 {T : List UInt8} {g : Nat} : ∀ (n k : Nat) (w : World), PS T w g k → T.length - k < n → Calls Tryz.prog 90 #[.pointer (some ⟨g, 0, none⟩)] w (TRes T w g (kbW T n k))
 | 0, _, _, _, h => by omega
 | n + 1, k, w, h, hn => by
  have ih := kh7 (T := T) (g := g) n
  refine kl0 w (kbW T n) h (kc4 n) (fun k1 w1 hk h1 => ?_) _ rfl
  exact klh w1 (kbW T n) h1 (kc4 n) fun k2 w2 hk2 h2 => ih k2 w2 h2 (by have := h2.2.1; omega)
theorem y69 {P : Prop} (h : P := by
 go_enter Tryz.func139, Tryz.ntmps139
 go_wp2_with fail
 obtain ⟨w1, hw1⟩ := xE (w.setCell ⟨m, 0, none⟩ (.int .i64 ((s : Int) + 1)))
 rw [← hw1]
 have HM1 := hD (show Blk w1 m 195 #[.int .i64 ((s : Int) + 1)] by rw [hw1]; exact Blk.set_ HM.out 0 _)
 have HK1 := hD (show Kept (isG m) w w1 by rw [hw1]; exact (Kept.refl (isG m) w).setCell (p := ⟨m, 0, none⟩) (.inl rfl) _)
 clear hw1
 go_loopg [6, 7, 39] (ps.length + 1) (fun f p q i wr => NdRel w m s d (kcf kind) ps p q i wr ∧ ps.length - (intOf i).toNat < f)
 case atStart => exact ⟨⟨0, Nat.zero_le _, rfl, by rw [HBP.out]; rfl, rfl, by simpa [kaX] using HM1.out, by simp [kaX]; omega, fun j x h _ => by omega, HK1.out⟩, by simp [intOf]⟩
 first
 | guard_hyp t512q0
   case round =>
    have t484q0 := True.intro
    exact y41
 | case round =>
    exact y41) : P := h
theorem y41 {P : Prop} (h : P := by
 obtain ⟨⟨k, hk, rfl, rfl, rfl, hmk, hsk, hdk, hKk⟩, hfk⟩ := hrel
 have hbp := sum_bd Rx.posC kjv ps k (by omega)
 have hbw := sum_bd Rx.wriC kjm ps k (by omega)
 have hbase : kcf kind ≤ 1 := by unfold kcf; split <;> omega
 have HMK := hD hmk
 have HKK := hD hKk
 have HDK := hD hdk
 have hA8 := HA.out.kept hKk hbm
 have y0 := hA8.2 0 _ rfl
 have y5 := hA8.2 5 _ rfl
 have y6 := hA8.2 6 _ rfl
 have y7 := hA8.2 7 _ rfl
 rw [Nat.add_zero] at y0
 clear hmk hKk hdk hA8
 have hfk2 : ps.length - k < gk := by simpa [intOf] using hfk
 clear hfk
 by_cases hlt : k < ps.length
 ·
  obtain ⟨x, hx⟩ : ∃ x, ps[k]? = some x := ⟨_, List.getElem?_eq_getElem hlt⟩
  obtain ⟨cx, hvx, hcx⟩ := HVS.out.get k x hx
  obtain ⟨b', o', hA', hFb, hbb, hcc⟩ := HRD.out.2 (by omega)
  subst hA'
  have htx := kgq HTL.out hx
  have hszx := kj9 ps k x hx
  have hszle := sizeL_le ps (k + 1)
  have hxd := kkO hx
  have hb'm : b' ≠ m := fun e => hFm b' hFb e
  have hAx : At8 wr b' (o' + k * 8) cx := At8.kept (w := w) ⟨hbb, fun j u hu => by
   have := hcc (k * 8 + j) u (hcx j u hu)
   rw [show o' + k * 8 + j = o' + (k * 8 + j) by omega]
   exact this⟩ HKK.out (fun e => hb'm e)
  have hvr := hvx.kept HKK.out (fun i hi _ e => hFm i hi e) (fun i hi _ => hi)
  have HC := hD (ih x (by have := HSZ.out; omega) b' (o' + k * 8) cx wr (s + 1 + kaX (ps.take k)) (d + 1) F hvr hAx hb'm hFm HMK.out htx (by omega) (by omega))
  have HX := hD hx
  have hlast : k ≤ 300 := by have := kfp (ps.take k); rw [List.length_take] at this; omega
  clear hx hvx hcx hcc hbb hvr hAx htx
  by_cases hfit : kb1 (s + 1 + kaX (ps.take k)) (d + 1) x
  ·
   have HF := hD hfit
   have hf1 := hfit.1
   have hf2 := hfit.2
   have hpx := kjv x
   have hwx := kjm x
   clear hfit
   go_wp2_with fail
   refine HC.out.mono ?_
   rintro e w2 ⟨hok, _, hk2⟩
   obtain ⟨rfl, hm2⟩ := hok HF.out
   have HM2 := hD hm2
   have HK2 := hD (HKK.out.then_ hk2)
   clear hm2 hk2 hok y0 y5 y6 y7
   go_wp2_with fail
   go_roundg (ps.length - k)
   case measure => omega
   case rel =>
    refine ⟨⟨k + 1, hlt, rfl, ?_, ?_, ?_, by omega, fun j x' hj hx' => ?_, HK2.out⟩, by simp [intOf]; omega⟩
    ·
     rw [kgs Rx.posC ps k x HX.out]; congr 1; omega
    ·
     rw [kgs Rx.wriC ps k x HX.out]; congr 1
    ·
     rw [hszx, show s + 1 + (kaX (ps.take k) + x.size) = s + 1 + kaX (ps.take k) + x.size by omega]; exact HM2.out
    ·
     rcases Nat.lt_or_ge j k with hjk | hjk
     ·
      exact HDK.out j x' hjk hx'
     ·
      have : j = k := by omega
      subst this
      rw [HX.out] at hx'
      injection hx' with hx'
      subst hx'
      omega
  ·
   have HF := hD hfit
   have hnf : ¬ kb1 s d (.node kind u0 u1 u2 u3 lo hi ps) := fun h => hfit (by
    unfold kb1 Rx.size Rx.depth at h
    unfold kb1
    omega)
   have HNF := hD hnf
   clear hfit hnf
   go_wp2_with fail
   refine HC.out.mono ?_
   rintro e w2 ⟨_, hno, hk2⟩
   obtain rfl := hno HF.out
   have HK2 := hD (HKK.out.then_ hk2)
   clear hk2 hno y0 y5 y6 y7
   go_wp2_with fail
   go_ret3
   exact ⟨fun h => absurd h HNF.out, fun _ => rfl, HK2.out⟩
 first
 | guard_hyp t484q0
   ·
    have hke : k = ps.length := by omega
    subst hke
    have htk : ps.take ps.length = ps := List.take_length
    rw [htk] at hsk hbp hbw
    have HMK2 := hD (by have := HMK.out; rw [htk] at this; exact this)
    have HDF := hD (show kbr ps ≤ 32 - d from kgJ fun j x hx => by have := HDK.out j x (at_lt8 hx) hx; omega)
    have hfit : kb1 s d (.node kind u0 u1 u2 u3 lo hi ps) := by
     unfold kb1 Rx.size Rx.depth
     have := HDF.out
     omega
    have HFit := hD hfit
    have hPN := khM kind u0 u1 u2 u3 lo hi ps capM
    have hWN := khm kind u0 u1 u2 u3 lo hi ps capM
    have hPN2 : min (mulC kind lo hi (kcf kind + sumC Rx.posC ps)) capM = Rx.posC (.node kind u0 u1 u2 u3 lo hi ps) := hPN
    have hWN2 : min (mulC kind lo hi (sumC Rx.wriC ps) + 1) capM = Rx.wriC (.node kind u0 u1 u2 u3 lo hi ps) := hWN
    have HPN := hD hPN2
    have HWN := hD hWN2
    clear hPN hWN hPN2 hWN2 hfit HMK HDK
    rw [htk]
    clear htk
    generalize sumC Rx.posC ps = P at *
    generalize sumC Rx.wriC ps = Q at *
    generalize kcf kind = B0 at *
    have hcz : (copZ lo hi : Nat) ≤ 64 := by unfold copZ; split <;> omega
    have HC5 := hD (kkP b o lo hi wr y5 y6 hlo0 hlo hhi0 hhi)
    have HC5' := hD (show copZ lo hi = copZ lo hi from rfl)
    have m1 : (B0 + P) * copZ lo hi ≤ 268435457 * 64 := Nat.mul_le_mul (by omega) hcz
    have m2 : Q * copZ lo hi ≤ 268435456 * 64 := Nat.mul_le_mul (by omega) hcz
    have M1 : (((B0 + P : Nat) : Int)) * ((copZ lo hi : Nat) : Int) = (((B0 + P) * copZ lo hi : Nat) : Int) := by simp
    have M2 : (((Q : Nat) : Int)) * ((copZ lo hi : Nat) : Int) = ((Q * copZ lo hi : Nat) : Int) := by simp
    have hmul1 : mulC kind lo hi (B0 + P) = (B0 + P) * copZ lo hi := by unfold mulC; rw [if_pos HK5.out]
    have hmul2 : mulC kind lo hi Q = Q * copZ lo hi := by unfold mulC; rw [if_pos HK5.out]
    rw [hmul1] at HPN
    rw [hmul2] at HWN
    generalize (B0 + P) * copZ lo hi = PC at *
    generalize Q * copZ lo hi = QC at *
    clear hmul1 hmul2 HC5'
    generalize copZ lo hi = cz at *
    generalize B0 + P = BP at *
    go_wp2_with fail
    refine HC5.out.mono ?_
    rintro e w9 ⟨rfl, rfl⟩
    go_wp2_with fail
    refine HC5.out.mono ?_
    rintro e w9 ⟨rfl, rfl⟩
    go_wp2_with fail
    go_ret3
    refine ⟨fun _ => ⟨?_, by unfold Rx.size; rw [← Nat.add_assoc]; exact HMK2.out⟩, fun h => absurd HFit.out h, HKK.out⟩
    rw [← HPN.out, ← HWN.out]
    refine tup3 (ke1 _ _ ?_) (ke1 _ _ ?_)
    ·
     first | rfl | omega
    ·
     first | rfl | omega
 | ·
    have hke : k = ps.length := by omega
    subst hke
    have htk : ps.take ps.length = ps := List.take_length
    rw [htk] at hsk hbp hbw
    have HMK2 := hD (by have := HMK.out; rw [htk] at this; exact this)
    have HDF := hD (show kbr ps ≤ 32 - d from kgJ fun j x hx => by have := HDK.out j x (at_lt8 hx) hx; omega)
    have hfit : kb1 s d (.node kind u0 u1 u2 u3 lo hi ps) := by
     unfold kb1 Rx.size Rx.depth
     have := HDF.out
     omega
    have HFit := hD hfit
    have hPN := khM kind u0 u1 u2 u3 lo hi ps capM
    have hWN := khm kind u0 u1 u2 u3 lo hi ps capM
    have hPN2 : min (mulC kind lo hi (kcf kind + sumC Rx.posC ps)) capM = Rx.posC (.node kind u0 u1 u2 u3 lo hi ps) := hPN
    have hWN2 : min (mulC kind lo hi (sumC Rx.wriC ps) + 1) capM = Rx.wriC (.node kind u0 u1 u2 u3 lo hi ps) := hWN
    have HPN := hD hPN2
    have HWN := hD hWN2
    clear hPN hWN hPN2 hWN2 hfit HMK HDK
    rw [htk]
    clear htk
    generalize sumC Rx.posC ps = P at *
    generalize sumC Rx.wriC ps = Q at *
    generalize kcf kind = B0 at *
    have hmul1 : mulC kind lo hi (B0 + P) = B0 + P := by unfold mulC; rw [if_neg HK5.out]
    have hmul2 : mulC kind lo hi Q = Q := by unfold mulC; rw [if_neg HK5.out]
    rw [hmul1] at HPN
    rw [hmul2] at HWN
    clear hmul1 hmul2
    generalize B0 + P = BP at *
    go_wp2_with fail
    go_ret3
    refine ⟨fun _ => ⟨?_, by unfold Rx.size; rw [← Nat.add_assoc]; exact HMK2.out⟩, fun h => absurd HFit.out h, HKK.out⟩
    rw [← HPN.out, ← HWN.out]
    refine tup3 (ke1 _ _ ?_) (ke1 _ _ ?_)
    ·
     first | rfl | omega
    ·
     first | rfl | omega) : P := h
theorem kkP (b o : Nat) (lo hi : Int) (w : World) (c5 : w.cell? ⟨b, o + 5, none⟩ = some (.int .i64 lo)) (c6 : w.cell? ⟨b, o + 6, none⟩ = some (.int .i64 hi)) (h1 : 0 ≤ lo) (h2 : lo ≤ 64) (h3 : -1 ≤ hi) (h4 : hi ≤ 64) :
  Calls Tryz.prog 175 #[.pointer (some ⟨b, o, none⟩)] w fun e w' => e = .returned (.int .i64 (copZ lo hi)) ∧ w = w' := by
 by_cases hm : hi = -1
 ·
  have e1 : ((copZ lo hi : Nat) : Int) = max lo 1 := by
   unfold copZ
   rw [if_pos hm]
   omega
  rw [e1]
  subst hm
  clear e1
  go_enter Tryz.func175, Tryz.ntmps175
  go_wp2_with fail
  go_ret
  exact ⟨rfl, rfl⟩
 ·
  have e1 : ((copZ lo hi : Nat) : Int) = hi := by
   unfold copZ
   rw [if_neg hm]
   omega
  have t1 : (hi == -1) = false := by simpa using hm
  rw [e1]
  clear hm e1
  go_enter Tryz.func175, Tryz.ntmps175
  go_wp2_with fail
  go_ret
  exact ⟨rfl, rfl⟩
def kb1 (s d : Nat) (r : Rx) : Prop := s + r.size ≤ 256 ∧ d + r.depth ≤ 33
def NdEnd (w : World) (m s d : Nat) (r : Rx) (e : Ending) (w' : World) : Prop :=
 (kb1 s d r → e = .returned (.tuple #[.int .i64 r.posC, .int .i64 r.wriC, .bool true]) ∧ Blk w' m 195 #[.int .i64 ((s + r.size : Nat) : Int)]) ∧
 (¬ kb1 s d r → e = .returned (.tuple #[.int .i64 0, .int .i64 0, .bool false])) ∧ Kept (isG m) w w'
def At8 (w : World) (b o : Nat) (cs : List Value) : Prop := b < w.heap.size ∧ ∀ j u, cs[j]? = some u → w.cell? ⟨b, o + j, none⟩ = some u
theorem At8.kept {K : Nat → Prop} {w w' : World} {b o : Nat} {cs : List Value} (h : At8 w b o cs) (k : Kept K w w') (hb : ¬ K b) : At8 w' b o cs :=
 ⟨Nat.lt_of_lt_of_le h.1 k.size, fun j u hu => (k.cell (p := ⟨b, o + j, none⟩) h.1 hb).trans (h.2 j u hu)⟩
def NdRel (w : World) (m s d base : Nat) (ps : List Rx) (p q i : Value) (wr : World) : Prop :=
 ∃ k : Nat, k ≤ ps.length ∧ i = .int .i64 k ∧ p = .int .i64 ((base + sumC Rx.posC (ps.take k) : Nat) : Int) ∧ q = .int .i64 ((sumC Rx.wriC (ps.take k) : Nat) : Int) ∧ Blk wr m 195 #[.int .i64 ((s + 1 + kaX (ps.take k) : Nat) : Int)] ∧
  s + 1 + kaX (ps.take k) ≤ 256 ∧ (∀ (j : Nat) (x : Rx), j < k → ps[j]? = some x → d + 1 + x.depth ≤ 33) ∧ Kept (isG m) w wr
theorem kfp : ∀ l : List Rx, l.length ≤ kaX l
 | [] => by simp
 | r :: rs => by rw [kaX, List.length_cons]; have := kfp rs; have := r.size_pos; omega
theorem sum_bd (f : Rx → Nat) (hf : ∀ r, f r ≤ 1048576) (l : List Rx) (k : Nat) (h : kaX (l.take k) ≤ 256) : sumC f (l.take k) ≤ 268435456 := by
 have h1 := kjo f 1048576 hf (l.take k)
 have h2 := kfp (l.take k)
 have h3 : (l.take k).length * 1048576 ≤ 256 * 1048576 := Nat.mul_le_mul_right _ (by omega)
 omega
theorem kjv (r : Rx) : r.posC ≤ 1048576 := by unfold Rx.posC capM; omega
theorem kjm (r : Rx) : r.wriC ≤ 1048576 := by unfold Rx.wriC capM; omega
set_option maxHeartbeats 3000000
theorem node_big (m s d : Nat) (x : Value) (w : World) (hm : Blk w m 195 #[.int .i64 s]) (hs : s ≤ 300) (hd : d ≤ 40) (hb : 256 < s + 1 ∨ 32 < d) : Calls Tryz.prog 139 #[.pointer (some ⟨m, 0, none⟩), x, .int .i64 d] w fun e w' => e = .returned (.tuple #[.int .i64 0, .int .i64 0, .bool false]) ∧ Kept (isG m) w w' := by
 have c0 := hm.cell 0
 have f0 := hm.frozen 0
 simp only [gA, gB] at c0
 have HK := hD ((Kept.refl (isG m) w).setCell (p := ⟨m, 0, none⟩) (.inl rfl) (.int .i64 ((s : Int) + 1)))
 clear hm
 by_cases h1 : 256 < s + 1
 ·
  have t1 : decide (256 < (s : Int) + 1) = true := by simp; omega
  clear hb
  go_enter Tryz.func139, Tryz.ntmps139
  go_wp2_with fail
  go_ret3
  exact ⟨rfl, HK.out⟩
 ·
  have t1 : decide (256 < (s : Int) + 1) = false := by simp; omega
  have t2 : decide (32 < (d : Int)) = true := by simp; omega
  clear hb
  go_enter Tryz.func139, Tryz.ntmps139
  go_wp2_with fail
  go_ret3
  exact ⟨rfl, HK.out⟩
theorem tup3 {a b a' b' : Int} (h : a = a') (h2 : b = b') : Ending.returned (.tuple #[.int .i64 a, .int .i64 b, .bool true]) = .returned (.tuple #[.int .i64 a', .int .i64 b', .bool true]) := by rw [h, h2]
theorem ke1 (X : Nat) (x : Int) (h : x = (X : Int)) : min x 1048576 = ((min X capM : Nat) : Int) := by
 subst h
 have e : ((capM : Nat) : Int) = 1048576 := rfl
 rw [← e]
 omega
theorem at_lt8 {l : List Rx} {i : Nat} {x : Rx} (h : l[i]? = some x) : i < l.length := by
 rcases Nat.lt_or_ge i l.length with h1 | h1
 ·
  exact h1
 ·
  rw [List.getElem?_eq_none h1] at h; cases h
set_option maxRecDepth 100000
theorem khU (m : Nat) : ∀ (n : Nat) (r : Rx), r.size ≤ n → ∀ (b o : Nat) (cs : List Value) (w : World) (s d : Nat) (F : Nat → Prop), RxV w F r cs → At8 w b o cs → b ≠ m → (∀ i, F i → i ≠ m) → Blk w m 195 #[.int .i64 s] → r.tame → s ≤ 300 → d ≤ 40 →
  Calls Tryz.prog 139 #[.pointer (some ⟨m, 0, none⟩), .pointer (some ⟨b, o, none⟩), .int .i64 d] w (NdEnd w m s d r)
 | 0, r, hn, _, _, _, _, _, _, _, _, _, _, _, _, _, _, _ => by have := r.size_pos; omega
 | n + 1, .node kind u0 u1 u2 u3 lo hi ps, hn, b, o, cs, w, s, d, F, hv, hA, hbm, hFm, hm, ht, hs, hd => by
  have ih := khU m n
  by_cases hbig : 256 < s + 1 ∨ 32 < d
  ·
   have hnf : ¬ kb1 s d (.node kind u0 u1 u2 u3 lo hi ps) := fun h => by
    unfold kb1 Rx.size Rx.depth at h
    omega
   refine (node_big m s d _ w hm hs hd hbig).mono ?_
   rintro e w' ⟨rfl, hk⟩
   exact ⟨fun h => absurd h hnf, fun _ => rfl, hk⟩
  ·
   unfold RxV at hv
   obtain ⟨A, c, css, rfl, hrd, hvs⟩ := hv
   unfold Rx.tame at ht
   obtain ⟨hkd, _, _, _, _, hlo0, hlo, hhi0, hhi, htl⟩ := ht
   have hs1 : s + 1 ≤ 256 := by omega
   have hd1 : d ≤ 32 := by omega
   have y0 := hA.2 0 _ rfl
   have y7 := hA.2 7 _ rfl
   rw [Nat.add_zero] at y0
   have c0 := hm.cell 0
   have f0 := hm.frozen 0
   simp only [gA, gB] at c0
   have t1 : decide (256 < (s : Int) + 1) = false := by simp; omega
   have t2 : decide (32 < (d : Int)) = false := by simp; omega
   have hbm' : ¬ isG m b := fun e => hbm e
   have HSZ := hD (show 1 + kaX ps ≤ n + 1 from hn)
   have HM := hD hm
   have HA := hD hA
   have HRD := hD hrd
   have HVS := hD hvs
   have HTL := hD htl
   have hne : b ≠ m := hbm
   have hne2 : ¬ m = b := fun e => hbm e.symm
   clear hbig hm hA hrd hvs htl hn hbm
   have hbm := hbm'
   clear hbm'
   by_cases hk2 : kind = 2
   ·
    have q2 : ((kind : Int) == 2) = true := by subst hk2; rfl
    have q5 : ((kind : Int) == 5) = false := by subst hk2; rfl
    have HBP := hD (show kcf kind = 1 by unfold kcf; rw [if_pos hk2])
    have HK5 := hD (show ¬ kind = 5 by omega)
    clear hk2
    exact y69
   ·
    have q2 : ((kind : Int) == 2) = false := by simp; omega
    have HBP := hD (show kcf kind = 0 by unfold kcf; rw [if_neg hk2])
    by_cases hk5 : kind = 5
    ·
     have q5 : ((kind : Int) == 5) = true := by subst hk5; rfl
     have HK5 := hD hk5
     clear hk2 hk5
     have t512q0 := True.intro
     exact y69
    ·
     have q5 : ((kind : Int) == 5) = false := by simp; omega
     have HK5 := hD hk5
     clear hk2 hk5
     exact y69
set_option maxHeartbeats 2000000
theorem kkW (p q : Addr) (w : World) : CallsD Tryz.prog 89 #[.pointer (some p), .pointer (some q)] .returning w fun e u' w' => e = .returned (.tuple #[]) ∧ u' = .returning ∧ w' = w := by
 refine callsD_of_wpS Tryz.func89 rfl fun c₀ cs hu => ?_
 apply wpS_seq
 apply wpS_region
 simp [wpOpsS, go_sem, recoverD, hu, Tryz.ntmps89, Exit.thenS]
 refine wpS_cond (t := false) (by simp [Act.eval, Array.replicate]) ?_
 simp only [Bool.false_eq_true, if_false]
 refine wpS_of_wp (wp_skip ?_)
 cases c₀
 simp_all [bodyPostS, results, Tryz.results89]
theorem kdI (g h : Nat) (v0 v1 v2 v3 v4 v5 v6 v7 : Value) (er : Value) (u : TypeId) (pv : Value) (older : List PanicEntry) (w : World) (hR : R8 w g v0 v1 v2 v3 v4 v5 v6 v7) (hE : Blk w h 29 #[er]) :
  CallsD Tryz.prog 89 #[.pointer (some ⟨g, 0, none⟩), .pointer (some ⟨h, 0, none⟩)] (.panicking ({ v := .iface u pv, recovered := false } :: older)) w fun e u' w' =>
   e = .returned (.tuple #[]) ∧ u' = .panicking ({ v := .iface u pv, recovered := true } :: older) ∧ w' = (set8 w g (.int .i64 0) (.int .u64 0) (.int .u64 0) (.int .u64 0) (.int .u64 0) (.int .i64 0) (.int .i64 0) (.slice none 0 0)).setCell ⟨h, 0, none⟩ kbF := by
 have hgh2 : ¬ h = g := fun e => Blk.ne_ hR hE (by decide) e.symm
 obtain ⟨⟨⟨c0, c1⟩, c2, c3⟩, ⟨c4, c5⟩, c6, c7⟩ := hR.cells
 obtain ⟨⟨⟨f0, f1⟩, f2, f3⟩, ⟨f4, f5⟩, f6, f7⟩ := hR.free
 have e0 := hE.cell 0
 have e1 := hE.frozen 0
 simp only [gA, gB] at e0
 clear hR hE
 unfold kbF set8
 refine callsD_of_wpS Tryz.func89 rfl fun c₀ cs hu => ?_
 apply wpS_seq
 apply wpS_region
 simp [wpOpsS, go_sem, recoverD, hu, Tryz.ntmps89, Exit.thenS]
 refine wpS_cond (t := true) (by simp [Act.eval, Array.replicate]) ?_
 simp only [if_true]
 apply wpS_region
 simp [wpOpsS, go_sem, c0, c1, c2, c3, c4, c5, c6, c7, f0, f1, f2, f3, f4, f5, f6, f7, e0, e1, bodyPostS, results, Tryz.results89]
end Go.Proofs.YtamhdmkolfmmdaaGreatDoor
