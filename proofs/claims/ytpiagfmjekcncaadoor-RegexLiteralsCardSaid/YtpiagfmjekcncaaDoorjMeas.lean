/- The walks of regex.copies, meter.node, measure. -/
import Derived.Test.YtpiagfmjekcncaaDoorjExpr
set_option linter.unusedVariables false
set_option linter.unusedSimpArgs false
set_option linter.unusedSectionVars false
namespace Go.Proofs.YtpiagfmjekcncaaDoor
open Go.RowKit
theorem copies_any (b o : Nat) (lo hi : Int) (w : World) (c5 : w.cell? ⟨b, o + 5, none⟩ = some (.int .i64 lo)) (c6 : w.cell? ⟨b, o + 6, none⟩ = some (.int .i64 hi)) (h1 : 0 ≤ lo) (h2 : lo ≤ 64) (h3 : -1 ≤ hi) (h4 : hi ≤ 64) :
    Calls Tryd.prog 51 #[.pointer (some ⟨b, o, none⟩)] w fun e w' => e = .returned (.int .i64 (copZ lo hi)) ∧ w = w' := by
  by_cases hm : hi = -1
  · have e1 : ((copZ lo hi : Nat) : Int) = max lo 1 := by
      unfold copZ
      rw [if_pos hm]
      omega
    rw [e1]
    subst hm
    clear e1
    go_enter Tryd.func51, Tryd.ntmps51
    go_wp2_with fail
    go_ret
    exact ⟨rfl, rfl⟩
  · have e1 : ((copZ lo hi : Nat) : Int) = hi := by
      unfold copZ
      rw [if_neg hm]
      omega
    have t1 : (hi == -1) = false := by simpa using hm
    rw [e1]
    clear hm e1
    go_enter Tryd.func51, Tryd.ntmps51
    go_wp2_with fail
    go_ret
    exact ⟨rfl, rfl⟩
/-- Does a tree at a depth fit, where s nodes were counted before? -/
def fitsN (s d : Nat) (r : Rx) : Prop := s + r.size ≤ 256 ∧ d + r.depth ≤ 33
def NdEnd (w : World) (m s d : Nat) (r : Rx) (e : Ending) (w' : World) : Prop :=
  (fitsN s d r → e = .returned (.tuple #[.int .i64 r.posC, .int .i64 r.wriC, .bool true]) ∧ Blk w' m 80 #[.int .i64 ((s + r.size : Nat) : Int)]) ∧
  (¬ fitsN s d r → e = .returned (.tuple #[.int .i64 0, .int .i64 0, .bool false])) ∧ Kept (isG m) w w'
/-- A tree that lies at a place. -/
def At8 (w : World) (b o : Nat) (cs : List Value) : Prop := b < w.heap.size ∧ ∀ j u, cs[j]? = some u → w.cell? ⟨b, o + j, none⟩ = some u
theorem At8.kept {K : Nat → Prop} {w w' : World} {b o : Nat} {cs : List Value} (h : At8 w b o cs) (k : Kept K w w') (hb : ¬ K b) : At8 w' b o cs :=
  ⟨Nat.lt_of_lt_of_le h.1 k.size, fun j u hu => (k.cell (p := ⟨b, o + j, none⟩) h.1 hb).trans (h.2 j u hu)⟩
def NdRel (w : World) (m s d base : Nat) (ps : List Rx) (p q i : Value) (wr : World) : Prop :=
  ∃ k : Nat, k ≤ ps.length ∧ i = .int .i64 k ∧ p = .int .i64 ((base + sumC Rx.posC (ps.take k) : Nat) : Int) ∧ q = .int .i64 ((sumC Rx.wriC (ps.take k) : Nat) : Int) ∧ Blk wr m 80 #[.int .i64 ((s + 1 + sizeL (ps.take k) : Nat) : Int)] ∧
    s + 1 + sizeL (ps.take k) ≤ 256 ∧ (∀ (j : Nat) (x : Rx), j < k → ps[j]? = some x → d + 1 + x.depth ≤ 33) ∧ Kept (isG m) w wr
theorem sizeL_ge : ∀ l : List Rx, l.length ≤ sizeL l
  | [] => by simp
  | r :: rs => by rw [sizeL, List.length_cons]; have := sizeL_ge rs; have := r.size_pos; omega
theorem sum_bd (f : Rx → Nat) (hf : ∀ r, f r ≤ 1048576) (l : List Rx) (k : Nat) (h : sizeL (l.take k) ≤ 256) : sumC f (l.take k) ≤ 268435456 := by
  have h1 := sumC_le f 1048576 hf (l.take k)
  have h2 := sizeL_ge (l.take k)
  have h3 : (l.take k).length * 1048576 ≤ 256 * 1048576 := Nat.mul_le_mul_right _ (by omega)
  omega
theorem posC_le (r : Rx) : r.posC ≤ 1048576 := by unfold Rx.posC capM; omega
theorem wriC_le (r : Rx) : r.wriC ≤ 1048576 := by unfold Rx.wriC capM; omega
set_option maxHeartbeats 3000000
theorem node_big (m s d : Nat) (x : Value) (w : World) (hm : Blk w m 80 #[.int .i64 s]) (hs : s ≤ 300) (hd : d ≤ 40) (hb : 256 < s + 1 ∨ 32 < d) : Calls Tryd.prog 34 #[.pointer (some ⟨m, 0, none⟩), x, .int .i64 d] w fun e w' => e = .returned (.tuple #[.int .i64 0, .int .i64 0, .bool false]) ∧ Kept (isG m) w w' := by
  have c0 := hm.cell 0
  have f0 := hm.frozen 0
  simp only [List.getElem?_toArray, List.getElem?_cons_zero] at c0
  have HK := Lib.hid ((Kept.refl (isG m) w).setCell (p := ⟨m, 0, none⟩) (.inl rfl) (.int .i64 ((s : Int) + 1)))
  clear hm
  by_cases h1 : 256 < s + 1
  · have t1 : decide (256 < (s : Int) + 1) = true := by simp; omega
    clear hb
    go_enter Tryd.func34, Tryd.ntmps34
    go_wp2_with fail
    go_ret3
    exact ⟨rfl, HK.out⟩
  · have t1 : decide (256 < (s : Int) + 1) = false := by simp; omega
    have t2 : decide (32 < (d : Int)) = true := by simp; omega
    clear hb
    go_enter Tryd.func34, Tryd.ntmps34
    go_wp2_with fail
    go_ret3
    exact ⟨rfl, HK.out⟩
theorem tup3 {a b a' b' : Int} (h : a = a') (h2 : b = b') : Ending.returned (.tuple #[.int .i64 a, .int .i64 b, .bool true]) = .returned (.tuple #[.int .i64 a', .int .i64 b', .bool true]) := by rw [h, h2]
theorem min_cap (X : Nat) (x : Int) (h : x = (X : Int)) : min x 1048576 = ((min X capM : Nat) : Int) := by
  subst h
  have e : ((capM : Nat) : Int) = 1048576 := rfl
  rw [← e]
  omega
theorem at_lt8 {l : List Rx} {i : Nat} {x : Rx} (h : l[i]? = some x) : i < l.length := by
  rcases Nat.lt_or_ge i l.length with h1 | h1
  · exact h1
  · rw [List.getElem?_eq_none h1] at h; cases h
set_option maxRecDepth 100000
theorem node_any (m : Nat) : ∀ (n : Nat) (r : Rx), r.size ≤ n → ∀ (b o : Nat) (cs : List Value) (w : World) (s d : Nat) (F : Nat → Prop), RxV w F r cs → At8 w b o cs → b ≠ m → (∀ i, F i → i ≠ m) → Blk w m 80 #[.int .i64 s] → r.tame → s ≤ 300 → d ≤ 40 →
    Calls Tryd.prog 34 #[.pointer (some ⟨m, 0, none⟩), .pointer (some ⟨b, o, none⟩), .int .i64 d] w (NdEnd w m s d r)
  | 0, r, hn, _, _, _, _, _, _, _, _, _, _, _, _, _, _, _ => by have := r.size_pos; omega
  | n + 1, .node kind u0 u1 u2 u3 lo hi ps, hn, b, o, cs, w, s, d, F, hv, hA, hbm, hFm, hm, ht, hs, hd => by
    have ih := node_any m n
    by_cases hbig : 256 < s + 1 ∨ 32 < d
    · have hnf : ¬ fitsN s d (.node kind u0 u1 u2 u3 lo hi ps) := fun h => by
        unfold fitsN Rx.size Rx.depth at h
        omega
      refine (node_big m s d _ w hm hs hd hbig).mono ?_
      rintro e w' ⟨rfl, hk⟩
      exact ⟨fun h => absurd h hnf, fun _ => rfl, hk⟩
    · unfold RxV at hv
      obtain ⟨A, c, css, rfl, hrd, hvs⟩ := hv
      unfold Rx.tame at ht
      obtain ⟨hkd, _, _, _, _, hlo0, hlo, hhi0, hhi, htl⟩ := ht
      have hs1 : s + 1 ≤ 256 := by omega
      have hd1 : d ≤ 32 := by omega
      have y0 := hA.2 0 _ rfl
      have y7 := hA.2 7 _ rfl
      rw [Nat.add_zero] at y0
      have c0 := hm.cell 0
      have f0 := hm.frozen 0
      simp only [List.getElem?_toArray, List.getElem?_cons_zero] at c0
      have t1 : decide (256 < (s : Int) + 1) = false := by simp; omega
      have t2 : decide (32 < (d : Int)) = false := by simp; omega
      have hbm' : ¬ isG m b := fun e => hbm e
      have HSZ := Lib.hid (show 1 + sizeL ps ≤ n + 1 from hn)
      have HM := Lib.hid hm
      have HA := Lib.hid hA
      have HRD := Lib.hid hrd
      have HVS := Lib.hid hvs
      have HTL := Lib.hid htl
      have hne : b ≠ m := hbm
      have hne2 : ¬ m = b := fun e => hbm e.symm
      clear hbig hm hA hrd hvs htl hn hbm
      have hbm := hbm'
      clear hbm'
      by_cases hk2 : kind = 2
      · have q2 : ((kind : Int) == 2) = true := by subst hk2; rfl
        have q5 : ((kind : Int) == 5) = false := by subst hk2; rfl
        have HBP := Lib.hid (show baseP kind = 1 by unfold baseP; rw [if_pos hk2])
        have HK5 := Lib.hid (show ¬ kind = 5 by omega)
        clear hk2
        go_enter Tryd.func34, Tryd.ntmps34
        go_wp2_with fail
        obtain ⟨w1, hw1⟩ : ∃ w1, w1 = w.setCell ⟨m, 0, none⟩ (.int .i64 ((s : Int) + 1)) := ⟨_, rfl⟩
        rw [← hw1]
        have HM1 := Lib.hid (show Blk w1 m 80 #[.int .i64 ((s : Int) + 1)] by rw [hw1]; exact Blk.set_ HM.out 0 _)
        have HK1 := Lib.hid (show Kept (isG m) w w1 by rw [hw1]; exact (Kept.refl (isG m) w).setCell (p := ⟨m, 0, none⟩) (.inl rfl) _)
        clear hw1
        go_loopg [6, 7, 39] (ps.length + 1) (fun f p q i wr => NdRel w m s d (baseP kind) ps p q i wr ∧ ps.length - (intOf i).toNat < f)
        case atStart => exact ⟨⟨0, Nat.zero_le _, rfl, by rw [HBP.out]; rfl, rfl, by simpa [sizeL] using HM1.out, by simp [sizeL]; omega, fun j x h _ => by omega, HK1.out⟩, by simp [intOf]⟩
        case round =>
          obtain ⟨⟨k, hk, rfl, rfl, rfl, hmk, hsk, hdk, hKk⟩, hfk⟩ := hrel
          have hbp := sum_bd Rx.posC posC_le ps k (by omega)
          have hbw := sum_bd Rx.wriC wriC_le ps k (by omega)
          have hbase : baseP kind ≤ 1 := by unfold baseP; split <;> omega
          have HMK := Lib.hid hmk
          have HKK := Lib.hid hKk
          have HDK := Lib.hid hdk
          have hA8 := HA.out.kept hKk hbm
          have y0 := hA8.2 0 _ rfl
          have y5 := hA8.2 5 _ rfl
          have y6 := hA8.2 6 _ rfl
          have y7 := hA8.2 7 _ rfl
          rw [Nat.add_zero] at y0
          clear hmk hKk hdk hA8
          have hfk2 : ps.length - k < gk := by simpa [intOf] using hfk
          clear hfk
          by_cases hlt : k < ps.length
          · obtain ⟨x, hx⟩ : ∃ x, ps[k]? = some x := ⟨_, List.getElem?_eq_getElem hlt⟩
            obtain ⟨cx, hvx, hcx⟩ := HVS.out.get k x hx
            obtain ⟨b', o', hA', hFb, hbb, hcc⟩ := HRD.out.2 (by omega)
            subst hA'
            have htx := tameL_get HTL.out hx
            have hszx := sizeL_take ps k x hx
            have hszle := sizeL_le ps (k + 1)
            have hxd := depthL_get hx
            have hb'm : b' ≠ m := fun e => hFm b' hFb e
            have hAx : At8 wr b' (o' + k * 8) cx := At8.kept (w := w) ⟨hbb, fun j u hu => by
              have := hcc (k * 8 + j) u (hcx j u hu)
              rw [show o' + k * 8 + j = o' + (k * 8 + j) by omega]
              exact this⟩ HKK.out (fun e => hb'm e)
            have hvr := hvx.kept HKK.out (fun i hi _ e => hFm i hi e) (fun i hi _ => hi)
            have HC := Lib.hid (ih x (by have := HSZ.out; omega) b' (o' + k * 8) cx wr (s + 1 + sizeL (ps.take k)) (d + 1) F hvr hAx hb'm hFm HMK.out htx (by omega) (by omega))
            have HX := Lib.hid hx
            have hlast : k ≤ 300 := by have := sizeL_ge (ps.take k); rw [List.length_take] at this; omega
            clear hx hvx hcx hcc hbb hvr hAx htx
            by_cases hfit : fitsN (s + 1 + sizeL (ps.take k)) (d + 1) x
            · have HF := Lib.hid hfit
              have hf1 := hfit.1
              have hf2 := hfit.2
              have hpx := posC_le x
              have hwx := wriC_le x
              clear hfit
              go_wp2_with fail
              refine HC.out.mono ?_
              rintro e w2 ⟨hok, _, hk2⟩
              obtain ⟨rfl, hm2⟩ := hok HF.out
              have HM2 := Lib.hid hm2
              have HK2 := Lib.hid (HKK.out.then_ hk2)
              clear hm2 hk2 hok y0 y5 y6 y7
              go_wp2_with fail
              go_roundg (ps.length - k)
              case measure => omega
              case rel =>
                refine ⟨⟨k + 1, hlt, rfl, ?_, ?_, ?_, by omega, fun j x' hj hx' => ?_, HK2.out⟩, by simp [intOf]; omega⟩
                · rw [sumC_take Rx.posC ps k x HX.out]; congr 1; omega
                · rw [sumC_take Rx.wriC ps k x HX.out]; congr 1
                · rw [hszx, show s + 1 + (sizeL (ps.take k) + x.size) = s + 1 + sizeL (ps.take k) + x.size by omega]; exact HM2.out
                · rcases Nat.lt_or_ge j k with hjk | hjk
                  · exact HDK.out j x' hjk hx'
                  · have : j = k := by omega
                    subst this
                    rw [HX.out] at hx'
                    injection hx' with hx'
                    subst hx'
                    omega
            · have HF := Lib.hid hfit
              have hnf : ¬ fitsN s d (.node kind u0 u1 u2 u3 lo hi ps) := fun h => hfit (by
                unfold fitsN Rx.size Rx.depth at h
                unfold fitsN
                omega)
              have HNF := Lib.hid hnf
              clear hfit hnf
              go_wp2_with fail
              refine HC.out.mono ?_
              rintro e w2 ⟨_, hno, hk2⟩
              obtain rfl := hno HF.out
              have HK2 := Lib.hid (HKK.out.then_ hk2)
              clear hk2 hno y0 y5 y6 y7
              go_wp2_with fail
              go_ret3
              exact ⟨fun h => absurd h HNF.out, fun _ => rfl, HK2.out⟩
          · have hke : k = ps.length := by omega
            subst hke
            have htk : ps.take ps.length = ps := List.take_length
            rw [htk] at hsk hbp hbw
            have HMK2 := Lib.hid (by have := HMK.out; rw [htk] at this; exact this)
            have HDF := Lib.hid (show depthL ps ≤ 32 - d from depthL_le fun j x hx => by have := HDK.out j x (at_lt8 hx) hx; omega)
            have hfit : fitsN s d (.node kind u0 u1 u2 u3 lo hi ps) := by
              unfold fitsN Rx.size Rx.depth
              have := HDF.out
              omega
            have HFit := Lib.hid hfit
            have hPN := pos_node kind u0 u1 u2 u3 lo hi ps capM
            have hWN := wri_node kind u0 u1 u2 u3 lo hi ps capM
            have hPN2 : min (mulC kind lo hi (baseP kind + sumC Rx.posC ps)) capM = Rx.posC (.node kind u0 u1 u2 u3 lo hi ps) := hPN
            have hWN2 : min (mulC kind lo hi (sumC Rx.wriC ps) + 1) capM = Rx.wriC (.node kind u0 u1 u2 u3 lo hi ps) := hWN
            have HPN := Lib.hid hPN2
            have HWN := Lib.hid hWN2
            clear hPN hWN hPN2 hWN2 hfit HMK HDK
            rw [htk]
            clear htk
            generalize sumC Rx.posC ps = P at *
            generalize sumC Rx.wriC ps = Q at *
            generalize baseP kind = B0 at *
            have hmul1 : mulC kind lo hi (B0 + P) = B0 + P := by unfold mulC; rw [if_neg HK5.out]
            have hmul2 : mulC kind lo hi Q = Q := by unfold mulC; rw [if_neg HK5.out]
            rw [hmul1] at HPN
            rw [hmul2] at HWN
            clear hmul1 hmul2
            generalize B0 + P = BP at *
            go_wp2_with fail
            go_ret3
            refine ⟨fun _ => ⟨?_, by unfold Rx.size; rw [← Nat.add_assoc]; exact HMK2.out⟩, fun h => absurd HFit.out h, HKK.out⟩
            rw [← HPN.out, ← HWN.out]
            refine tup3 (min_cap _ _ ?_) (min_cap _ _ ?_)
            · first | rfl | omega
            · first | rfl | omega
      · have q2 : ((kind : Int) == 2) = false := by simp; omega
        have HBP := Lib.hid (show baseP kind = 0 by unfold baseP; rw [if_neg hk2])
        by_cases hk5 : kind = 5
        · have q5 : ((kind : Int) == 5) = true := by subst hk5; rfl
          have HK5 := Lib.hid hk5
          clear hk2 hk5
          go_enter Tryd.func34, Tryd.ntmps34
          go_wp2_with fail
          obtain ⟨w1, hw1⟩ : ∃ w1, w1 = w.setCell ⟨m, 0, none⟩ (.int .i64 ((s : Int) + 1)) := ⟨_, rfl⟩
          rw [← hw1]
          have HM1 := Lib.hid (show Blk w1 m 80 #[.int .i64 ((s : Int) + 1)] by rw [hw1]; exact Blk.set_ HM.out 0 _)
          have HK1 := Lib.hid (show Kept (isG m) w w1 by rw [hw1]; exact (Kept.refl (isG m) w).setCell (p := ⟨m, 0, none⟩) (.inl rfl) _)
          clear hw1
          go_loopg [6, 7, 39] (ps.length + 1) (fun f p q i wr => NdRel w m s d (baseP kind) ps p q i wr ∧ ps.length - (intOf i).toNat < f)
          case atStart => exact ⟨⟨0, Nat.zero_le _, rfl, by rw [HBP.out]; rfl, rfl, by simpa [sizeL] using HM1.out, by simp [sizeL]; omega, fun j x h _ => by omega, HK1.out⟩, by simp [intOf]⟩
          case round =>
            obtain ⟨⟨k, hk, rfl, rfl, rfl, hmk, hsk, hdk, hKk⟩, hfk⟩ := hrel
            have hbp := sum_bd Rx.posC posC_le ps k (by omega)
            have hbw := sum_bd Rx.wriC wriC_le ps k (by omega)
            have hbase : baseP kind ≤ 1 := by unfold baseP; split <;> omega
            have HMK := Lib.hid hmk
            have HKK := Lib.hid hKk
            have HDK := Lib.hid hdk
            have hA8 := HA.out.kept hKk hbm
            have y0 := hA8.2 0 _ rfl
            have y5 := hA8.2 5 _ rfl
            have y6 := hA8.2 6 _ rfl
            have y7 := hA8.2 7 _ rfl
            rw [Nat.add_zero] at y0
            clear hmk hKk hdk hA8
            have hfk2 : ps.length - k < gk := by simpa [intOf] using hfk
            clear hfk
            by_cases hlt : k < ps.length
            · obtain ⟨x, hx⟩ : ∃ x, ps[k]? = some x := ⟨_, List.getElem?_eq_getElem hlt⟩
              obtain ⟨cx, hvx, hcx⟩ := HVS.out.get k x hx
              obtain ⟨b', o', hA', hFb, hbb, hcc⟩ := HRD.out.2 (by omega)
              subst hA'
              have htx := tameL_get HTL.out hx
              have hszx := sizeL_take ps k x hx
              have hszle := sizeL_le ps (k + 1)
              have hxd := depthL_get hx
              have hb'm : b' ≠ m := fun e => hFm b' hFb e
              have hAx : At8 wr b' (o' + k * 8) cx := At8.kept (w := w) ⟨hbb, fun j u hu => by
                have := hcc (k * 8 + j) u (hcx j u hu)
                rw [show o' + k * 8 + j = o' + (k * 8 + j) by omega]
                exact this⟩ HKK.out (fun e => hb'm e)
              have hvr := hvx.kept HKK.out (fun i hi _ e => hFm i hi e) (fun i hi _ => hi)
              have HC := Lib.hid (ih x (by have := HSZ.out; omega) b' (o' + k * 8) cx wr (s + 1 + sizeL (ps.take k)) (d + 1) F hvr hAx hb'm hFm HMK.out htx (by omega) (by omega))
              have HX := Lib.hid hx
              have hlast : k ≤ 300 := by have := sizeL_ge (ps.take k); rw [List.length_take] at this; omega
              clear hx hvx hcx hcc hbb hvr hAx htx
              by_cases hfit : fitsN (s + 1 + sizeL (ps.take k)) (d + 1) x
              · have HF := Lib.hid hfit
                have hf1 := hfit.1
                have hf2 := hfit.2
                have hpx := posC_le x
                have hwx := wriC_le x
                clear hfit
                go_wp2_with fail
                refine HC.out.mono ?_
                rintro e w2 ⟨hok, _, hk2⟩
                obtain ⟨rfl, hm2⟩ := hok HF.out
                have HM2 := Lib.hid hm2
                have HK2 := Lib.hid (HKK.out.then_ hk2)
                clear hm2 hk2 hok y0 y5 y6 y7
                go_wp2_with fail
                go_roundg (ps.length - k)
                case measure => omega
                case rel =>
                  refine ⟨⟨k + 1, hlt, rfl, ?_, ?_, ?_, by omega, fun j x' hj hx' => ?_, HK2.out⟩, by simp [intOf]; omega⟩
                  · rw [sumC_take Rx.posC ps k x HX.out]; congr 1; omega
                  · rw [sumC_take Rx.wriC ps k x HX.out]; congr 1
                  · rw [hszx, show s + 1 + (sizeL (ps.take k) + x.size) = s + 1 + sizeL (ps.take k) + x.size by omega]; exact HM2.out
                  · rcases Nat.lt_or_ge j k with hjk | hjk
                    · exact HDK.out j x' hjk hx'
                    · have : j = k := by omega
                      subst this
                      rw [HX.out] at hx'
                      injection hx' with hx'
                      subst hx'
                      omega
              · have HF := Lib.hid hfit
                have hnf : ¬ fitsN s d (.node kind u0 u1 u2 u3 lo hi ps) := fun h => hfit (by
                  unfold fitsN Rx.size Rx.depth at h
                  unfold fitsN
                  omega)
                have HNF := Lib.hid hnf
                clear hfit hnf
                go_wp2_with fail
                refine HC.out.mono ?_
                rintro e w2 ⟨_, hno, hk2⟩
                obtain rfl := hno HF.out
                have HK2 := Lib.hid (HKK.out.then_ hk2)
                clear hk2 hno y0 y5 y6 y7
                go_wp2_with fail
                go_ret3
                exact ⟨fun h => absurd h HNF.out, fun _ => rfl, HK2.out⟩
            · have hke : k = ps.length := by omega
              subst hke
              have htk : ps.take ps.length = ps := List.take_length
              rw [htk] at hsk hbp hbw
              have HMK2 := Lib.hid (by have := HMK.out; rw [htk] at this; exact this)
              have HDF := Lib.hid (show depthL ps ≤ 32 - d from depthL_le fun j x hx => by have := HDK.out j x (at_lt8 hx) hx; omega)
              have hfit : fitsN s d (.node kind u0 u1 u2 u3 lo hi ps) := by
                unfold fitsN Rx.size Rx.depth
                have := HDF.out
                omega
              have HFit := Lib.hid hfit
              have hPN := pos_node kind u0 u1 u2 u3 lo hi ps capM
              have hWN := wri_node kind u0 u1 u2 u3 lo hi ps capM
              have hPN2 : min (mulC kind lo hi (baseP kind + sumC Rx.posC ps)) capM = Rx.posC (.node kind u0 u1 u2 u3 lo hi ps) := hPN
              have hWN2 : min (mulC kind lo hi (sumC Rx.wriC ps) + 1) capM = Rx.wriC (.node kind u0 u1 u2 u3 lo hi ps) := hWN
              have HPN := Lib.hid hPN2
              have HWN := Lib.hid hWN2
              clear hPN hWN hPN2 hWN2 hfit HMK HDK
              rw [htk]
              clear htk
              generalize sumC Rx.posC ps = P at *
              generalize sumC Rx.wriC ps = Q at *
              generalize baseP kind = B0 at *
              have hcz : (copZ lo hi : Nat) ≤ 64 := by unfold copZ; split <;> omega
              have HC5 := Lib.hid (copies_any b o lo hi wr y5 y6 hlo0 hlo hhi0 hhi)
              have HC5' := Lib.hid (show copZ lo hi = copZ lo hi from rfl)
              have m1 : (B0 + P) * copZ lo hi ≤ 268435457 * 64 := Nat.mul_le_mul (by omega) hcz
              have m2 : Q * copZ lo hi ≤ 268435456 * 64 := Nat.mul_le_mul (by omega) hcz
              have M1 : (((B0 + P : Nat) : Int)) * ((copZ lo hi : Nat) : Int) = (((B0 + P) * copZ lo hi : Nat) : Int) := by simp
              have M2 : (((Q : Nat) : Int)) * ((copZ lo hi : Nat) : Int) = ((Q * copZ lo hi : Nat) : Int) := by simp
              have hmul1 : mulC kind lo hi (B0 + P) = (B0 + P) * copZ lo hi := by unfold mulC; rw [if_pos HK5.out]
              have hmul2 : mulC kind lo hi Q = Q * copZ lo hi := by unfold mulC; rw [if_pos HK5.out]
              rw [hmul1] at HPN
              rw [hmul2] at HWN
              generalize (B0 + P) * copZ lo hi = PC at *
              generalize Q * copZ lo hi = QC at *
              clear hmul1 hmul2 HC5'
              generalize copZ lo hi = cz at *
              generalize B0 + P = BP at *
              go_wp2_with fail
              refine HC5.out.mono ?_
              rintro e w9 ⟨rfl, rfl⟩
              go_wp2_with fail
              refine HC5.out.mono ?_
              rintro e w9 ⟨rfl, rfl⟩
              go_wp2_with fail
              go_ret3
              refine ⟨fun _ => ⟨?_, by unfold Rx.size; rw [← Nat.add_assoc]; exact HMK2.out⟩, fun h => absurd HFit.out h, HKK.out⟩
              rw [← HPN.out, ← HWN.out]
              refine tup3 (min_cap _ _ ?_) (min_cap _ _ ?_)
              · first | rfl | omega
              · first | rfl | omega
        · have q5 : ((kind : Int) == 5) = false := by simp; omega
          have HK5 := Lib.hid hk5
          clear hk2 hk5
          go_enter Tryd.func34, Tryd.ntmps34
          go_wp2_with fail
          obtain ⟨w1, hw1⟩ : ∃ w1, w1 = w.setCell ⟨m, 0, none⟩ (.int .i64 ((s : Int) + 1)) := ⟨_, rfl⟩
          rw [← hw1]
          have HM1 := Lib.hid (show Blk w1 m 80 #[.int .i64 ((s : Int) + 1)] by rw [hw1]; exact Blk.set_ HM.out 0 _)
          have HK1 := Lib.hid (show Kept (isG m) w w1 by rw [hw1]; exact (Kept.refl (isG m) w).setCell (p := ⟨m, 0, none⟩) (.inl rfl) _)
          clear hw1
          go_loopg [6, 7, 39] (ps.length + 1) (fun f p q i wr => NdRel w m s d (baseP kind) ps p q i wr ∧ ps.length - (intOf i).toNat < f)
          case atStart => exact ⟨⟨0, Nat.zero_le _, rfl, by rw [HBP.out]; rfl, rfl, by simpa [sizeL] using HM1.out, by simp [sizeL]; omega, fun j x h _ => by omega, HK1.out⟩, by simp [intOf]⟩
          case round =>
            obtain ⟨⟨k, hk, rfl, rfl, rfl, hmk, hsk, hdk, hKk⟩, hfk⟩ := hrel
            have hbp := sum_bd Rx.posC posC_le ps k (by omega)
            have hbw := sum_bd Rx.wriC wriC_le ps k (by omega)
            have hbase : baseP kind ≤ 1 := by unfold baseP; split <;> omega
            have HMK := Lib.hid hmk
            have HKK := Lib.hid hKk
            have HDK := Lib.hid hdk
            have hA8 := HA.out.kept hKk hbm
            have y0 := hA8.2 0 _ rfl
            have y5 := hA8.2 5 _ rfl
            have y6 := hA8.2 6 _ rfl
            have y7 := hA8.2 7 _ rfl
            rw [Nat.add_zero] at y0
            clear hmk hKk hdk hA8
            have hfk2 : ps.length - k < gk := by simpa [intOf] using hfk
            clear hfk
            by_cases hlt : k < ps.length
            · obtain ⟨x, hx⟩ : ∃ x, ps[k]? = some x := ⟨_, List.getElem?_eq_getElem hlt⟩
              obtain ⟨cx, hvx, hcx⟩ := HVS.out.get k x hx
              obtain ⟨b', o', hA', hFb, hbb, hcc⟩ := HRD.out.2 (by omega)
              subst hA'
              have htx := tameL_get HTL.out hx
              have hszx := sizeL_take ps k x hx
              have hszle := sizeL_le ps (k + 1)
              have hxd := depthL_get hx
              have hb'm : b' ≠ m := fun e => hFm b' hFb e
              have hAx : At8 wr b' (o' + k * 8) cx := At8.kept (w := w) ⟨hbb, fun j u hu => by
                have := hcc (k * 8 + j) u (hcx j u hu)
                rw [show o' + k * 8 + j = o' + (k * 8 + j) by omega]
                exact this⟩ HKK.out (fun e => hb'm e)
              have hvr := hvx.kept HKK.out (fun i hi _ e => hFm i hi e) (fun i hi _ => hi)
              have HC := Lib.hid (ih x (by have := HSZ.out; omega) b' (o' + k * 8) cx wr (s + 1 + sizeL (ps.take k)) (d + 1) F hvr hAx hb'm hFm HMK.out htx (by omega) (by omega))
              have HX := Lib.hid hx
              have hlast : k ≤ 300 := by have := sizeL_ge (ps.take k); rw [List.length_take] at this; omega
              clear hx hvx hcx hcc hbb hvr hAx htx
              by_cases hfit : fitsN (s + 1 + sizeL (ps.take k)) (d + 1) x
              · have HF := Lib.hid hfit
                have hf1 := hfit.1
                have hf2 := hfit.2
                have hpx := posC_le x
                have hwx := wriC_le x
                clear hfit
                go_wp2_with fail
                refine HC.out.mono ?_
                rintro e w2 ⟨hok, _, hk2⟩
                obtain ⟨rfl, hm2⟩ := hok HF.out
                have HM2 := Lib.hid hm2
                have HK2 := Lib.hid (HKK.out.then_ hk2)
                clear hm2 hk2 hok y0 y5 y6 y7
                go_wp2_with fail
                go_roundg (ps.length - k)
                case measure => omega
                case rel =>
                  refine ⟨⟨k + 1, hlt, rfl, ?_, ?_, ?_, by omega, fun j x' hj hx' => ?_, HK2.out⟩, by simp [intOf]; omega⟩
                  · rw [sumC_take Rx.posC ps k x HX.out]; congr 1; omega
                  · rw [sumC_take Rx.wriC ps k x HX.out]; congr 1
                  · rw [hszx, show s + 1 + (sizeL (ps.take k) + x.size) = s + 1 + sizeL (ps.take k) + x.size by omega]; exact HM2.out
                  · rcases Nat.lt_or_ge j k with hjk | hjk
                    · exact HDK.out j x' hjk hx'
                    · have : j = k := by omega
                      subst this
                      rw [HX.out] at hx'
                      injection hx' with hx'
                      subst hx'
                      omega
              · have HF := Lib.hid hfit
                have hnf : ¬ fitsN s d (.node kind u0 u1 u2 u3 lo hi ps) := fun h => hfit (by
                  unfold fitsN Rx.size Rx.depth at h
                  unfold fitsN
                  omega)
                have HNF := Lib.hid hnf
                clear hfit hnf
                go_wp2_with fail
                refine HC.out.mono ?_
                rintro e w2 ⟨_, hno, hk2⟩
                obtain rfl := hno HF.out
                have HK2 := Lib.hid (HKK.out.then_ hk2)
                clear hk2 hno y0 y5 y6 y7
                go_wp2_with fail
                go_ret3
                exact ⟨fun h => absurd h HNF.out, fun _ => rfl, HK2.out⟩
            · have hke : k = ps.length := by omega
              subst hke
              have htk : ps.take ps.length = ps := List.take_length
              rw [htk] at hsk hbp hbw
              have HMK2 := Lib.hid (by have := HMK.out; rw [htk] at this; exact this)
              have HDF := Lib.hid (show depthL ps ≤ 32 - d from depthL_le fun j x hx => by have := HDK.out j x (at_lt8 hx) hx; omega)
              have hfit : fitsN s d (.node kind u0 u1 u2 u3 lo hi ps) := by
                unfold fitsN Rx.size Rx.depth
                have := HDF.out
                omega
              have HFit := Lib.hid hfit
              have hPN := pos_node kind u0 u1 u2 u3 lo hi ps capM
              have hWN := wri_node kind u0 u1 u2 u3 lo hi ps capM
              have hPN2 : min (mulC kind lo hi (baseP kind + sumC Rx.posC ps)) capM = Rx.posC (.node kind u0 u1 u2 u3 lo hi ps) := hPN
              have hWN2 : min (mulC kind lo hi (sumC Rx.wriC ps) + 1) capM = Rx.wriC (.node kind u0 u1 u2 u3 lo hi ps) := hWN
              have HPN := Lib.hid hPN2
              have HWN := Lib.hid hWN2
              clear hPN hWN hPN2 hWN2 hfit HMK HDK
              rw [htk]
              clear htk
              generalize sumC Rx.posC ps = P at *
              generalize sumC Rx.wriC ps = Q at *
              generalize baseP kind = B0 at *
              have hmul1 : mulC kind lo hi (B0 + P) = B0 + P := by unfold mulC; rw [if_neg HK5.out]
              have hmul2 : mulC kind lo hi Q = Q := by unfold mulC; rw [if_neg HK5.out]
              rw [hmul1] at HPN
              rw [hmul2] at HWN
              clear hmul1 hmul2
              generalize B0 + P = BP at *
              go_wp2_with fail
              go_ret3
              refine ⟨fun _ => ⟨?_, by unfold Rx.size; rw [← Nat.add_assoc]; exact HMK2.out⟩, fun h => absurd HFit.out h, HKK.out⟩
              rw [← HPN.out, ← HWN.out]
              refine tup3 (min_cap _ _ ?_) (min_cap _ _ ?_)
              · first | rfl | omega
              · first | rfl | omega
end Go.Proofs.YtpiagfmjekcncaaDoor
