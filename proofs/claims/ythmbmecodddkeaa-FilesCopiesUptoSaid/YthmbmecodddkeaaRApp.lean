/- The walk of the reference's call rAppend. -/
import Derived.Test.YthmbmecodddkeaaRF5
namespace Go.Proofs.Ythmbmecodddkeaa
open Go.RowKit Go.WideMaps
set_option maxRecDepth 100000 in
set_option maxHeartbeats 4000000 in
theorem rappend_any (G : Nat → Prop) (fv : Value) (l : List PF) (y : RY) (nm : ByteArray) (Ab : Option Addr) (mb cb B : Nat) (bb : List UInt8) (w : World) (hF : FsM G w fv l) (hl : l.map Prod.fst = y.files) (hris : RisingG AF.name y.files) (hn : l.length ≤ 900000) (hs : nm.size ≤ maxLen) (hrb : Reads w B 1 Ab mb (bb.map byteV)) (hB : B ≤ w.heap.size) (hbl : bb.length = mb) (hmb : mb ≤ 1000000000) (hlo : -1 ≤ y.left) (hhi : y.left ≤ 9223372036854775807) (hsy : ∀ f ∈ y.files, f.sync ≤ f.data.length ∧ f.data.length ≤ 16777216) :
    Calls Try.prog 37 #[.agg #[fv, .int .i64 y.left, .bool y.off], .string nm, .slice Ab mb cb] w (Re2 G w (rAppend y nm bb)) := by
  obtain ⟨files, left, off⟩ := y
  simp only at hl hris hlo hhi hsy ⊢
  obtain ⟨hka, hkb, hba⟩ := two_blk w fv (.int .i64 left) (.bool off)
  obtain ⟨wa, hwa⟩ : ∃ wa, wa = two w fv (.int .i64 left) (.bool off) := ⟨_, rfl⟩
  rw [← hwa] at hka hkb hba
  have hsa : w.heap.size + 2 ≤ wa.heap.size := by rw [hwa]; simp [two]
  have hFa : FsM (LoG G w.heap.size wa.heap.size) wa fv l := (hF.mono (G' := LoG G w.heap.size wa.heap.size) fun i hi hg => .inl ⟨hg, hi⟩).below hba
  obtain ⟨r, hr⟩ : ∃ r, r = rBegin ⟨files, left, off⟩ (validN nm) := ⟨_, rfl⟩
  have hcs := rbegin_cases ⟨files, left, off⟩ (validN nm)
  rw [← hr] at hcs
  obtain ⟨wn, hwn⟩ : ∃ wn, wn = wa.alloc (.cells #[.string nm] 9) := ⟨_, rfl⟩
  have hbn : Below wa.heap.size wa wn := by rw [hwn]; exact (Below.refl _ _).alloc (Nat.le_refl _) _
  have hrn : Reads wn (wa.heap.size + 1) 1 (some ⟨wa.heap.size, 0, none⟩) 1 ([nm].map Value.string) := by rw [hwn]; exact Reads.of_alloc wa #[.string nm] 9 (by omega) rfl
  have hbg := rbegin_any (LoG G w.heap.size wa.heap.size) fv l ⟨files, left, off⟩ (some ⟨wa.heap.size, 0, none⟩) 1 1 (wa.heap.size + 1) [nm] wn (hFa.below hbn) hl hrn (by rw [hwn]; simp) rfl (by omega) (by intro s h; simp at h; subst h; exact hs)
  rw [show [nm].all validN = (validN nm) by simp, ← hr] at hbg
  rw [hwn] at hbg
  obtain ⟨A, c, rfl, hc⟩ := hF.slice
  have hlf : l.length = files.length := by rw [← hl, List.length_map]
  rw [hlf] at hn
  generalize l.length = n at *
  unfold two at hwa
  have HWA := Lib.hid hwa
  have HB := Lib.hid hba
  have HKB := Lib.hid hkb
  have HKA := Lib.hid hka
  have HSA := Lib.hid hsa
  have HR := Lib.hid hr
  have HRIS := Lib.hid hris
  have HSY := Lib.hid hsy
  have HWN := Lib.hid hwn
  have HBN := Lib.hid hbn
  have HRB := Lib.hid (show ∀ w', Below w.heap.size w w' → Reads w' w'.heap.size 1 Ab mb (bb.map byteV) from fun w' hb => (hrb.below (hb.mono hB)).more (Nat.le_trans hB hb.size))
  have HBL := Lib.hid hbl
  clear hrb hbl
  have x0 := hka.cell 0
  have x1 := hka.cell 1
  have x2 := hka.cell 2
  simp only [List.getElem?_toArray, List.getElem?_cons_zero, List.getElem?_cons_succ] at x0 x1 x2
  clear hwa hba hka hkb hF hl hr hlf hris hsy hrn hbn hwn hFa
  go_enter Try.func37, Try.ntmps37
  go_upto_region 1 with (fail)
  rw [← HWA.out]
  go_wp2_with fail
  refine hbg.mono ?_
  clear hbg x0 x1 x2
  rintro e w1 ⟨v1, rfl, ⟨fv1, l1, rfl, hF1, hl1⟩, hb1⟩
  obtain ⟨A1, c1, rfl, hc1⟩ := hF1.slice
  have hb1' : Below wa.heap.size wa w1 := HBN.out.trans ((HWN.out ▸ hb1).mono HBN.out.size)
  have hF1 := hF1.lo (by simp)
  have hk1 := HKA.out.below hb1' HKA.out.lt
  have hkb1 := HKB.out.below hb1' HKB.out.lt
  have hbw1 := HB.out.trans (hb1'.mono HB.out.size)
  have x0 := hk1.cell 0
  have x1 := hk1.cell 1
  have x2 := hk1.cell 2
  simp only [List.getElem?_toArray, List.getElem?_cons_zero, List.getElem?_cons_succ] at x0 x1 x2
  have u0 := hk1.frozen 0
  have u1 := hk1.frozen 1
  have u2 := hk1.frozen 2
  rcases hcs with rfl | hcd
  · simp only at hl1
    go_upto_region 2 with (fail)
    obtain ⟨w2, hw2⟩ : ∃ w2, w2 = set3 w1 w.heap.size (.slice A1 l1.length c1) (.int .i64 left) (.bool off) := ⟨_, rfl⟩
    have hk2 : Blk w2 w.heap.size 52 #[.slice A1 l1.length c1, .int .i64 left, .bool off] := by rw [hw2]; exact set3_blk hk1 _ _ _
    have hq2 : Kept (fun i => w.heap.size ≤ i ∧ i < wa.heap.size) w1 w2 := by rw [hw2]; exact set3_bx (Nat.le_refl _) (by have := HSA.out; omega) _ _ _
    have hbw2 : Below w.heap.size w w2 := by rw [hw2]; exact set3_below hbw1 hbw1.size (Nat.le_refl _) _ _ _
    have hkb2 : Blk w2 (w.heap.size + 1) 52 #[.slice none 0 0, .int .i64 0, .bool false] := by rw [hw2]; exact hkb1.kept (set3_kept _ _ _ _ _) (show ¬ (w.heap.size + 1 = w.heap.size) by omega)
    have hF2 := hF1.keep1 hq2
    have hs1 := hb1'.size
    have hs2 := hq2.size
    unfold set3 at hw2
    rw [← hw2]
    clear hw2 x0 x1 x2 u0 u1 u2 hk1 hkb1 hq2 hF1
    obtain ⟨wf, hwf⟩ : ∃ wf, wf = w2.alloc (.cells #[.string nm, .slice none 0 0, .int .i64 0] 86) := ⟨_, rfl⟩
    have hbf : Below w2.heap.size w2 wf := by rw [hwf]; exact (Below.refl _ _).alloc (Nat.le_refl _) _
    have hkf : Blk wf w2.heap.size 86 #[.string nm, .slice none 0 0, .int .i64 0] := by rw [hwf]; exact Blk.new _ _ _
    have hF2z := (hF2.mono (G' := fun i => LoG G w.heap.size wa.heap.size i ∧ i < w2.heap.size) fun i hi hg => ⟨hg, hi⟩).below hbf
    have hF2 := hF2.below hbf
    have hkb2 := hkb2.below hbf hkb2.lt
    have hbw2 := hbw2.trans (hbf.mono hbw2.size)
    have hsf := hbf.size
    have hlf := hkf.lt
    have hk2f := hk2.below hbf hk2.lt
    have x0 := hk2.cell 0
    have x1 := hk2.cell 1
    have x2 := hk2.cell 2
    simp only [List.getElem?_toArray, List.getElem?_cons_zero, List.getElem?_cons_succ] at x0 x1 x2
    go_upto_region 5 with (fail)
    rw [← hwf]
    clear hwf x0 x1 x2 hk2
    have hk2 := hk2f
    clear hk2f
    have hn1 : l1.length ≤ 900000 := by rw [← hl1, List.length_map] at hn; exact hn
    have hfd := find_of hl1 nm.data.toList
    have hris1 := ris_of hl1 HRIS.out
    have hr0 : rBegin ⟨files, left, off⟩ (validN nm) = (⟨files, left, off⟩, 0) := HR.out.symm
    have HR0 := Lib.hid (show (rBegin ⟨files, left, off⟩ (validN nm)).2 = 0 by rw [hr0])
    have hfi := rfind_any _ _ l1 left off nm wf hF2 (by omega)
    have HFD := Lib.hid hfd
    have HL1 := Lib.hid hl1
    have HRIS1 := Lib.hid hris1
    have HBW2 := Lib.hid hbw2
    clear hr0 hfd hl1 hris1 HR
    have x0 := hk2.cell 0
    have x1 := hk2.cell 1
    have x2 := hk2.cell 2
    simp only [List.getElem?_toArray, List.getElem?_cons_zero, List.getElem?_cons_succ] at x0 x1 x2
    go_wp2_with fail
    refine hfi.mono ?_
    clear hfi x0 x1 x2
    rintro e w3 ⟨rfl, hb3⟩
    have hk3 := hk2.below hb3 hk2.lt
    have hkb3 := hkb2.below hb3 hkb2.lt
    have hbw3 := hbw2.trans (hb3.mono hbw2.size)
    have hF3 := hF2.below hb3
    have hs3 := hb3.size
    have hF3z := hF2z.below hb3
    have hkf3 := hkf.below hb3 hkf.lt
    clear hkf hF2z
    clear hk2 hkb2 hbw2 hF2 hb3
    by_cases hkl : posG pn nm.data.toList l1 < l1.length
    · have hfi : findI nm.data.toList l1 = (posG pn nm.data.toList l1 : Int) := by unfold findI; rw [if_pos hkl]
      rw [hfi]
      have hfa := HFD.out
      rw [List.getElem?_eq_getElem hkl] at hfa
      have hnm0 : l1[posG pn nm.data.toList l1].1.name = nm.data.toList := by
        have h := posG_find (nm := pn) nm.data.toList l1
        rw [List.getElem?_eq_getElem hkl] at h
        exact (findG_name h).1
      have HFA := Lib.hid hfa
      have HNM := Lib.hid hnm0
      have hpay := hF3.pay _ (List.getElem_mem hkl)
      have hpayz := hF3z.pay _ (List.getElem_mem hkl)
      have hsy1 := HSY.out l1[posG pn nm.data.toList l1].1 (by rw [← HL1.out]; exact List.mem_map_of_mem (List.getElem_mem hkl))
      obtain ⟨b, o, e1, hbl, c0, c1', c2⟩ := hF3.at_ hkl
      have hkn : (0 : Int) ≤ (posG pn nm.data.toList l1 : Int) := by omega
      generalize posG pn nm.data.toList l1 = k at *
      generalize l1[k] = p at *
      obtain ⟨⟨pnm, pdata, psync⟩, pdv⟩ := p
      simp only at c0 c1' c2 HFA HNM hpay hsy1 hpayz
      obtain ⟨A5, c5, rfl, hc5⟩ := hpay.form
      subst e1
      clear hfi hfa hnm0
      have HAP := Lib.hid (show rAppend ⟨files, left, off⟩ nm bb = if 16777216 < pdata.length + bb.length then (⟨files, left, off⟩, 9) else (rDone ⟨putG AF.name ⟨pnm, pdata ++ bb, psync⟩ files, left, off⟩, 0) by
        unfold rAppend
        rw [if_neg (by rw [HR0.out]; decide)]
        simp only
        rw [HFA.out, HNM.out]
        rfl)
      have x0 := hk3.cell 0
      simp only [List.getElem?_toArray, List.getElem?_cons_zero] at x0
      have f0 := hkf3.cell 0
      have f1 := hkf3.cell 1
      have f2 := hkf3.cell 2
      simp only [List.getElem?_toArray, List.getElem?_cons_zero, List.getElem?_cons_succ] at f0 f1 f2
      have u0 := hkf3.frozen 0
      have u1 := hkf3.frozen 1
      have u2 := hkf3.frozen 2
      go_upto_region 8 with (fail)
      obtain ⟨w4, hw4⟩ : ∃ w4, w4 = set3 w3 w2.heap.size (.string ⟨pnm.toArray⟩) (.slice A5 pdata.length c5) (.int .i64 (psync : Int)) := ⟨_, rfl⟩
      have hkf4 : Blk w4 w2.heap.size 86 #[.string ⟨pnm.toArray⟩, .slice A5 pdata.length c5, .int .i64 (psync : Int)] := by rw [hw4]; exact set3_blk hkf3 _ _ _
      have hq4 : Kept (fun i => i = w2.heap.size) w3 w4 := by rw [hw4]; exact set3_kept _ _ _ _ _
      have hs34 := hq4.size
      have hF4z := hF3z.keptF hq4 fun i _ hi e => by have : i = w2.heap.size := e; omega
      have hpay4 := hpayz.keptF hq4 fun i _ hi e => by have : i = w2.heap.size := e; omega
      have hx4 := hk3.kept hq4 (show ¬ (w.heap.size = w2.heap.size) by have := HSA.out; omega)
      have hkb4 := hkb3.kept hq4 (show ¬ (w.heap.size + 1 = w2.heap.size) by have := HSA.out; omega)
      have hbw4 : Below w.heap.size w w4 := hq4.below hbw3 hbw3.size fun i hi => by have : i = w2.heap.size := hi; have := HSA.out; omega
      unfold set3 at hw4
      rw [← hw4]
      clear hw4 x0 f0 f1 f2 u0 u1 u2 c0 c1' c2 hF3 hF3z hpay hpayz hkf3 hk3 hkb3 hbw3
      obtain ⟨i0, hi, hz0, hz1, hz2⟩ := info_parts infoB
      have hLF := hsy1.2
      by_cases hbig : 16777216 < pdata.length + mb
      · have HFIN := Lib.hid (show rAppend ⟨files, left, off⟩ nm bb = (⟨files, left, off⟩, 9) by
          rw [HAP.out, if_pos (by have := HBL.out; omega)])
        have hbi : (16777216 : Int) < (pdata.length : Int) + (mb : Int) := by omega
        have HF4 := Lib.hid (hF4z.mono (G' := LoG G w.heap.size wa.heap.size) fun i _ hi => hi.1)
        clear hF4z hpay4
        have f0 := hkf4.cell 0
        have f1 := hkf4.cell 1
        simp only [List.getElem?_toArray, List.getElem?_cons_zero, List.getElem?_cons_succ] at f0 f1
        have x0 := hx4.cell 0
        have x1 := hx4.cell 1
        have x2 := hx4.cell 2
        simp only [List.getElem?_toArray, List.getElem?_cons_zero, List.getElem?_cons_succ] at x0 x1 x2
        have z0 := hkb4.cell 0
        have z1 := hkb4.cell 1
        have z2 := hkb4.cell 2
        simp only [List.getElem?_toArray, List.getElem?_cons_zero, List.getElem?_cons_succ] at z0 z1 z2
        have y0 := hkb4.frozen 0
        have y1 := hkb4.frozen 1
        have y2 := hkb4.frozen 2
        go_wp2_with fail
        obtain ⟨wF, hwF⟩ : ∃ wF, wF = set3 w4 (w.heap.size + 1) (.slice (some ⟨b, o, none⟩) l1.length c1) (.int .i64 left) (.bool off) := ⟨_, rfl⟩
        have HKF0 := Lib.hid hwF
        have hkF : Blk wF (w.heap.size + 1) 52 #[(.slice (some ⟨b, o, none⟩) l1.length c1 : Value), (.int .i64 left : Value), (.bool off : Value)] := by rw [hwF]; exact set3_blk hkb4 _ _ _
        have hbF : Below w.heap.size w wF := by rw [hwF]; exact set3_below hbw4 hbw4.size (Nat.le_succ _) _ _ _
        have g0 := hkF.cell 0
        have g1 := hkF.cell 1
        have g2 := hkF.cell 2
        simp only [List.getElem?_toArray, List.getElem?_cons_zero, List.getElem?_cons_succ] at g0 g1 g2
        unfold set3 at hwF
        rw [← hwF]
        refine bodyPost_ret (v := .tuple #[.agg #[(.slice (some ⟨b, o, none⟩) l1.length c1 : Value), (.int .i64 left : Value), (.bool off : Value)], .int .i64 9]) (by simp [results, Try.results37, go_sem, g0, g1, g2]) rfl ?_
        have HKF := Lib.hid (show Kept (fun i => w.heap.size ≤ i ∧ i < wa.heap.size) w4 wF from HKF0 ▸ set3_bx (Nat.le_succ _) (by have := HSA.out; omega) _ _ _)
        rw [HFIN.out]
        exact ⟨_, rfl, ⟨_, l1, rfl, HF4.out.keep2 HKF.out (by have := HSA.out; omega), HL1.out⟩, hbF⟩
      · have HFIN := Lib.hid (show rAppend ⟨files, left, off⟩ nm bb = (rDone ⟨putG AF.name ⟨pnm, pdata ++ bb, psync⟩ files, left, off⟩, 0) by
          rw [HAP.out, if_neg (by have := HBL.out; omega)])
        have hbi : (pdata.length : Int) + (mb : Int) ≤ 16777216 := by omega
        have hkfa := hkf4.alloc (.cells #[] 5)
        have f0 := hkf4.cell 0
        have f1 := hkf4.cell 1
        simp only [List.getElem?_toArray, List.getElem?_cons_zero, List.getElem?_cons_succ] at f0 f1
        have g0 := hkfa.cell 0
        have g1 := hkfa.cell 1
        simp only [List.getElem?_toArray, List.getElem?_cons_zero, List.getElem?_cons_succ] at g0 g1
        have hown0 := World.ownsRow_lit (e := 5) (size := 1) w4 #[] 0 (Nat.le_refl _) (by decide) rfl
        have hrt := (hpay4.reads.2.2).alloc (Nat.le_refl _) (.cells #[] 5)
        have hrb4 := (HRB.out w4 hbw4)
        have hs4 := hbw4.size
        go_wp2_with (at_builtin; refine wpList_append_any _ rfl (.tmp 42) (.tmp 44) 28 rfl w4.heap.size 5 i0 (.int .u8 0) 1 1 Try.underlying28 hi hz0 hz1 hz2 rfl (by decide) _ _ _ rfl hown0 w4.heap.size _ _ _ (pdata.map byteV) rfl hrt (oneBV _) (by unfold maxLen; omega) (by omega) (by simp) ?_)
        intro v5 w5 hown5 hg5 _
        obtain ⟨A6, c6, rfl⟩ := own_form hown5
        have hb5 := below_own ((Below.refl w4.heap.size w4).alloc (Nat.le_refl _) (.cells #[] 5)) (by simp) (Nat.le_refl _) hown0 hg5
        have hs5 := hb5.size
        have hrb5 := hrb4.below hb5
        clear hown0 hrt hg5 g0 g1 hkfa f0 f1
        go_wp2_with (at_builtin; refine wpList_append_any _ rfl (.tmp 45) (.tmp 46) 28 rfl w4.heap.size 5 i0 (.int .u8 0) 1 1 Try.underlying28 hi hz0 hz1 hz2 rfl (by decide) _ _ _ rfl hown5 w4.heap.size _ _ _ (bb.map byteV) rfl hrb5 (oneBV _) (by unfold maxLen; omega) (by omega) hs5 ?_)
        intro v6 w6 hown6 hg6 _
        obtain ⟨A7, c7, rfl⟩ := own_form hown6
        have hb6 := below_own hb5 hs5 (Nat.le_refl _) hown5 hg6
        have hs6 := hb6.size
        have hown6 : w6.ownsRow w4.heap.size 5 1 (.slice A7 (pdata.length + mb) c7) (pdata.length + mb) ((pdata ++ bb).map byteV) := by simpa using hown6
        have hp7 := PayG.of_own (G := fun i => w4.heap.size ≤ i) hown6 (own_le hown6) fun g hg _ => hg
        clear hown5 hg6 hrb4 hrb5 hb5
        have hkf6 := hkf4.below hb6 hkf4.lt
        generalize pdata.length + mb = N at *
        have f0 := hkf6.cell 0
        have f1 := hkf6.cell 1
        have f2 := hkf6.cell 2
        simp only [List.getElem?_toArray, List.getElem?_cons_zero, List.getElem?_cons_succ] at f0 f1 f2
        have u0 := hkf6.frozen 0
        have u1 := hkf6.frozen 1
        have u2 := hkf6.frozen 2
        go_upto_region 11 with (fail)
        obtain ⟨w7, hw7⟩ : ∃ w7, w7 = w6.setCell ⟨w2.heap.size, 1, none⟩ (.slice A7 N c7) := ⟨_, rfl⟩
        have hkf7 := hkf6.set_ 1 (.slice A7 N c7)
        rw [← hw7] at hkf7 ⊢
        simp only [List.setIfInBounds_toArray, List.set_cons_succ, List.set_cons_zero] at hkf7
        have hq7 : Kept (fun i => i = w2.heap.size) w6 w7 := by rw [hw7]; exact kept_set w6 w2.heap.size 1 _
        have hp7 : PayG (LoG G w.heap.size wa.heap.size) w7 (.slice A7 N c7) (pdata ++ bb) := (hp7.keptF hq7 fun i _ hi e => by have : i = w2.heap.size := e; omega).mono fun i _ hi => .inr (by omega)
        have hF7 : FsM (LoG G w.heap.size wa.heap.size) w7 (.slice (some ⟨b, o, none⟩) l1.length c1) l1 := ((hF4z.below hb6).keptF hq7 fun i _ hi e => by have : i = w2.heap.size := e; omega).mono fun i _ hi => hi.1
        have hx7 := (hx4.below hb6 hx4.lt).kept hq7 (show ¬ (w.heap.size = w2.heap.size) by have := HSA.out; omega)
        have hkb7 := (hkb4.below hb6 hkb4.lt).kept hq7 (show ¬ (w.heap.size + 1 = w2.heap.size) by have := HSA.out; omega)
        have hbw7 : Below w.heap.size w w7 := hq7.below (hbw4.trans (hb6.mono hbw4.size)) (Nat.le_trans hbw4.size hb6.size) fun i hi => by have : i = w2.heap.size := hi; have := HSA.out; omega
        have hs7 := hq7.size
        have hwi := rwith_any (LoG G w.heap.size wa.heap.size) (.slice (some ⟨b, o, none⟩) l1.length c1) l1 left off ⟨pnm.toArray⟩ (.slice A7 N c7) (pdata ++ bb) psync w7 hF7 hp7 HRIS1.out (by omega)
        simp only at hwi
        clear hw7 hkf6 f0 f1 f2 u0 u1 u2 hF4z hpay4 hx4 hkb4 hbw4 hp7 hF7 hown6
        have x0 := hx7.cell 0
        have x1 := hx7.cell 1
        have x2 := hx7.cell 2
        simp only [List.getElem?_toArray, List.getElem?_cons_zero, List.getElem?_cons_succ] at x0 x1 x2
        have f0 := hkf7.cell 0
        have f1 := hkf7.cell 1
        have f2 := hkf7.cell 2
        simp only [List.getElem?_toArray, List.getElem?_cons_zero, List.getElem?_cons_succ] at f0 f1 f2
        go_wp2_with fail
        refine hwi.mono ?_
        clear hwi x0 x1 x2 f0 f1 f2 hx7 hkf7 hq7
        rintro e w9 ⟨fv5, rfl, hF5, hb9⟩
        have hF5 := hF5.lo (by omega)
        have hdo := rdone_any (LoG G w.heap.size wa.heap.size) fv5 _ ⟨(putG pn (⟨pnm, pdata ++ bb, psync⟩, .slice A7 N c7) l1).map Prod.fst, left, off⟩ w9 hF5 rfl hlo hhi
        have hkb5 := hkb7.below hb9 hkb7.lt
        have hbw5 := hbw7.trans (hb9.mono hbw7.size)
        have hs9 := hb9.size
        rw [put_fst, HL1.out] at hdo
        clear hkb7 hbw7
        have HFY := Lib.hid HFIN.out
        obtain ⟨y9, hy9⟩ : ∃ y9, y9 = rDone ⟨putG AF.name ⟨pnm, pdata ++ bb, psync⟩ files, left, off⟩ := ⟨_, rfl⟩
        rw [← hy9] at hdo HFY
        have HFY2 := Lib.hid HFY.out
        clear hy9 HFY
        obtain ⟨fs9, le9, of9⟩ := y9
        go_wp2_with fail
        refine hdo.mono ?_
        clear hdo
        rintro e w10 ⟨v6, rfl, ⟨fv6, l6, rfl, hF10, hl6⟩, hb10⟩
        obtain ⟨A6, c6, rfl, hc6⟩ := hF10.slice
        have hF10 := hF10.lo (by omega)
        have hkb6 := hkb5.below hb10 hkb5.lt
        have hbw10 := hbw5.trans (hb10.mono hbw5.size)
        have HF10 := Lib.hid hF10
        have HL6 := Lib.hid hl6
        clear hF10 hl6 hF5
        have z0 := hkb6.cell 0
        have z1 := hkb6.cell 1
        have z2 := hkb6.cell 2
        simp only [List.getElem?_toArray, List.getElem?_cons_zero, List.getElem?_cons_succ] at z0 z1 z2
        have y0 := hkb6.frozen 0
        have y1 := hkb6.frozen 1
        have y2 := hkb6.frozen 2
        go_wp2_with fail
        obtain ⟨wF, hwF⟩ : ∃ wF, wF = set3 w10 (w.heap.size + 1) (.slice A6 l6.length c6) (.int .i64 le9) (.bool of9) := ⟨_, rfl⟩
        have HKF0 := Lib.hid hwF
        have hkF : Blk wF (w.heap.size + 1) 52 #[(.slice A6 l6.length c6 : Value), (.int .i64 le9 : Value), (.bool of9 : Value)] := by rw [hwF]; exact set3_blk hkb6 _ _ _
        have hbF : Below w.heap.size w wF := by rw [hwF]; exact set3_below hbw10 hbw10.size (Nat.le_succ _) _ _ _
        have f0 := hkF.cell 0
        have f1 := hkF.cell 1
        have f2 := hkF.cell 2
        simp only [List.getElem?_toArray, List.getElem?_cons_zero, List.getElem?_cons_succ] at f0 f1 f2
        unfold set3 at hwF
        rw [← hwF]
        refine bodyPost_ret (v := .tuple #[.agg #[(.slice A6 l6.length c6 : Value), (.int .i64 le9 : Value), (.bool of9 : Value)], .int .i64 0]) (by simp [results, Try.results37, go_sem, f0, f1, f2]) rfl ?_
        have HKF := Lib.hid (show Kept (fun i => w.heap.size ≤ i ∧ i < wa.heap.size) w10 wF from HKF0 ▸ set3_bx (Nat.le_succ _) (by have := HSA.out; omega) _ _ _)
        rw [HFY2.out]
        exact ⟨_, rfl, ⟨_, l6, rfl, HF10.out.keep2 HKF.out (by have := HSA.out; omega), HL6.out⟩, hbF⟩
    · have hfi : findI nm.data.toList l1 = -1 := by unfold findI; rw [if_neg hkl]
      rw [hfi]
      have hfa := HFD.out
      rw [List.getElem?_eq_none (by omega)] at hfa
      have HAP := Lib.hid (show rAppend ⟨files, left, off⟩ nm bb = if 16777216 < 0 + bb.length then (⟨files, left, off⟩, 9) else (rDone ⟨putG AF.name ⟨nm.data.toList, ([] : List UInt8) ++ bb, 0⟩ files, left, off⟩, 0) by
        unfold rAppend
        rw [if_neg (by rw [HR0.out]; decide)]
        simp only
        rw [hfa]
        rfl)
      clear hfi hfa
      have hpay4 := PayG.nil (LoG G w.heap.size wa.heap.size) w3
      have hF4z := hF3z
      have hkf4 := hkf3
      have hx4 := hk3
      have hkb4 := hkb3
      clear hF3 hF3z hkf3 hk3 hkb3
      obtain ⟨i0, hi, hz0, hz1, hz2⟩ := info_parts infoB
      by_cases hbig : 16777216 < 0 + mb
      · have HFIN := Lib.hid (show rAppend ⟨files, left, off⟩ nm bb = (⟨files, left, off⟩, 9) by
          rw [HAP.out, if_pos (by have := HBL.out; omega)])
        have hbi : (16777216 : Int) < 0 + (mb : Int) := by omega
        have HF4 := Lib.hid (hF4z.mono (G' := LoG G w.heap.size wa.heap.size) fun i _ hi => hi.1)
        clear hF4z hpay4
        have f0 := hkf4.cell 0
        have f1 := hkf4.cell 1
        simp only [List.getElem?_toArray, List.getElem?_cons_zero, List.getElem?_cons_succ] at f0 f1
        have x0 := hx4.cell 0
        have x1 := hx4.cell 1
        have x2 := hx4.cell 2
        simp only [List.getElem?_toArray, List.getElem?_cons_zero, List.getElem?_cons_succ] at x0 x1 x2
        have z0 := hkb4.cell 0
        have z1 := hkb4.cell 1
        have z2 := hkb4.cell 2
        simp only [List.getElem?_toArray, List.getElem?_cons_zero, List.getElem?_cons_succ] at z0 z1 z2
        have y0 := hkb4.frozen 0
        have y1 := hkb4.frozen 1
        have y2 := hkb4.frozen 2
        go_wp2_with fail
        obtain ⟨wF, hwF⟩ : ∃ wF, wF = set3 w3 (w.heap.size + 1) (.slice A1 l1.length c1) (.int .i64 left) (.bool off) := ⟨_, rfl⟩
        have HKF0 := Lib.hid hwF
        have hkF : Blk wF (w.heap.size + 1) 52 #[(.slice A1 l1.length c1 : Value), (.int .i64 left : Value), (.bool off : Value)] := by rw [hwF]; exact set3_blk hkb4 _ _ _
        have hbF : Below w.heap.size w wF := by rw [hwF]; exact set3_below hbw3 hbw3.size (Nat.le_succ _) _ _ _
        have g0 := hkF.cell 0
        have g1 := hkF.cell 1
        have g2 := hkF.cell 2
        simp only [List.getElem?_toArray, List.getElem?_cons_zero, List.getElem?_cons_succ] at g0 g1 g2
        unfold set3 at hwF
        rw [← hwF]
        refine bodyPost_ret (v := .tuple #[.agg #[(.slice A1 l1.length c1 : Value), (.int .i64 left : Value), (.bool off : Value)], .int .i64 9]) (by simp [results, Try.results37, go_sem, g0, g1, g2]) rfl ?_
        have HKF := Lib.hid (show Kept (fun i => w.heap.size ≤ i ∧ i < wa.heap.size) w3 wF from HKF0 ▸ set3_bx (Nat.le_succ _) (by have := HSA.out; omega) _ _ _)
        rw [HFIN.out]
        exact ⟨_, rfl, ⟨_, l1, rfl, HF4.out.keep2 HKF.out (by have := HSA.out; omega), HL1.out⟩, hbF⟩
      · have HFIN := Lib.hid (show rAppend ⟨files, left, off⟩ nm bb = (rDone ⟨putG AF.name ⟨nm.data.toList, ([] : List UInt8) ++ bb, 0⟩ files, left, off⟩, 0) by
          rw [HAP.out, if_neg (by have := HBL.out; omega)])
        have hbi : 0 + (mb : Int) ≤ 16777216 := by omega
        have hkfa := hkf4.alloc (.cells #[] 5)
        have f0 := hkf4.cell 0
        have f1 := hkf4.cell 1
        simp only [List.getElem?_toArray, List.getElem?_cons_zero, List.getElem?_cons_succ] at f0 f1
        have g0 := hkfa.cell 0
        have g1 := hkfa.cell 1
        simp only [List.getElem?_toArray, List.getElem?_cons_zero, List.getElem?_cons_succ] at g0 g1
        have hown0 := World.ownsRow_lit (e := 5) (size := 1) w3 #[] 0 (Nat.le_refl _) (by decide) rfl
        have hrt := (hpay4.reads.2.2).alloc (Nat.le_refl _) (.cells #[] 5)
        have hrb4 := (HRB.out w3 hbw3)
        have hs4 := hbw3.size
        go_wp2_with (at_builtin; refine wpList_append_any _ rfl (.tmp 42) (.tmp 44) 28 rfl w3.heap.size 5 i0 (.int .u8 0) 1 1 Try.underlying28 hi hz0 hz1 hz2 rfl (by decide) _ _ _ rfl hown0 w3.heap.size _ _ _ (([] : List UInt8).map byteV) rfl hrt (oneBV _) (by unfold maxLen; omega) (by omega) (by simp) ?_)
        intro v5 w5 hown5 hg5 _
        obtain ⟨A6, c6, rfl⟩ := own_form hown5
        have hb5 := below_own ((Below.refl w3.heap.size w3).alloc (Nat.le_refl _) (.cells #[] 5)) (by simp) (Nat.le_refl _) hown0 hg5
        have hs5 := hb5.size
        have hrb5 := hrb4.below hb5
        clear hown0 hrt hg5 g0 g1 hkfa f0 f1
        go_wp2_with (at_builtin; refine wpList_append_any _ rfl (.tmp 45) (.tmp 46) 28 rfl w3.heap.size 5 i0 (.int .u8 0) 1 1 Try.underlying28 hi hz0 hz1 hz2 rfl (by decide) _ _ _ rfl hown5 w3.heap.size _ _ _ (bb.map byteV) rfl hrb5 (oneBV _) (by unfold maxLen; omega) (by omega) hs5 ?_)
        intro v6 w6 hown6 hg6 _
        obtain ⟨A7, c7, rfl⟩ := own_form hown6
        have hb6 := below_own hb5 hs5 (Nat.le_refl _) hown5 hg6
        have hs6 := hb6.size
        have hown6 : w6.ownsRow w3.heap.size 5 1 (.slice A7 (mb) c7) (mb) ((([] : List UInt8) ++ bb).map byteV) := by simpa using hown6
        have hp7 := PayG.of_own (G := fun i => w3.heap.size ≤ i) hown6 (own_le hown6) fun g hg _ => hg
        clear hown5 hg6 hrb4 hrb5 hb5
        have hkf6 := hkf4.below hb6 hkf4.lt
        have f0 := hkf6.cell 0
        have f1 := hkf6.cell 1
        have f2 := hkf6.cell 2
        simp only [List.getElem?_toArray, List.getElem?_cons_zero, List.getElem?_cons_succ] at f0 f1 f2
        have u0 := hkf6.frozen 0
        have u1 := hkf6.frozen 1
        have u2 := hkf6.frozen 2
        go_upto_region 11 with (fail)
        obtain ⟨w7, hw7⟩ : ∃ w7, w7 = w6.setCell ⟨w2.heap.size, 1, none⟩ (.slice A7 mb c7) := ⟨_, rfl⟩
        have hkf7 := hkf6.set_ 1 (.slice A7 mb c7)
        rw [← hw7] at hkf7 ⊢
        simp only [List.setIfInBounds_toArray, List.set_cons_succ, List.set_cons_zero] at hkf7
        have hq7 : Kept (fun i => i = w2.heap.size) w6 w7 := by rw [hw7]; exact kept_set w6 w2.heap.size 1 _
        have hp7 : PayG (LoG G w.heap.size wa.heap.size) w7 (.slice A7 mb c7) (([] : List UInt8) ++ bb) := (hp7.keptF hq7 fun i _ hi e => by have : i = w2.heap.size := e; omega).mono fun i _ hi => .inr (by omega)
        have hF7 : FsM (LoG G w.heap.size wa.heap.size) w7 (.slice A1 l1.length c1) l1 := ((hF4z.below hb6).keptF hq7 fun i _ hi e => by have : i = w2.heap.size := e; omega).mono fun i _ hi => hi.1
        have hx7 := (hx4.below hb6 hx4.lt).kept hq7 (show ¬ (w.heap.size = w2.heap.size) by have := HSA.out; omega)
        have hkb7 := (hkb4.below hb6 hkb4.lt).kept hq7 (show ¬ (w.heap.size + 1 = w2.heap.size) by have := HSA.out; omega)
        have hbw7 : Below w.heap.size w w7 := hq7.below (hbw3.trans (hb6.mono hbw3.size)) (Nat.le_trans hbw3.size hb6.size) fun i hi => by have : i = w2.heap.size := hi; have := HSA.out; omega
        have hs7 := hq7.size
        have hwi := rwith_any (LoG G w.heap.size wa.heap.size) (.slice A1 l1.length c1) l1 left off nm (.slice A7 mb c7) (([] : List UInt8) ++ bb) 0 w7 hF7 hp7 HRIS1.out (by omega)
        
        clear hw7 hkf6 f0 f1 f2 u0 u1 u2 hF4z hpay4 hx4 hkb4 hbw3 hp7 hF7 hown6
        have x0 := hx7.cell 0
        have x1 := hx7.cell 1
        have x2 := hx7.cell 2
        simp only [List.getElem?_toArray, List.getElem?_cons_zero, List.getElem?_cons_succ] at x0 x1 x2
        have f0 := hkf7.cell 0
        have f1 := hkf7.cell 1
        have f2 := hkf7.cell 2
        simp only [List.getElem?_toArray, List.getElem?_cons_zero, List.getElem?_cons_succ] at f0 f1 f2
        go_wp2_with fail
        refine hwi.mono ?_
        clear hwi x0 x1 x2 f0 f1 f2 hx7 hkf7 hq7
        rintro e w9 ⟨fv5, rfl, hF5, hb9⟩
        have hF5 := hF5.lo (by omega)
        have hdo := rdone_any (LoG G w.heap.size wa.heap.size) fv5 _ ⟨(putG pn (⟨nm.data.toList, ([] : List UInt8) ++ bb, 0⟩, .slice A7 mb c7) l1).map Prod.fst, left, off⟩ w9 hF5 rfl hlo hhi
        have hkb5 := hkb7.below hb9 hkb7.lt
        have hbw5 := hbw7.trans (hb9.mono hbw7.size)
        have hs9 := hb9.size
        rw [put_fst, HL1.out] at hdo
        clear hkb7 hbw7
        have HFY := Lib.hid HFIN.out
        obtain ⟨y9, hy9⟩ : ∃ y9, y9 = rDone ⟨putG AF.name ⟨nm.data.toList, ([] : List UInt8) ++ bb, 0⟩ files, left, off⟩ := ⟨_, rfl⟩
        rw [← hy9] at hdo HFY
        have HFY2 := Lib.hid HFY.out
        clear hy9 HFY
        obtain ⟨fs9, le9, of9⟩ := y9
        go_wp2_with fail
        refine hdo.mono ?_
        clear hdo
        rintro e w10 ⟨v6, rfl, ⟨fv6, l6, rfl, hF10, hl6⟩, hb10⟩
        obtain ⟨A6, c6, rfl, hc6⟩ := hF10.slice
        have hF10 := hF10.lo (by omega)
        have hkb6 := hkb5.below hb10 hkb5.lt
        have hbw10 := hbw5.trans (hb10.mono hbw5.size)
        have HF10 := Lib.hid hF10
        have HL6 := Lib.hid hl6
        clear hF10 hl6 hF5
        have z0 := hkb6.cell 0
        have z1 := hkb6.cell 1
        have z2 := hkb6.cell 2
        simp only [List.getElem?_toArray, List.getElem?_cons_zero, List.getElem?_cons_succ] at z0 z1 z2
        have y0 := hkb6.frozen 0
        have y1 := hkb6.frozen 1
        have y2 := hkb6.frozen 2
        go_wp2_with fail
        obtain ⟨wF, hwF⟩ : ∃ wF, wF = set3 w10 (w.heap.size + 1) (.slice A6 l6.length c6) (.int .i64 le9) (.bool of9) := ⟨_, rfl⟩
        have HKF0 := Lib.hid hwF
        have hkF : Blk wF (w.heap.size + 1) 52 #[(.slice A6 l6.length c6 : Value), (.int .i64 le9 : Value), (.bool of9 : Value)] := by rw [hwF]; exact set3_blk hkb6 _ _ _
        have hbF : Below w.heap.size w wF := by rw [hwF]; exact set3_below hbw10 hbw10.size (Nat.le_succ _) _ _ _
        have f0 := hkF.cell 0
        have f1 := hkF.cell 1
        have f2 := hkF.cell 2
        simp only [List.getElem?_toArray, List.getElem?_cons_zero, List.getElem?_cons_succ] at f0 f1 f2
        unfold set3 at hwF
        rw [← hwF]
        refine bodyPost_ret (v := .tuple #[.agg #[(.slice A6 l6.length c6 : Value), (.int .i64 le9 : Value), (.bool of9 : Value)], .int .i64 0]) (by simp [results, Try.results37, go_sem, f0, f1, f2]) rfl ?_
        have HKF := Lib.hid (show Kept (fun i => w.heap.size ≤ i ∧ i < wa.heap.size) w10 wF from HKF0 ▸ set3_bx (Nat.le_succ _) (by have := HSA.out; omega) _ _ _)
        rw [HFY2.out]
        exact ⟨_, rfl, ⟨_, l6, rfl, HF10.out.keep2 HKF.out (by have := HSA.out; omega), HL6.out⟩, hbF⟩
  · obtain ⟨⟨f1, le1, of1⟩, code⟩ := r
    simp only at hl1 hcd
    have HFIN := Lib.hid (show rAppend ⟨files, left, off⟩ nm bb = (⟨f1, le1, of1⟩, code) by
      unfold rAppend
      rw [if_pos (by rw [← HR.out]; show code ≠ 0; omega), ← HR.out])
    have hne : (code != 0) = true := by rcases hcd with h | h <;> rw [h] <;> decide
    have hne2 : (code == 0) = false := by rcases hcd with h | h <;> rw [h] <;> decide
    have HL1 := Lib.hid hl1
    clear hcd hl1
    go_upto_region 2 with (fail)
    obtain ⟨w2, hw2⟩ : ∃ w2, w2 = set3 w1 w.heap.size (.slice A1 l1.length c1) (.int .i64 le1) (.bool of1) := ⟨_, rfl⟩
    have hk2 : Blk w2 w.heap.size 52 #[.slice A1 l1.length c1, .int .i64 le1, .bool of1] := by rw [hw2]; exact set3_blk hk1 _ _ _
    have hq2 : Kept (fun i => w.heap.size ≤ i ∧ i < wa.heap.size) w1 w2 := by rw [hw2]; exact set3_bx (Nat.le_refl _) (by have := HSA.out; omega) _ _ _
    have hbw2 : Below w.heap.size w w2 := by rw [hw2]; exact set3_below hbw1 hbw1.size (Nat.le_refl _) _ _ _
    have hkb2 : Blk w2 (w.heap.size + 1) 52 #[.slice none 0 0, .int .i64 0, .bool false] := by rw [hw2]; exact hkb1.kept (set3_kept _ _ _ _ _) (show ¬ (w.heap.size + 1 = w.heap.size) by omega)
    have hF2 := hF1.keep1 hq2
    have hs1 := hb1'.size
    have hs2 := hq2.size
    unfold set3 at hw2
    rw [← hw2]
    clear hw2 x0 x1 x2 u0 u1 u2 hk1 hkb1 hq2 hF1
    have HF2 := Lib.hid hF2
    clear hF2
    have x0 := hk2.cell 0
    have x1 := hk2.cell 1
    have x2 := hk2.cell 2
    simp only [List.getElem?_toArray, List.getElem?_cons_zero, List.getElem?_cons_succ] at x0 x1 x2
    have z0 := hkb2.cell 0
    have z1 := hkb2.cell 1
    have z2 := hkb2.cell 2
    simp only [List.getElem?_toArray, List.getElem?_cons_zero, List.getElem?_cons_succ] at z0 z1 z2
    have y0 := hkb2.frozen 0
    have y1 := hkb2.frozen 1
    have y2 := hkb2.frozen 2
    go_wp2_with fail
    obtain ⟨wF, hwF⟩ : ∃ wF, wF = set3 w2 (w.heap.size + 1) (.slice A1 l1.length c1) (.int .i64 le1) (.bool of1) := ⟨_, rfl⟩
    have HKF0 := Lib.hid hwF
    have hkF : Blk wF (w.heap.size + 1) 52 #[(.slice A1 l1.length c1 : Value), (.int .i64 le1 : Value), (.bool of1 : Value)] := by rw [hwF]; exact set3_blk hkb2 _ _ _
    have hbF : Below w.heap.size w wF := by rw [hwF]; exact set3_below hbw2 hbw2.size (Nat.le_succ _) _ _ _
    have f0 := hkF.cell 0
    have f1 := hkF.cell 1
    have f2 := hkF.cell 2
    simp only [List.getElem?_toArray, List.getElem?_cons_zero, List.getElem?_cons_succ] at f0 f1 f2
    unfold set3 at hwF
    rw [← hwF]
    refine bodyPost_ret (v := .tuple #[.agg #[(.slice A1 l1.length c1 : Value), (.int .i64 le1 : Value), (.bool of1 : Value)], .int .i64 code]) (by simp [results, Try.results37, go_sem, f0, f1, f2]) rfl ?_
    have HKF := Lib.hid (show Kept (fun i => w.heap.size ≤ i ∧ i < wa.heap.size) w2 wF from HKF0 ▸ set3_bx (Nat.le_succ _) (by have := HSA.out; omega) _ _ _)
    rw [HFIN.out]
    exact ⟨_, rfl, ⟨_, l1, rfl, HF2.out.keep2 HKF.out (by have := HSA.out; omega), HL1.out⟩, hbF⟩
end Go.Proofs.Ythmbmecodddkeaa
