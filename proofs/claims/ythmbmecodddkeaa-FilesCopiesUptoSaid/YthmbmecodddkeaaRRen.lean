/- The walk of the reference's call rRename. -/
import Derived.Test.YthmbmecodddkeaaRF5
import Derived.StillTailTactics
namespace Go.Proofs.Ythmbmecodddkeaa
open Go.RowKit Go.WideMaps
set_option maxRecDepth 100000 in
set_option maxHeartbeats 4000000 in
theorem rrename_any (G : Nat → Prop) (fv : Value) (l : List PF) (y : RY) (nm : ByteArray) (nw : ByteArray) (w : World) (hF : FsM G w fv l) (hl : l.map Prod.fst = y.files) (hris : RisingG AF.name y.files) (hn : l.length ≤ 900000) (hs : nm.size ≤ maxLen) (hs2 : nw.size ≤ maxLen) (hlo : -1 ≤ y.left) (hhi : y.left ≤ 9223372036854775807) (hsy : ∀ f ∈ y.files, f.sync ≤ f.data.length ∧ f.data.length ≤ 16777216) :
    Calls Try.prog 40 #[.agg #[fv, .int .i64 y.left, .bool y.off], .string nm, .string nw] w (Re2 G w (rRename y nm nw)) := by
  obtain ⟨files, left, off⟩ := y
  simp only at hl hris hlo hhi hsy ⊢
  obtain ⟨hka, hkb, hba⟩ := two_blk w fv (.int .i64 left) (.bool off)
  obtain ⟨wa, hwa⟩ : ∃ wa, wa = two w fv (.int .i64 left) (.bool off) := ⟨_, rfl⟩
  rw [← hwa] at hka hkb hba
  have hsa : w.heap.size + 2 ≤ wa.heap.size := by rw [hwa]; simp [two]
  have hFa : FsM (LoG G w.heap.size wa.heap.size) wa fv l := (hF.mono (G' := LoG G w.heap.size wa.heap.size) fun i hi hg => .inl ⟨hg, hi⟩).below hba
  obtain ⟨r, hr⟩ : ∃ r, r = rBegin ⟨files, left, off⟩ (validN nm && validN nw) := ⟨_, rfl⟩
  have hcs := rbegin_cases ⟨files, left, off⟩ (validN nm && validN nw)
  rw [← hr] at hcs
  obtain ⟨wn, hwn⟩ : ∃ wn, wn = wa.alloc (.cells #[.string nm, .string nw] 9) := ⟨_, rfl⟩
  have hbn : Below wa.heap.size wa wn := by rw [hwn]; exact (Below.refl _ _).alloc (Nat.le_refl _) _
  have hrn : Reads wn (wa.heap.size + 1) 1 (some ⟨wa.heap.size, 0, none⟩) 2 ([nm, nw].map Value.string) := by rw [hwn]; exact Reads.of_alloc wa #[.string nm, .string nw] 9 (by omega) rfl
  have hbg := rbegin_any (LoG G w.heap.size wa.heap.size) fv l ⟨files, left, off⟩ (some ⟨wa.heap.size, 0, none⟩) 2 2 (wa.heap.size + 1) [nm, nw] wn (hFa.below hbn) hl hrn (by rw [hwn]; simp) rfl (by omega) (by intro s h; simp at h; rcases h with rfl | rfl <;> assumption)
  rw [show [nm, nw].all validN = (validN nm && validN nw) by simp, ← hr] at hbg
  rw [hwn] at hbg
  obtain ⟨A, c, rfl, hc⟩ := hF.slice
  have hlf : l.length = files.length := by rw [← hl, List.length_map]
  rw [hlf] at hn
  generalize l.length = n at *
  unfold two at hwa
  have HWA := Lib.hid hwa
  have HB := Lib.hid hba
  have HKB := Lib.hid hkb
  have HKA := Lib.hid hka
  have HSA := Lib.hid hsa
  have HR := Lib.hid hr
  have HRIS := Lib.hid hris
  have HSY := Lib.hid hsy
  have HWN := Lib.hid hwn
  have HBN := Lib.hid hbn
  have x0 := hka.cell 0
  have x1 := hka.cell 1
  have x2 := hka.cell 2
  simp only [List.getElem?_toArray, List.getElem?_cons_zero, List.getElem?_cons_succ] at x0 x1 x2
  clear hwa hba hka hkb hF hl hr hlf hris hsy hrn hbn hwn hFa
  go_enter Try.func40, Try.ntmps40
  go_upto_region 1 with (fail)
  rw [← HWA.out]
  go_wp2_with fail
  refine hbg.mono ?_
  clear hbg x0 x1 x2
  rintro e w1 ⟨v1, rfl, ⟨fv1, l1, rfl, hF1, hl1⟩, hb1⟩
  obtain ⟨A1, c1, rfl, hc1⟩ := hF1.slice
  have hb1' : Below wa.heap.size wa w1 := HBN.out.trans ((HWN.out ▸ hb1).mono HBN.out.size)
  have hF1 := hF1.lo (by simp)
  have hk1 := HKA.out.below hb1' HKA.out.lt
  have hkb1 := HKB.out.below hb1' HKB.out.lt
  have hbw1 := HB.out.trans (hb1'.mono HB.out.size)
  have x0 := hk1.cell 0
  have x1 := hk1.cell 1
  have x2 := hk1.cell 2
  simp only [List.getElem?_toArray, List.getElem?_cons_zero, List.getElem?_cons_succ] at x0 x1 x2
  have u0 := hk1.frozen 0
  have u1 := hk1.frozen 1
  have u2 := hk1.frozen 2
  rcases hcs with rfl | hcd
  · simp only at hl1
    go_upto_region 2 with (fail)
    obtain ⟨w2, hw2⟩ : ∃ w2, w2 = set3 w1 w.heap.size (.slice A1 l1.length c1) (.int .i64 left) (.bool off) := ⟨_, rfl⟩
    have hk2 : Blk w2 w.heap.size 52 #[.slice A1 l1.length c1, .int .i64 left, .bool off] := by rw [hw2]; exact set3_blk hk1 _ _ _
    have hq2 : Kept (fun i => w.heap.size ≤ i ∧ i < wa.heap.size) w1 w2 := by rw [hw2]; exact set3_bx (Nat.le_refl _) (by have := HSA.out; omega) _ _ _
    have hbw2 : Below w.heap.size w w2 := by rw [hw2]; exact set3_below hbw1 hbw1.size (Nat.le_refl _) _ _ _
    have hkb2 : Blk w2 (w.heap.size + 1) 52 #[.slice none 0 0, .int .i64 0, .bool false] := by rw [hw2]; exact hkb1.kept (set3_kept _ _ _ _ _) (show ¬ (w.heap.size + 1 = w.heap.size) by omega)
    have hF2 := hF1.keep1 hq2
    have hs1 := hb1'.size
    have hs2 := hq2.size
    unfold set3 at hw2
    rw [← hw2]
    clear hw2 x0 x1 x2 u0 u1 u2 hk1 hkb1 hq2 hF1
    have hn1 : l1.length ≤ 900000 := by rw [← hl1, List.length_map] at hn; exact hn
    have hfd := find_of hl1 nm.data.toList
    have hris1 := ris_of hl1 HRIS.out
    have hr0 : rBegin ⟨files, left, off⟩ (validN nm && validN nw) = (⟨files, left, off⟩, 0) := HR.out.symm
    have HR0 := Lib.hid (show (rBegin ⟨files, left, off⟩ (validN nm && validN nw)).2 = 0 by rw [hr0])
    have hfi := rfind_any _ _ l1 left off nm w2 hF2 (by omega)
    have HFD := Lib.hid hfd
    have HL1 := Lib.hid hl1
    have HRIS1 := Lib.hid hris1
    have HBW2 := Lib.hid hbw2
    clear hr0 hfd hl1 hris1 HR
    have x0 := hk2.cell 0
    have x1 := hk2.cell 1
    have x2 := hk2.cell 2
    simp only [List.getElem?_toArray, List.getElem?_cons_zero, List.getElem?_cons_succ] at x0 x1 x2
    go_wp2_with fail
    refine hfi.mono ?_
    clear hfi x0 x1 x2
    rintro e w3 ⟨rfl, hb3⟩
    have hk3 := hk2.below hb3 hk2.lt
    have hkb3 := hkb2.below hb3 hkb2.lt
    have hbw3 := hbw2.trans (hb3.mono hbw2.size)
    have hF3 := hF2.below hb3
    have hs3 := hb3.size
    clear hk2 hkb2 hbw2 hF2 hb3
    by_cases hkl : posG pn nm.data.toList l1 < l1.length
    · have hfi : findI nm.data.toList l1 = (posG pn nm.data.toList l1 : Int) := by unfold findI; rw [if_pos hkl]
      rw [hfi]
      have hfa := HFD.out
      rw [List.getElem?_eq_getElem hkl] at hfa
      have hnm0 : l1[posG pn nm.data.toList l1].1.name = nm.data.toList := by
        have h := posG_find (nm := pn) nm.data.toList l1
        rw [List.getElem?_eq_getElem hkl] at h
        exact (findG_name h).1
      have HFA := Lib.hid hfa
      have HNM := Lib.hid hnm0
      have hpay := hF3.pay _ (List.getElem_mem hkl)
      have hsy1 := HSY.out l1[posG pn nm.data.toList l1].1 (by rw [← HL1.out]; exact List.mem_map_of_mem (List.getElem_mem hkl))
      obtain ⟨b, o, e1, hbl, c0, c1', c2⟩ := hF3.at_ hkl
      have hkn : (0 : Int) ≤ (posG pn nm.data.toList l1 : Int) := by omega
      generalize posG pn nm.data.toList l1 = k at *
      generalize l1[k] = p at *
      obtain ⟨⟨pnm, pdata, psync⟩, pdv⟩ := p
      simp only at c0 c1' c2 HFA HNM hpay hsy1
      obtain ⟨A5, c5, rfl, hc5⟩ := hpay.form
      subst e1
      clear hfi hfa hnm0
      have HFIN := Lib.hid (show rRename ⟨files, left, off⟩ nm nw = (rDone ⟨putG AF.name ⟨nw.data.toList, pdata, psync⟩ (dropG AF.name nm.data.toList files), left, off⟩, 0) by
        unfold rRename
        rw [if_neg (by rw [HR0.out]; decide)]
        simp only
        rw [HFA.out]
        rfl)
      obtain ⟨w4, hw4⟩ : ∃ w4, w4 = w3.alloc (.cells #[.string nw, .slice A5 pdata.length c5, .int .i64 (psync : Int)] 86) := ⟨_, rfl⟩
      have hb4 : Below w3.heap.size w3 w4 := by rw [hw4]; exact (Below.refl _ _).alloc (Nat.le_refl _) _
      have hkf : Blk w4 w3.heap.size 86 #[.string nw, .slice A5 pdata.length c5, .int .i64 (psync : Int)] := by rw [hw4]; exact Blk.new _ _ _
      have hs4 := hb4.size
      have hlt4 := hkf.lt
      have hx4 := hk3.below hb4 hk3.lt
      have hkb4 := hkb3.below hb4 hkb3.lt
      have hbw4 := hbw3.trans (hb4.mono hbw3.size)
      have hF4 := hF3.below hb4
      have hpay4 := hpay.keptF (F := fun _ => False) (Kept.of_below hb4) fun _ _ _ h => h
      have x0 := hk3.cell 0
      simp only [List.getElem?_toArray, List.getElem?_cons_zero] at x0
      go_upto_region 9 with (fail)
      rw [← hw4]
      clear hw4 x0 c0 c1' c2 hb4 hF3 hpay hk3 hkb3 hbw3
      have hbd : Below w4.heap.size w4 w4.drew := (Below.refl _ _).drew
      have hFd := hF4.below hbd
      have hwo := rwithout_any (LoG G w.heap.size wa.heap.size) (.slice (some ⟨b, o, none⟩) l1.length c1) l1 left off nm w4.drew hFd (by omega)
      have hdr : RisingG pn (dropG pn nm.data.toList l1) := List.Pairwise.filter _ HRIS1.out
      have hdl := dropG_len nm.data.toList l1
      have HFD4 := Lib.hid (show (dropG pn nm.data.toList l1).map Prod.fst = dropG AF.name nm.data.toList files by rw [drop_fst, HL1.out])
      generalize dropG pn nm.data.toList l1 = d at *
      have K49 := Lib.hid (show ∀ (w5 : World) (fv5 : Value), FsM (UpG (LoG G w.heap.size wa.heap.size) w4.drew.heap.size) w5 fv5 d → Below w4.drew.heap.size w4.drew w5 → Calls Try.prog 49 #[.agg #[fv5, .int .i64 left, .bool off], .agg #[.string nw, .slice A5 pdata.length c5, .int .i64 (psync : Int)]] w5 (ReW (LoG G w.heap.size wa.heap.size) w5 (putG pn (⟨nw.data.toList, pdata, psync⟩, .slice A5 pdata.length c5) d) left off) from fun w5 fv5 h hb =>
        rwith_any _ fv5 d left off nw _ pdata psync w5 (h.lo (by show _ ≤ w4.heap.size; omega)) ((hpay4.keptF (F := fun _ => False) (Kept.of_below hbd) fun _ _ _ h => h).keptF (F := fun _ => False) (Kept.of_below hb) fun _ _ _ h => h) hdr (by omega))
      have K48 := Lib.hid (show ∀ (w5 w6 : World) (fv6 : Value), Below w4.drew.heap.size w4.drew w5 → FsM (UpG (LoG G w.heap.size wa.heap.size) w5.heap.size) w6 fv6 (putG pn (⟨nw.data.toList, pdata, psync⟩, .slice A5 pdata.length c5) d) → Calls Try.prog 48 #[.agg #[fv6, .int .i64 left, .bool off]] w6 (Re1 (LoG G w.heap.size wa.heap.size) w6 (rDone ⟨putG AF.name ⟨nw.data.toList, pdata, psync⟩ (dropG AF.name nm.data.toList files), left, off⟩)) from fun w5 w6 fv6 hb h => by
        have hh := rdone_any (LoG G w.heap.size wa.heap.size) fv6 _ ⟨(putG pn (⟨nw.data.toList, pdata, psync⟩, .slice A5 pdata.length c5) d).map Prod.fst, left, off⟩ w6 (h.lo (by have := hb.size; simp at this; omega)) rfl hlo hhi
        rw [put_fst, HFD4.out] at hh
        exact hh)
      have hxd := hx4.drew
      have hkfd := hkf.drew
      have hkbd := hkb4.drew
      have KS := Lib.hid (show ∀ w', Below w4.drew.heap.size w4.drew w' → (w'.cell? ⟨w.heap.size, 0, none⟩ = some (.slice (some ⟨b, o, none⟩) l1.length c1) ∧ w'.cell? ⟨w.heap.size, 1, none⟩ = some (.int .i64 left) ∧ w'.cell? ⟨w.heap.size, 2, none⟩ = some (.bool off) ∧ w'.cell? ⟨w3.heap.size, 0, none⟩ = some (.string nw) ∧ w'.cell? ⟨w3.heap.size, 1, none⟩ = some (.slice A5 pdata.length c5) ∧ w'.cell? ⟨w3.heap.size, 2, none⟩ = some (.int .i64 (psync : Int))) ∧ Blk w' (w.heap.size + 1) 52 #[.slice none 0 0, .int .i64 0, .bool false] from fun w' hb => by
        have h1 := hxd.below hb hxd.lt
        have h2 := hkfd.below hb hkfd.lt
        exact ⟨⟨h1.cell 0, h1.cell 1, h1.cell 2, h2.cell 0, h2.cell 1, h2.cell 2⟩, hkbd.below hb hkbd.lt⟩)
      obtain ⟨y9, hy9⟩ : ∃ y9, y9 = rDone ⟨putG AF.name ⟨nw.data.toList, pdata, psync⟩ (dropG AF.name nm.data.toList files), left, off⟩ := ⟨_, rfl⟩
      rw [← hy9] at K48 HFIN
      clear hy9
      obtain ⟨fs9, le9, of9⟩ := y9
      have KB := Lib.hid hbw4
      have HLT := Lib.hid (show w.heap.size + 1 < w3.heap.size by have := HSA.out; omega)
      have hne9 : ¬ (w3.heap.size = w.heap.size + 1) := by have := HLT.out; omega
      have hne9' : ¬ (w.heap.size + 1 = w3.heap.size) := by have := HLT.out; omega
      have x0 := hx4.cell 0
      have x1 := hx4.cell 1
      have x2 := hx4.cell 2
      simp only [List.getElem?_toArray, List.getElem?_cons_zero, List.getElem?_cons_succ] at x0 x1 x2
      have f0 := hkf.cell 0
      have f1 := hkf.cell 1
      have f2 := hkf.cell 2
      simp only [List.getElem?_toArray, List.getElem?_cons_zero, List.getElem?_cons_succ] at f0 f1 f2
      clear hxd hkfd hkbd hx4 hkf hkb4 hpay4 hbw4 hF4 hFd hdr HKB HKA HB
      go_region_held3 (fun w' => w'.cell? ⟨w.heap.size, 0, none⟩ = some (.slice (some ⟨b, o, none⟩) l1.length c1) ∧ w'.cell? ⟨w.heap.size, 1, none⟩ = some (.int .i64 left) ∧ w'.cell? ⟨w.heap.size, 2, none⟩ = some (.bool off) ∧ w'.cell? ⟨w3.heap.size, 0, none⟩ = some (.string nw) ∧ w'.cell? ⟨w3.heap.size, 1, none⟩ = some (.slice A5 pdata.length c5) ∧ w'.cell? ⟨w3.heap.size, 2, none⟩ = some (.int .i64 (psync : Int)))
        (first | go_keep | (go_split_ands; exact ⟨by assumption, by assumption, by assumption, by assumption, by assumption, by assumption⟩) | assumption)
        (first
          | (go_at_call 50; refine hwo.mono ?_; rintro e w5 ⟨fv5, rfl, hF5, hb5⟩; obtain ⟨⟨s0, s1, s2, s3, s4, s5⟩, hkb5⟩ := KS.out _ hb5)
          | (go_at_call 49; refine (K49.out _ _ hF5 hb5).mono ?_; rintro e w6 ⟨fv6, rfl, hF6, hb6⟩; have hb56 := hb5.trans (hb6.mono hb5.size); obtain ⟨⟨t0, t1, t2, t3, t4, t5⟩, hkb6⟩ := KS.out _ hb56)
          | (go_at_call 48; refine (K48.out _ _ _ hb5 hF6).mono ?_; rintro e w7 ⟨v7, rfl, ⟨fv7, l7, rfl, hF7, hl7⟩, hb7⟩; obtain ⟨A7, c7, rfl, hc7⟩ := hF7.slice; have hb57 := hb56.trans (hb7.mono hb56.size); obtain ⟨⟨q0, q1, q2, q3, q4, q5⟩, hkb7⟩ := KS.out _ hb57; have z0 := hkb7.cell 0; have z1 := hkb7.cell 1; have z2 := hkb7.cell 2; have y0 := hkb7.frozen 0; have y1 := hkb7.frozen 1; have y2 := hkb7.frozen 2; simp only [List.getElem?_toArray, List.getElem?_cons_zero, List.getElem?_cons_succ] at z0 z1 z2))
      clear q0 q1 q2 q3 q4 q5 t0 t1 t2 t3 t4 t5 s0 s1 s2 s3 s4 s5 x0 x1 x2 f0 f1 f2 z0 z1 z2 y0 y1 y2
      have hs6 := hb56.size
      have hbw7 : Below w.heap.size w w7 := KB.out.trans ((hbd.trans (hb57.mono (by simp))).mono KB.out.size)
      have HF7 := Lib.hid (hF7.lo (wa := wa) (G := G) (w := w) (by simp at hs6; omega))
      have HL7 := Lib.hid hl7
      clear hF5 hF6 hF7 hl7
      obtain ⟨wF, hwF⟩ : ∃ wF, wF = set3 w7 (w.heap.size + 1) (.slice A7 l7.length c7) (.int .i64 le9) (.bool of9) := ⟨_, rfl⟩
      have HKF0 := Lib.hid hwF
      have hkF : Blk wF (w.heap.size + 1) 52 #[(.slice A7 l7.length c7 : Value), (.int .i64 le9 : Value), (.bool of9 : Value)] := by rw [hwF]; exact set3_blk hkb7 _ _ _
      have hbF : Below w.heap.size w wF := by rw [hwF]; exact set3_below hbw7 hbw7.size (Nat.le_succ _) _ _ _
      have f0 := hkF.cell 0
      have f1 := hkF.cell 1
      have f2 := hkF.cell 2
      simp only [List.getElem?_toArray, List.getElem?_cons_zero, List.getElem?_cons_succ] at f0 f1 f2
      unfold set3 at hwF
      rw [← hwF]
      go_wp2_with fail
      refine bodyPost_ret (v := .tuple #[.agg #[(.slice A7 l7.length c7 : Value), (.int .i64 le9 : Value), (.bool of9 : Value)], .int .i64 0]) (by simp [results, Try.results40, go_sem, f0, f1, f2]) rfl ?_
      have HKF := Lib.hid (show Kept (fun i => w.heap.size ≤ i ∧ i < wa.heap.size) w7 wF from HKF0 ▸ set3_bx (Nat.le_succ _) (by have := HSA.out; omega) _ _ _)
      rw [HFIN.out]
      exact ⟨_, rfl, ⟨_, l7, rfl, HF7.out.keep2 HKF.out (by have := HSA.out; omega), HL7.out⟩, hbF⟩
    · have hfi : findI nm.data.toList l1 = -1 := by unfold findI; rw [if_neg hkl]
      rw [hfi]
      have hfa := HFD.out
      rw [List.getElem?_eq_none (by omega)] at hfa
      have HFIN := Lib.hid (show rRename ⟨files, left, off⟩ nm nw = (⟨files, left, off⟩, 5) by
        unfold rRename
        rw [if_neg (by rw [HR0.out]; decide)]
        simp only
        rw [hfa]
        rfl)
      have HF3 := Lib.hid hF3
      clear hfi hfa hF3
      have x0 := hk3.cell 0
      have x1 := hk3.cell 1
      have x2 := hk3.cell 2
      simp only [List.getElem?_toArray, List.getElem?_cons_zero, List.getElem?_cons_succ] at x0 x1 x2
      have z0 := hkb3.cell 0
      have z1 := hkb3.cell 1
      have z2 := hkb3.cell 2
      simp only [List.getElem?_toArray, List.getElem?_cons_zero, List.getElem?_cons_succ] at z0 z1 z2
      have y0 := hkb3.frozen 0
      have y1 := hkb3.frozen 1
      have y2 := hkb3.frozen 2
      go_wp2_with fail
      obtain ⟨wF, hwF⟩ : ∃ wF, wF = set3 w3 (w.heap.size + 1) (.slice A1 l1.length c1) (.int .i64 left) (.bool off) := ⟨_, rfl⟩
      have HKF0 := Lib.hid hwF
      have hkF : Blk wF (w.heap.size + 1) 52 #[(.slice A1 l1.length c1 : Value), (.int .i64 left : Value), (.bool off : Value)] := by rw [hwF]; exact set3_blk hkb3 _ _ _
      have hbF : Below w.heap.size w wF := by rw [hwF]; exact set3_below hbw3 hbw3.size (Nat.le_succ _) _ _ _
      have f0 := hkF.cell 0
      have f1 := hkF.cell 1
      have f2 := hkF.cell 2
      simp only [List.getElem?_toArray, List.getElem?_cons_zero, List.getElem?_cons_succ] at f0 f1 f2
      unfold set3 at hwF
      rw [← hwF]
      refine bodyPost_ret (v := .tuple #[.agg #[(.slice A1 l1.length c1 : Value), (.int .i64 left : Value), (.bool off : Value)], .int .i64 5]) (by simp [results, Try.results40, go_sem, f0, f1, f2]) rfl ?_
      have HKF := Lib.hid (show Kept (fun i => w.heap.size ≤ i ∧ i < wa.heap.size) w3 wF from HKF0 ▸ set3_bx (Nat.le_succ _) (by have := HSA.out; omega) _ _ _)
      rw [HFIN.out]
      exact ⟨_, rfl, ⟨_, l1, rfl, HF3.out.keep2 HKF.out (by have := HSA.out; omega), HL1.out⟩, hbF⟩
  · obtain ⟨⟨f1, le1, of1⟩, code⟩ := r
    simp only at hl1 hcd
    have HFIN := Lib.hid (show rRename ⟨files, left, off⟩ nm nw = (⟨f1, le1, of1⟩, code) by
      unfold rRename
      rw [if_pos (by rw [← HR.out]; show code ≠ 0; omega), ← HR.out])
    have hne : (code != 0) = true := by rcases hcd with h | h <;> rw [h] <;> decide
    have hne2 : (code == 0) = false := by rcases hcd with h | h <;> rw [h] <;> decide
    have HL1 := Lib.hid hl1
    clear hcd hl1
    go_upto_region 2 with (fail)
    obtain ⟨w2, hw2⟩ : ∃ w2, w2 = set3 w1 w.heap.size (.slice A1 l1.length c1) (.int .i64 le1) (.bool of1) := ⟨_, rfl⟩
    have hk2 : Blk w2 w.heap.size 52 #[.slice A1 l1.length c1, .int .i64 le1, .bool of1] := by rw [hw2]; exact set3_blk hk1 _ _ _
    have hq2 : Kept (fun i => w.heap.size ≤ i ∧ i < wa.heap.size) w1 w2 := by rw [hw2]; exact set3_bx (Nat.le_refl _) (by have := HSA.out; omega) _ _ _
    have hbw2 : Below w.heap.size w w2 := by rw [hw2]; exact set3_below hbw1 hbw1.size (Nat.le_refl _) _ _ _
    have hkb2 : Blk w2 (w.heap.size + 1) 52 #[.slice none 0 0, .int .i64 0, .bool false] := by rw [hw2]; exact hkb1.kept (set3_kept _ _ _ _ _) (show ¬ (w.heap.size + 1 = w.heap.size) by omega)
    have hF2 := hF1.keep1 hq2
    have hs1 := hb1'.size
    have hs2 := hq2.size
    unfold set3 at hw2
    rw [← hw2]
    clear hw2 x0 x1 x2 u0 u1 u2 hk1 hkb1 hq2 hF1
    have HF2 := Lib.hid hF2
    clear hF2
    have x0 := hk2.cell 0
    have x1 := hk2.cell 1
    have x2 := hk2.cell 2
    simp only [List.getElem?_toArray, List.getElem?_cons_zero, List.getElem?_cons_succ] at x0 x1 x2
    have z0 := hkb2.cell 0
    have z1 := hkb2.cell 1
    have z2 := hkb2.cell 2
    simp only [List.getElem?_toArray, List.getElem?_cons_zero, List.getElem?_cons_succ] at z0 z1 z2
    have y0 := hkb2.frozen 0
    have y1 := hkb2.frozen 1
    have y2 := hkb2.frozen 2
    go_wp2_with fail
    obtain ⟨wF, hwF⟩ : ∃ wF, wF = set3 w2 (w.heap.size + 1) (.slice A1 l1.length c1) (.int .i64 le1) (.bool of1) := ⟨_, rfl⟩
    have HKF0 := Lib.hid hwF
    have hkF : Blk wF (w.heap.size + 1) 52 #[(.slice A1 l1.length c1 : Value), (.int .i64 le1 : Value), (.bool of1 : Value)] := by rw [hwF]; exact set3_blk hkb2 _ _ _
    have hbF : Below w.heap.size w wF := by rw [hwF]; exact set3_below hbw2 hbw2.size (Nat.le_succ _) _ _ _
    have f0 := hkF.cell 0
    have f1 := hkF.cell 1
    have f2 := hkF.cell 2
    simp only [List.getElem?_toArray, List.getElem?_cons_zero, List.getElem?_cons_succ] at f0 f1 f2
    unfold set3 at hwF
    rw [← hwF]
    refine bodyPost_ret (v := .tuple #[.agg #[(.slice A1 l1.length c1 : Value), (.int .i64 le1 : Value), (.bool of1 : Value)], .int .i64 code]) (by simp [results, Try.results40, go_sem, f0, f1, f2]) rfl ?_
    have HKF := Lib.hid (show Kept (fun i => w.heap.size ≤ i ∧ i < wa.heap.size) w2 wF from HKF0 ▸ set3_bx (Nat.le_succ _) (by have := HSA.out; omega) _ _ _)
    rw [HFIN.out]
    exact ⟨_, rfl, ⟨_, l1, rfl, HF2.out.keep2 HKF.out (by have := HSA.out; omega), HL1.out⟩, hbF⟩
end Go.Proofs.Ythmbmecodddkeaa
