/- The walk of the reference's call rTrunc. -/
import Derived.Test.YthmbmecodddkeaaRF5
namespace Go.Proofs.Ythmbmecodddkeaa
open Go.RowKit Go.WideMaps
set_option maxRecDepth 100000 in
set_option maxHeartbeats 4000000 in
theorem rtrunc_any (G : Nat → Prop) (fv : Value) (l : List PF) (y : RY) (nm : ByteArray) (x : Int) (w : World) (hF : FsM G w fv l) (hl : l.map Prod.fst = y.files) (hris : RisingG AF.name y.files) (hn : l.length ≤ 900000) (hs : nm.size ≤ maxLen) (hx : -9223372036854775808 ≤ x ∧ x ≤ 9223372036854775807) (hlo : -1 ≤ y.left) (hhi : y.left ≤ 9223372036854775807) (hsy : ∀ f ∈ y.files, f.sync ≤ f.data.length ∧ f.data.length ≤ 16777216) :
    Calls Try.prog 39 #[.agg #[fv, .int .i64 y.left, .bool y.off], .string nm, .int .i64 x] w (Re2 G w (rTrunc y nm x)) := by
  obtain ⟨files, left, off⟩ := y
  simp only at hl hris hlo hhi hsy ⊢
  obtain ⟨hka, hkb, hba⟩ := two_blk w fv (.int .i64 left) (.bool off)
  obtain ⟨wa, hwa⟩ : ∃ wa, wa = two w fv (.int .i64 left) (.bool off) := ⟨_, rfl⟩
  rw [← hwa] at hka hkb hba
  have hsa : w.heap.size + 2 ≤ wa.heap.size := by rw [hwa]; simp [two]
  have hFa : FsM (LoG G w.heap.size wa.heap.size) wa fv l := (hF.mono (G' := LoG G w.heap.size wa.heap.size) fun i hi hg => .inl ⟨hg, hi⟩).below hba
  obtain ⟨r, hr⟩ : ∃ r, r = rBegin ⟨files, left, off⟩ (validN nm) := ⟨_, rfl⟩
  have hcs := rbegin_cases ⟨files, left, off⟩ (validN nm)
  rw [← hr] at hcs
  obtain ⟨wn, hwn⟩ : ∃ wn, wn = wa.alloc (.cells #[.string nm] 9) := ⟨_, rfl⟩
  have hbn : Below wa.heap.size wa wn := by rw [hwn]; exact (Below.refl _ _).alloc (Nat.le_refl _) _
  have hrn : Reads wn (wa.heap.size + 1) 1 (some ⟨wa.heap.size, 0, none⟩) 1 ([nm].map Value.string) := by rw [hwn]; exact Reads.of_alloc wa #[.string nm] 9 (by omega) rfl
  have hbg := rbegin_any (LoG G w.heap.size wa.heap.size) fv l ⟨files, left, off⟩ (some ⟨wa.heap.size, 0, none⟩) 1 1 (wa.heap.size + 1) [nm] wn (hFa.below hbn) hl hrn (by rw [hwn]; simp) rfl (by omega) (by intro s h; simp at h; subst h; exact hs)
  rw [show [nm].all validN = (validN nm) by simp, ← hr] at hbg
  rw [hwn] at hbg
  obtain ⟨A, c, rfl, hc⟩ := hF.slice
  have hlf : l.length = files.length := by rw [← hl, List.length_map]
  rw [hlf] at hn
  generalize l.length = n at *
  unfold two at hwa
  have HWA := Lib.hid hwa
  have HB := Lib.hid hba
  have HKB := Lib.hid hkb
  have HKA := Lib.hid hka
  have HSA := Lib.hid hsa
  have HR := Lib.hid hr
  have HRIS := Lib.hid hris
  have HSY := Lib.hid hsy
  have HWN := Lib.hid hwn
  have HBN := Lib.hid hbn
  have x0 := hka.cell 0
  have x1 := hka.cell 1
  have x2 := hka.cell 2
  simp only [List.getElem?_toArray, List.getElem?_cons_zero, List.getElem?_cons_succ] at x0 x1 x2
  clear hwa hba hka hkb hF hl hr hlf hris hsy hrn hbn hwn hFa
  go_enter Try.func39, Try.ntmps39
  go_upto_region 1 with (fail)
  rw [← HWA.out]
  go_wp2_with fail
  refine hbg.mono ?_
  clear hbg x0 x1 x2
  rintro e w1 ⟨v1, rfl, ⟨fv1, l1, rfl, hF1, hl1⟩, hb1⟩
  obtain ⟨A1, c1, rfl, hc1⟩ := hF1.slice
  have hb1' : Below wa.heap.size wa w1 := HBN.out.trans ((HWN.out ▸ hb1).mono HBN.out.size)
  have hF1 := hF1.lo (by simp)
  have hk1 := HKA.out.below hb1' HKA.out.lt
  have hkb1 := HKB.out.below hb1' HKB.out.lt
  have hbw1 := HB.out.trans (hb1'.mono HB.out.size)
  have x0 := hk1.cell 0
  have x1 := hk1.cell 1
  have x2 := hk1.cell 2
  simp only [List.getElem?_toArray, List.getElem?_cons_zero, List.getElem?_cons_succ] at x0 x1 x2
  have u0 := hk1.frozen 0
  have u1 := hk1.frozen 1
  have u2 := hk1.frozen 2
  rcases hcs with rfl | hcd
  · simp only at hl1
    go_upto_region 2 with (fail)
    obtain ⟨w2, hw2⟩ : ∃ w2, w2 = set3 w1 w.heap.size (.slice A1 l1.length c1) (.int .i64 left) (.bool off) := ⟨_, rfl⟩
    have hk2 : Blk w2 w.heap.size 52 #[.slice A1 l1.length c1, .int .i64 left, .bool off] := by rw [hw2]; exact set3_blk hk1 _ _ _
    have hq2 : Kept (fun i => w.heap.size ≤ i ∧ i < wa.heap.size) w1 w2 := by rw [hw2]; exact set3_bx (Nat.le_refl _) (by have := HSA.out; omega) _ _ _
    have hbw2 : Below w.heap.size w w2 := by rw [hw2]; exact set3_below hbw1 hbw1.size (Nat.le_refl _) _ _ _
    have hkb2 : Blk w2 (w.heap.size + 1) 52 #[.slice none 0 0, .int .i64 0, .bool false] := by rw [hw2]; exact hkb1.kept (set3_kept _ _ _ _ _) (show ¬ (w.heap.size + 1 = w.heap.size) by omega)
    have hF2 := hF1.keep1 hq2
    have hs1 := hb1'.size
    have hs2 := hq2.size
    unfold set3 at hw2
    rw [← hw2]
    clear hw2 x0 x1 x2 u0 u1 u2 hk1 hkb1 hq2 hF1
    have hn1 : l1.length ≤ 900000 := by rw [← hl1, List.length_map] at hn; exact hn
    have hfd := find_of hl1 nm.data.toList
    have hris1 := ris_of hl1 HRIS.out
    have hr0 : rBegin ⟨files, left, off⟩ (validN nm) = (⟨files, left, off⟩, 0) := HR.out.symm
    have HR0 := Lib.hid (show (rBegin ⟨files, left, off⟩ (validN nm)).2 = 0 by rw [hr0])
    have hfi := rfind_any _ _ l1 left off nm w2 hF2 (by omega)
    have HFD := Lib.hid hfd
    have HL1 := Lib.hid hl1
    have HRIS1 := Lib.hid hris1
    have HBW2 := Lib.hid hbw2
    clear hr0 hfd hl1 hris1 HR
    have x0 := hk2.cell 0
    have x1 := hk2.cell 1
    have x2 := hk2.cell 2
    simp only [List.getElem?_toArray, List.getElem?_cons_zero, List.getElem?_cons_succ] at x0 x1 x2
    go_wp2_with fail
    refine hfi.mono ?_
    clear hfi x0 x1 x2
    rintro e w3 ⟨rfl, hb3⟩
    have hk3 := hk2.below hb3 hk2.lt
    have hkb3 := hkb2.below hb3 hkb2.lt
    have hbw3 := hbw2.trans (hb3.mono hbw2.size)
    have hF3 := hF2.below hb3
    have hs3 := hb3.size
    clear hk2 hkb2 hbw2 hF2 hb3
    by_cases hkl : posG pn nm.data.toList l1 < l1.length
    · have hfi : findI nm.data.toList l1 = (posG pn nm.data.toList l1 : Int) := by unfold findI; rw [if_pos hkl]
      rw [hfi]
      have hfa := HFD.out
      rw [List.getElem?_eq_getElem hkl] at hfa
      have hnm0 : l1[posG pn nm.data.toList l1].1.name = nm.data.toList := by
        have h := posG_find (nm := pn) nm.data.toList l1
        rw [List.getElem?_eq_getElem hkl] at h
        exact (findG_name h).1
      have HFA := Lib.hid hfa
      have HNM := Lib.hid hnm0
      have hpay := hF3.pay _ (List.getElem_mem hkl)
      have hsy1 := HSY.out l1[posG pn nm.data.toList l1].1 (by rw [← HL1.out]; exact List.mem_map_of_mem (List.getElem_mem hkl))
      obtain ⟨b, o, e1, hbl, c0, c1', c2⟩ := hF3.at_ hkl
      have hkn : (0 : Int) ≤ (posG pn nm.data.toList l1 : Int) := by omega
      generalize posG pn nm.data.toList l1 = k at *
      generalize l1[k] = p at *
      obtain ⟨⟨pnm, pdata, psync⟩, pdv⟩ := p
      simp only at c0 c1' c2 HFA HNM hpay hsy1
      obtain ⟨A5, c5, rfl, hc5⟩ := hpay.form
      subst e1
      clear hfi hfa hnm0
      by_cases hxr : x < 0 ∨ (pdata.length : Int) < x
      · have HFIN := Lib.hid (show rTrunc ⟨files, left, off⟩ nm x = (⟨files, left, off⟩, 1) by
          unfold rTrunc
          rw [if_neg (by rw [HR0.out]; decide)]
          simp only
          rw [HFA.out]
          simp only [Option.map_some]
          rw [if_pos hxr])
        obtain ⟨w4, hw4⟩ : ∃ w4, w4 = w3.alloc (.cells #[.string ⟨pnm.toArray⟩, .slice A5 pdata.length c5, .int .i64 (psync : Int)] 86) := ⟨_, rfl⟩
        have hb4 : Below w3.heap.size w3 w4 := by rw [hw4]; exact (Below.refl _ _).alloc (Nat.le_refl _) _
        have hkf : Blk w4 w3.heap.size 86 #[.string ⟨pnm.toArray⟩, .slice A5 pdata.length c5, .int .i64 (psync : Int)] := by rw [hw4]; exact Blk.new _ _ _
        have hx4 := hk3.below hb4 hk3.lt
        have hkb4 := hkb3.below hb4 hkb3.lt
        have hbw4 := hbw3.trans (hb4.mono hbw3.size)
        have HF4 := Lib.hid (hF3.below hb4)
        have x0 := hk3.cell 0
        simp only [List.getElem?_toArray, List.getElem?_cons_zero] at x0
        go_upto_region 8 with (fail)
        rw [← hw4]
        clear hw4 x0 c0 c1' c2 hb4 hF3
        have f0 := hkf.cell 0
        have f1 := hkf.cell 1
        simp only [List.getElem?_toArray, List.getElem?_cons_zero, List.getElem?_cons_succ] at f0 f1
        by_cases hx0 : x < 0
        · clear hxr
          go_upto_region 9 with (fail)
          have x0 := hx4.cell 0
          have x1 := hx4.cell 1
          have x2 := hx4.cell 2
          simp only [List.getElem?_toArray, List.getElem?_cons_zero, List.getElem?_cons_succ] at x0 x1 x2
          have z0 := hkb4.cell 0
          have z1 := hkb4.cell 1
          have z2 := hkb4.cell 2
          simp only [List.getElem?_toArray, List.getElem?_cons_zero, List.getElem?_cons_succ] at z0 z1 z2
          have y0 := hkb4.frozen 0
          have y1 := hkb4.frozen 1
          have y2 := hkb4.frozen 2
          go_wp2_with fail
          obtain ⟨wF, hwF⟩ : ∃ wF, wF = set3 w4 (w.heap.size + 1) (.slice (some ⟨b, o, none⟩) l1.length c1) (.int .i64 left) (.bool off) := ⟨_, rfl⟩
          have HKF0 := Lib.hid hwF
          have hkF : Blk wF (w.heap.size + 1) 52 #[(.slice (some ⟨b, o, none⟩) l1.length c1 : Value), (.int .i64 left : Value), (.bool off : Value)] := by rw [hwF]; exact set3_blk hkb4 _ _ _
          have hbF : Below w.heap.size w wF := by rw [hwF]; exact set3_below hbw4 hbw4.size (Nat.le_succ _) _ _ _
          have g0 := hkF.cell 0
          have g1 := hkF.cell 1
          have g2 := hkF.cell 2
          simp only [List.getElem?_toArray, List.getElem?_cons_zero, List.getElem?_cons_succ] at g0 g1 g2
          unfold set3 at hwF
          rw [← hwF]
          refine bodyPost_ret (v := .tuple #[.agg #[(.slice (some ⟨b, o, none⟩) l1.length c1 : Value), (.int .i64 left : Value), (.bool off : Value)], .int .i64 1]) (by simp [results, Try.results39, go_sem, g0, g1, g2]) rfl ?_
          have HKF := Lib.hid (show Kept (fun i => w.heap.size ≤ i ∧ i < wa.heap.size) w4 wF from HKF0 ▸ set3_bx (Nat.le_succ _) (by have := HSA.out; omega) _ _ _)
          rw [HFIN.out]
          exact ⟨_, rfl, ⟨_, l1, rfl, HF4.out.keep2 HKF.out (by have := HSA.out; omega), HL1.out⟩, hbF⟩
        · have hx1 : (pdata.length : Int) < x := by rcases hxr with h | h; exact absurd h hx0; exact h
          clear hxr
          go_upto_region 9 with (fail)
          have x0 := hx4.cell 0
          have x1 := hx4.cell 1
          have x2 := hx4.cell 2
          simp only [List.getElem?_toArray, List.getElem?_cons_zero, List.getElem?_cons_succ] at x0 x1 x2
          have z0 := hkb4.cell 0
          have z1 := hkb4.cell 1
          have z2 := hkb4.cell 2
          simp only [List.getElem?_toArray, List.getElem?_cons_zero, List.getElem?_cons_succ] at z0 z1 z2
          have y0 := hkb4.frozen 0
          have y1 := hkb4.frozen 1
          have y2 := hkb4.frozen 2
          go_wp2_with fail
          obtain ⟨wF, hwF⟩ : ∃ wF, wF = set3 w4 (w.heap.size + 1) (.slice (some ⟨b, o, none⟩) l1.length c1) (.int .i64 left) (.bool off) := ⟨_, rfl⟩
          have HKF0 := Lib.hid hwF
          have hkF : Blk wF (w.heap.size + 1) 52 #[(.slice (some ⟨b, o, none⟩) l1.length c1 : Value), (.int .i64 left : Value), (.bool off : Value)] := by rw [hwF]; exact set3_blk hkb4 _ _ _
          have hbF : Below w.heap.size w wF := by rw [hwF]; exact set3_below hbw4 hbw4.size (Nat.le_succ _) _ _ _
          have g0 := hkF.cell 0
          have g1 := hkF.cell 1
          have g2 := hkF.cell 2
          simp only [List.getElem?_toArray, List.getElem?_cons_zero, List.getElem?_cons_succ] at g0 g1 g2
          unfold set3 at hwF
          rw [← hwF]
          refine bodyPost_ret (v := .tuple #[.agg #[(.slice (some ⟨b, o, none⟩) l1.length c1 : Value), (.int .i64 left : Value), (.bool off : Value)], .int .i64 1]) (by simp [results, Try.results39, go_sem, g0, g1, g2]) rfl ?_
          have HKF := Lib.hid (show Kept (fun i => w.heap.size ≤ i ∧ i < wa.heap.size) w4 wF from HKF0 ▸ set3_bx (Nat.le_succ _) (by have := HSA.out; omega) _ _ _)
          rw [HFIN.out]
          exact ⟨_, rfl, ⟨_, l1, rfl, HF4.out.keep2 HKF.out (by have := HSA.out; omega), HL1.out⟩, hbF⟩
      · obtain ⟨m, rfl⟩ : ∃ m : Nat, x = m := ⟨x.toNat, by omega⟩
        have hml : m ≤ pdata.length := by omega
        have HFIN := Lib.hid (show rTrunc ⟨files, left, off⟩ nm m = (rDone ⟨putG AF.name ⟨pnm, pdata.take m, min psync m⟩ files, left, off⟩, 0) by
          unfold rTrunc
          rw [if_neg (by rw [HR0.out]; decide)]
          simp only
          rw [HFA.out]
          simp only [Option.map_some]
          rw [if_neg hxr, HNM.out, Int.toNat_natCast])
        clear hxr
        obtain ⟨i0, hi, hz0, hz1, hz2⟩ := info_parts infoB
        obtain ⟨w4, hw4⟩ : ∃ w4, w4 = w3.alloc (.cells #[.string ⟨pnm.toArray⟩, .slice A5 pdata.length c5, .int .i64 (psync : Int)] 86) := ⟨_, rfl⟩
        have hb4 : Below w3.heap.size w3 w4 := by rw [hw4]; exact (Below.refl _ _).alloc (Nat.le_refl _) _
        have hkf : Blk w4 w3.heap.size 86 #[.string ⟨pnm.toArray⟩, .slice A5 pdata.length c5, .int .i64 (psync : Int)] := by rw [hw4]; exact Blk.new _ _ _
        have hs4 := hb4.size
        have hlt4 := hkf.lt
        have hx4 := hk3.below hb4 hk3.lt
        have hkb4 := hkb3.below hb4 hkb3.lt
        have hbw4 := hbw3.trans (hb4.mono hbw3.size)
        have hF4 := hF3.below hb4
        have hFz := (hF3.mono (G' := fun i => LoG G w.heap.size wa.heap.size i ∧ i < w3.heap.size) fun i hi hg => ⟨hg, hi⟩).below hb4
        have hpay4 := hpay.keptF (F := fun _ => False) (Kept.of_below hb4) fun _ _ _ h => h
        have x0 := hk3.cell 0
        simp only [List.getElem?_toArray, List.getElem?_cons_zero] at x0
        go_upto_region 8 with (fail)
        rw [← hw4]
        have HB4 := Lib.hid hb4
        clear hw4 x0 c0 c1' c2 hb4 hF3 hpay
        have f0 := hkf.cell 0
        have f1 := hkf.cell 1
        simp only [List.getElem?_toArray, List.getElem?_cons_zero, List.getElem?_cons_succ] at f0 f1
        have hkfa := hkf.alloc (.cells #[] 5)
        have g0 := hkfa.cell 0
        have g1 := hkfa.cell 1
        simp only [List.getElem?_toArray, List.getElem?_cons_zero, List.getElem?_cons_succ] at g0 g1
        have hown0 := World.ownsRow_lit (e := 5) (size := 1) w4 #[] 0 (Nat.le_refl _) (by decide) rfl
        have hrt := ((hpay4.take hml).reads.2.2).alloc (Nat.le_refl _) (.cells #[] 5)
        have hsl := fun W => slice_to A5 pdata.length c5 m (by omega) W
        go_wp2_with (at_builtin; refine wpList_append_any _ rfl (.tmp 43) (.tmp 47) 28 rfl w4.heap.size 5 i0 (.int .u8 0) 1 1 Try.underlying28 hi hz0 hz1 hz2 rfl (by decide) _ _ _ rfl hown0 w4.heap.size _ _ _ ((pdata.take m).map byteV) rfl hrt (oneBV _) (by unfold maxLen; omega) (by omega) (by simp) ?_)
        intro v5 w5 hown5 hg5 _
        obtain ⟨A6, c6, rfl⟩ := own_form hown5
        have hb5 := below_own ((Below.refl w4.heap.size w4).alloc (Nat.le_refl _) (.cells #[] 5)) (by simp) (Nat.le_refl _) hown0 hg5
        have hs5 := hb5.size
        clear hown0 hrt hg5 g0 g1 hkfa f0 f1 hsl
        have hkf5 := hkf.below hb5 hkf.lt
        have f0 := hkf5.cell 0
        have f1 := hkf5.cell 1
        have f2 := hkf5.cell 2
        simp only [List.getElem?_toArray, List.getElem?_cons_zero, List.getElem?_cons_succ] at f0 f1 f2
        have u0 := hkf5.frozen 0
        have u1 := hkf5.frozen 1
        have u2 := hkf5.frozen 2
        go_upto_region 12 with (fail)
        obtain ⟨mm, hmm⟩ : ∃ mm, mm = min psync m := ⟨_, rfl⟩
        have hmi : (min (psync : Int) (m : Int)) = (mm : Int) := by omega
        rw [hmi]
        rw [← hmm] at HFIN
        obtain ⟨w6, hw6⟩ : ∃ w6, w6 = (w5.setCell ⟨w3.heap.size, 1, none⟩ (.slice A6 m c6)).setCell ⟨w3.heap.size, 2, none⟩ (.int .i64 (mm : Int)) := ⟨_, rfl⟩
        have hkf6 := (hkf5.set_ 1 (.slice A6 m c6)).set_ 2 (.int .i64 (mm : Int))
        rw [← hw6] at hkf6 ⊢
        simp only [List.setIfInBounds_toArray, List.set_cons_succ, List.set_cons_zero] at hkf6
        have hq6 : Kept (fun i => i = w3.heap.size) w5 w6 := by rw [hw6]; exact (kept_set w5 w3.heap.size 1 _).trans ((kept_set _ w3.heap.size 2 _).mono fun _ hi => .inl hi)
        have hp6 : PayG (LoG G w.heap.size wa.heap.size) w6 (.slice A6 m c6) (pdata.take m) := by
          have h : w5.ownsRow w4.heap.size 5 1 (.slice A6 m c6) m ((pdata.take m).map byteV) := by simpa [List.map_take] using hown5
          exact ((PayG.of_own (G := fun i => w4.heap.size ≤ i) h (own_le h) fun g hg _ => hg).keptF hq6 fun i _ hi e => by have : i = w3.heap.size := e; omega).mono fun i _ hi => .inr (by omega)
        have hF6 : FsM (LoG G w.heap.size wa.heap.size) w6 (.slice (some ⟨b, o, none⟩) l1.length c1) l1 := ((hFz.below hb5).keptF hq6 fun i _ hi e => by have : i = w3.heap.size := e; omega).mono fun i _ hi => hi.1
        have hx6 := (hx4.below hb5 hx4.lt).kept hq6 (show ¬ (w.heap.size = w3.heap.size) by have := HSA.out; omega)
        have hkb6 := (hkb4.below hb5 hkb4.lt).kept hq6 (show ¬ (w.heap.size + 1 = w3.heap.size) by have := HSA.out; omega)
        have hbw6 : Below w.heap.size w w6 := hq6.below (hbw4.trans (hb5.mono hbw4.size)) (Nat.le_trans hbw4.size hb5.size) fun i hi => by have : i = w3.heap.size := hi; have := HSA.out; omega
        have hs6 := hq6.size
        have hml2 : (pdata.take m).length = m := by rw [List.length_take]; omega
        have hwi := rwith_any (LoG G w.heap.size wa.heap.size) (.slice (some ⟨b, o, none⟩) l1.length c1) l1 left off ⟨pnm.toArray⟩ (.slice A6 m c6) (pdata.take m) mm w6 hF6 hp6 HRIS1.out (by omega)
        simp only at hwi
        clear hw6 hmi hmm hkf5 f0 f1 f2 u0 u1 u2 hown5 hF4 hpay4 hFz hx4 hkb4 hbw4 hp6 hF6 hml2
        have x0 := hx6.cell 0
        have x1 := hx6.cell 1
        have x2 := hx6.cell 2
        simp only [List.getElem?_toArray, List.getElem?_cons_zero, List.getElem?_cons_succ] at x0 x1 x2
        have f0 := hkf6.cell 0
        have f1 := hkf6.cell 1
        have f2 := hkf6.cell 2
        simp only [List.getElem?_toArray, List.getElem?_cons_zero, List.getElem?_cons_succ] at f0 f1 f2
        clear hkf hkf6 hq6
        go_wp2_with fail
        refine hwi.mono ?_
        clear hwi x0 x1 x2 f0 f1 f2 hx6 hk3
        rintro e w7 ⟨fv5, rfl, hF5, hb7⟩
        have hF5 := hF5.lo (by omega)
        have hdo := rdone_any (LoG G w.heap.size wa.heap.size) fv5 _ ⟨(putG pn (⟨pnm, pdata.take m, mm⟩, .slice A6 m c6) l1).map Prod.fst, left, off⟩ w7 hF5 rfl hlo hhi
        have hkb5 := hkb6.below hb7 hkb6.lt
        have hbw5 := hbw6.trans (hb7.mono hbw6.size)
        have hs7 := hb7.size
        rw [put_fst, HL1.out] at hdo
        clear hkb6 hbw6
        have HFY := Lib.hid HFIN.out
        obtain ⟨y9, hy9⟩ : ∃ y9, y9 = rDone ⟨putG AF.name ⟨pnm, pdata.take m, mm⟩ files, left, off⟩ := ⟨_, rfl⟩
        rw [← hy9] at hdo HFY
        have HFY2 := Lib.hid HFY.out
        clear hy9 HFY
        obtain ⟨fs9, le9, of9⟩ := y9
        go_wp2_with fail
        refine hdo.mono ?_
        clear hdo
        rintro e w8 ⟨v6, rfl, ⟨fv6, l6, rfl, hF6, hl6⟩, hb6⟩
        obtain ⟨A6, c6, rfl, hc6⟩ := hF6.slice
        have hF6 := hF6.lo (by omega)
        have hkb6 := hkb5.below hb6 hkb5.lt
        have hbw8 := hbw5.trans (hb6.mono hbw5.size)
        have HF6 := Lib.hid hF6
        have HL6 := Lib.hid hl6
        clear hF6 hl6 hF5
        have z0 := hkb6.cell 0
        have z1 := hkb6.cell 1
        have z2 := hkb6.cell 2
        simp only [List.getElem?_toArray, List.getElem?_cons_zero, List.getElem?_cons_succ] at z0 z1 z2
        have y0 := hkb6.frozen 0
        have y1 := hkb6.frozen 1
        have y2 := hkb6.frozen 2
        go_wp2_with fail
        obtain ⟨wF, hwF⟩ : ∃ wF, wF = set3 w8 (w.heap.size + 1) (.slice A6 l6.length c6) (.int .i64 le9) (.bool of9) := ⟨_, rfl⟩
        have HKF0 := Lib.hid hwF
        have hkF : Blk wF (w.heap.size + 1) 52 #[(.slice A6 l6.length c6 : Value), (.int .i64 le9 : Value), (.bool of9 : Value)] := by rw [hwF]; exact set3_blk hkb6 _ _ _
        have hbF : Below w.heap.size w wF := by rw [hwF]; exact set3_below hbw8 hbw8.size (Nat.le_succ _) _ _ _
        have f0 := hkF.cell 0
        have f1 := hkF.cell 1
        have f2 := hkF.cell 2
        simp only [List.getElem?_toArray, List.getElem?_cons_zero, List.getElem?_cons_succ] at f0 f1 f2
        unfold set3 at hwF
        rw [← hwF]
        refine bodyPost_ret (v := .tuple #[.agg #[(.slice A6 l6.length c6 : Value), (.int .i64 le9 : Value), (.bool of9 : Value)], .int .i64 0]) (by simp [results, Try.results39, go_sem, f0, f1, f2]) rfl ?_
        have HKF := Lib.hid (show Kept (fun i => w.heap.size ≤ i ∧ i < wa.heap.size) w8 wF from HKF0 ▸ set3_bx (Nat.le_succ _) (by have := HSA.out; omega) _ _ _)
        rw [HFY2.out]
        exact ⟨_, rfl, ⟨_, l6, rfl, HF6.out.keep2 HKF.out (by have := HSA.out; omega), HL6.out⟩, hbF⟩
    · have hfi : findI nm.data.toList l1 = -1 := by unfold findI; rw [if_neg hkl]
      rw [hfi]
      have hfa := HFD.out
      rw [List.getElem?_eq_none (by omega)] at hfa
      have HFIN := Lib.hid (show rTrunc ⟨files, left, off⟩ nm x = (⟨files, left, off⟩, 5) by
        unfold rTrunc
        rw [if_neg (by rw [HR0.out]; decide)]
        simp only
        rw [hfa]
        rfl)
      have HF3 := Lib.hid hF3
      clear hfi hfa hF3
      have x0 := hk3.cell 0
      have x1 := hk3.cell 1
      have x2 := hk3.cell 2
      simp only [List.getElem?_toArray, List.getElem?_cons_zero, List.getElem?_cons_succ] at x0 x1 x2
      have z0 := hkb3.cell 0
      have z1 := hkb3.cell 1
      have z2 := hkb3.cell 2
      simp only [List.getElem?_toArray, List.getElem?_cons_zero, List.getElem?_cons_succ] at z0 z1 z2
      have y0 := hkb3.frozen 0
      have y1 := hkb3.frozen 1
      have y2 := hkb3.frozen 2
      go_wp2_with fail
      obtain ⟨wF, hwF⟩ : ∃ wF, wF = set3 w3 (w.heap.size + 1) (.slice A1 l1.length c1) (.int .i64 left) (.bool off) := ⟨_, rfl⟩
      have HKF0 := Lib.hid hwF
      have hkF : Blk wF (w.heap.size + 1) 52 #[(.slice A1 l1.length c1 : Value), (.int .i64 left : Value), (.bool off : Value)] := by rw [hwF]; exact set3_blk hkb3 _ _ _
      have hbF : Below w.heap.size w wF := by rw [hwF]; exact set3_below hbw3 hbw3.size (Nat.le_succ _) _ _ _
      have f0 := hkF.cell 0
      have f1 := hkF.cell 1
      have f2 := hkF.cell 2
      simp only [List.getElem?_toArray, List.getElem?_cons_zero, List.getElem?_cons_succ] at f0 f1 f2
      unfold set3 at hwF
      rw [← hwF]
      refine bodyPost_ret (v := .tuple #[.agg #[(.slice A1 l1.length c1 : Value), (.int .i64 left : Value), (.bool off : Value)], .int .i64 5]) (by simp [results, Try.results39, go_sem, f0, f1, f2]) rfl ?_
      have HKF := Lib.hid (show Kept (fun i => w.heap.size ≤ i ∧ i < wa.heap.size) w3 wF from HKF0 ▸ set3_bx (Nat.le_succ _) (by have := HSA.out; omega) _ _ _)
      rw [HFIN.out]
      exact ⟨_, rfl, ⟨_, l1, rfl, HF3.out.keep2 HKF.out (by have := HSA.out; omega), HL1.out⟩, hbF⟩
  · obtain ⟨⟨f1, le1, of1⟩, code⟩ := r
    simp only at hl1 hcd
    have HFIN := Lib.hid (show rTrunc ⟨files, left, off⟩ nm x = (⟨f1, le1, of1⟩, code) by
      unfold rTrunc
      rw [if_pos (by rw [← HR.out]; show code ≠ 0; omega), ← HR.out])
    have hne : (code != 0) = true := by rcases hcd with h | h <;> rw [h] <;> decide
    have hne2 : (code == 0) = false := by rcases hcd with h | h <;> rw [h] <;> decide
    have HL1 := Lib.hid hl1
    clear hcd hl1
    go_upto_region 2 with (fail)
    obtain ⟨w2, hw2⟩ : ∃ w2, w2 = set3 w1 w.heap.size (.slice A1 l1.length c1) (.int .i64 le1) (.bool of1) := ⟨_, rfl⟩
    have hk2 : Blk w2 w.heap.size 52 #[.slice A1 l1.length c1, .int .i64 le1, .bool of1] := by rw [hw2]; exact set3_blk hk1 _ _ _
    have hq2 : Kept (fun i => w.heap.size ≤ i ∧ i < wa.heap.size) w1 w2 := by rw [hw2]; exact set3_bx (Nat.le_refl _) (by have := HSA.out; omega) _ _ _
    have hbw2 : Below w.heap.size w w2 := by rw [hw2]; exact set3_below hbw1 hbw1.size (Nat.le_refl _) _ _ _
    have hkb2 : Blk w2 (w.heap.size + 1) 52 #[.slice none 0 0, .int .i64 0, .bool false] := by rw [hw2]; exact hkb1.kept (set3_kept _ _ _ _ _) (show ¬ (w.heap.size + 1 = w.heap.size) by omega)
    have hF2 := hF1.keep1 hq2
    have hs1 := hb1'.size
    have hs2 := hq2.size
    unfold set3 at hw2
    rw [← hw2]
    clear hw2 x0 x1 x2 u0 u1 u2 hk1 hkb1 hq2 hF1
    have HF2 := Lib.hid hF2
    clear hF2
    have x0 := hk2.cell 0
    have x1 := hk2.cell 1
    have x2 := hk2.cell 2
    simp only [List.getElem?_toArray, List.getElem?_cons_zero, List.getElem?_cons_succ] at x0 x1 x2
    have z0 := hkb2.cell 0
    have z1 := hkb2.cell 1
    have z2 := hkb2.cell 2
    simp only [List.getElem?_toArray, List.getElem?_cons_zero, List.getElem?_cons_succ] at z0 z1 z2
    have y0 := hkb2.frozen 0
    have y1 := hkb2.frozen 1
    have y2 := hkb2.frozen 2
    go_wp2_with fail
    obtain ⟨wF, hwF⟩ : ∃ wF, wF = set3 w2 (w.heap.size + 1) (.slice A1 l1.length c1) (.int .i64 le1) (.bool of1) := ⟨_, rfl⟩
    have HKF0 := Lib.hid hwF
    have hkF : Blk wF (w.heap.size + 1) 52 #[(.slice A1 l1.length c1 : Value), (.int .i64 le1 : Value), (.bool of1 : Value)] := by rw [hwF]; exact set3_blk hkb2 _ _ _
    have hbF : Below w.heap.size w wF := by rw [hwF]; exact set3_below hbw2 hbw2.size (Nat.le_succ _) _ _ _
    have f0 := hkF.cell 0
    have f1 := hkF.cell 1
    have f2 := hkF.cell 2
    simp only [List.getElem?_toArray, List.getElem?_cons_zero, List.getElem?_cons_succ] at f0 f1 f2
    unfold set3 at hwF
    rw [← hwF]
    refine bodyPost_ret (v := .tuple #[.agg #[(.slice A1 l1.length c1 : Value), (.int .i64 le1 : Value), (.bool of1 : Value)], .int .i64 code]) (by simp [results, Try.results39, go_sem, f0, f1, f2]) rfl ?_
    have HKF := Lib.hid (show Kept (fun i => w.heap.size ≤ i ∧ i < wa.heap.size) w2 wF from HKF0 ▸ set3_bx (Nat.le_succ _) (by have := HSA.out; omega) _ _ _)
    rw [HFIN.out]
    exact ⟨_, rfl, ⟨_, l1, rfl, HF2.out.keep2 HKF.out (by have := HSA.out; omega), HL1.out⟩, hbF⟩
end Go.Proofs.Ythmbmecodddkeaa
