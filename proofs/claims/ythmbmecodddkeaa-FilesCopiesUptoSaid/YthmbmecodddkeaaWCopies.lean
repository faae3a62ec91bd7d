/- The walk of FilesCopies (func 6). -/
import Derived.Test.YthmbmecodddkeaaWAlike
import Derived.Test.YthmbmecodddkeaaWPre
namespace Go.Proofs.Ythmbmecodddkeaa
open Go.RowKit Go.WideMaps Go.Sort
theorem scr_two {wb : World} {A B : Option Addr} {n c m d : Nat} {l k : List ActR} (h : ActsM wb A n l) (h2 : ActsM wb B m k) : ScrM (wb.alloc (.cells #[.slice A n c, .slice B m d] 42)) (some ⟨wb.heap.size, 0, none⟩) 2 [.slice A n c, .slice B m d] [l, k] := by
  have hb : Below wb.heap.size wb (wb.alloc (.cells #[.slice A n c, .slice B m d] 42)) := (Below.refl wb.heap.size wb).alloc (Nat.le_refl _) _
  refine ⟨Reads.of_alloc wb #[.slice A n c, .slice B m d] 42 (by simp) rfl, rfl, fun i hi => ?_⟩
  have : i = 0 ∨ i = 1 := by simp at hi; omega
  rcases this with rfl | rfl
  · exact ⟨A, n, c, rfl, h.below hb⟩
  · exact ⟨B, m, d, rfl, h2.below hb⟩
def CpRel (w0 : World) (base sb mb mo N n : Nat) (s31 : Value) (wr : World) : Prop :=
  ∃ j F G st y, j ≤ n ∧ s31 = .int .i64 (j : Nat) ∧ LoopM w0 wr base F sb mb (N + j) mo 16777216 G st y ∧ ∀ i, G i → i < wr.heap.size
set_option maxRecDepth 100000 in
set_option maxHeartbeats 8000000 in
theorem copies_main (A B : Option Addr) (n c m d : Nat) (l k : List ActR) (w : World) (hA : ActsM w A n l) (hB : ActsM w B m k) :
    Calls Try.prog 6 #[.slice A n c, .slice B m d] w (AwEnd w) := by
  have HA := Lib.hid hA
  have HBB := Lib.hid hB
  have hgr := great_any _ 2 2 _ [l, k] _ (scr_two (c := c) (d := d) hA hB) (by omega)
  have hba : Below w.heap.size w (w.alloc (.cells #[.slice A n c, .slice B m d] 42)) := (Below.refl _ _).alloc (Nat.le_refl _) _
  have HBA := Lib.hid hba
  have hsz : (w.alloc (.cells #[.slice A n c, .slice B m d] 42)).heap.size = w.heap.size + 1 := by simp
  have HSZ := Lib.hid hsz
  clear hA hB hba hsz
  by_cases hg : 400 < totN [l, k] 2
  · rw [show decide (400 < totN [l, k] [l, k].length) = true from decide_eq_true hg] at hgr
    go_enter Try.func6, Try.ntmps6
    go_wp2_with fail
    refine hgr.mono ?_
    clear hgr
    rintro e w1 ⟨rfl, hb1⟩
    go_wp2_with fail
    go_ret
    exact ⟨rfl, HBA.out.trans (hb1.mono (by rw [HSZ.out]; omega))⟩
  rw [show decide (400 < totN [l, k] [l, k].length) = false from decide_eq_false hg] at hgr
  have hs1 := gr_small l
  have hs2 := gr_small k
  have htot : totN [l, k] 2 = grN l + grN k := by simp [totN]
  rw [htot] at hg
  unfold grN at hg
  have hn9 : n ≤ 400 := by have := HA.out.len; omega
  have hm9 : m ≤ 400 := by have := HBB.out.len; omega
  have HN1 := Lib.hid (show ∀ a ∈ l, a.nd ≤ 1000000 ∧ a.mm ≤ 1000000 from fun a ha => by have := hs1.1 a ha; omega)
  have HN2 := Lib.hid (show ∀ a ∈ k, a.nd ≤ 1000000 ∧ a.mm ≤ 1000000 from fun a ha => by have := hs2.1 a ha; omega)
  clear hg htot hs1 hs2
  go_enter Try.func6, Try.ntmps6
  go_wp2_with fail
  refine hgr.mono ?_
  clear hgr
  rintro e w1 ⟨rfl, hb1⟩
  have hbw1 := HBA.out.trans (hb1.mono (by rw [HSZ.out]; omega))
  clear hb1
  go_wp2_with fail
  refine (newS_any w1).mono ?_
  rintro e w2 ⟨rfl, hS2, hq⟩
  have hb2 := hbw1.trans (hq.mono hbw1.size)
  have hS2 := hS2.cap
  obtain ⟨F2, hF2, hS2⟩ : ∃ F2, Hid (∀ i, F2 i → w1.heap.size ≤ i ∧ i < w2.heap.size) ∧ SysM w2 w1.heap.size F2 (w1.heap.size + 1) w1.heap.size 0 emptyA := ⟨_, fun i hi => hi, hS2⟩
  go_wp2_with fail
  refine (alive_any w2).mono ?_
  rintro e w2' ⟨rfl, hq2'⟩
  have hb2' := hb2.trans (hq2'.mono hb2.size)
  have hnw := rnew2_any w2'
  go_wp2_with fail
  refine hnw.mono ?_
  clear hnw
  rintro e w3 ⟨rfl, hb3⟩
  obtain ⟨w4, hw4⟩ : ∃ w4, w4 = w3.alloc (.cells #[.slice none 0 0, .int .i64 (-1), .bool false] 52) := ⟨_, rfl⟩
  have hk4 : Blk w4 w3.heap.size 52 #[.slice none 0 0, .int .i64 (-1), .bool false] := by rw [hw4]; exact Blk.new _ _ _
  have hq4 : Below w3.heap.size w3 w4 := by rw [hw4]; exact (Below.refl _ _).alloc (Nat.le_refl _) _
  have hq24 := hq2'.trans ((hb3.trans (hq4.mono hb3.size)).mono hq2'.size)
  have hb4 := hb2.trans (hq24.mono hb2.size)
  have hS4 := hS2.below hq24
  have hbase : w.heap.size ≤ w1.heap.size := hbw1.size
  have hmo : w2.heap.size ≤ w3.heap.size := Nat.le_trans hq2'.size hb3.size
  have hL0 : LoopM w w4 w1.heap.size F2 (w1.heap.size + 1) w1.heap.size 0 w3.heap.size 16777216 (fun _ => False) emptyA y0 :=
    ⟨⟨_, PlS.first hS4 (fun i hi => Nat.lt_of_lt_of_le (hF2.out i hi).2 hq24.size) _ (fun _ h => h.elim), hk4⟩, fun hf => by have := (hF2.out _ hf).2; omega, fun h => h, by have := hq.size; omega, hb4, fun f hf => by cases hf⟩
  have HL0 := Lib.hid hL0
  go_upto_region 7 with (fail)
  rw [← hw4]
  clear hw4 hk4 hq4 hq24 hb4 hS4 hS2 hL0 hb3 hb2 hq hbw1 hb2' hq2'
  generalize w1.heap.size = base at *
  generalize w3.heap.size = mo at *
  clear hF2 hmo
  go_wp2_with fail
  go_loopw [31] (fun s31 wr => CpRel w base (base + 1) base mo 0 n s31 wr) (fun s31 _ => n - (intOf s31).toNat)
  case atStart => exact ⟨0, F2, _, _, _, Nat.zero_le _, rfl, HL0.out, fun _ h => h.elim⟩
  case round =>
    clear HL0
    obtain ⟨j, F, G, st, y, hj, rfl, hL, hGlt⟩ := hrel
    by_cases hlt : j < n
    · have hjl : j < l.length := by rw [HA.out.len]; exact hlt
      obtain ⟨b, o, e1, hat⟩ := HA.out.at_ j hjl
      obtain ⟨hnd1, hmk1⟩ := HN1.out _ (List.getElem_mem hjl)
      obtain ⟨fv, hP, hkm⟩ := hL.pl
      obtain ⟨Af, nf, cf, rfl⟩ : ∃ A n c, fv = .slice A n c := by
        obtain ⟨fv', l', e, hF, _⟩ := hP.ry
        obtain ⟨A, c, e2, _⟩ := hF.slice
        injection e with e
        have e3 : fv = fv' := by
          have := congrArg (fun a : Array Value => a[0]?) e
          simpa using this
        exact ⟨A, _, c, e3.trans e2⟩
      generalize l[j] = a at *
      have hbr := hL.bw
      have c0 := (hbr.cell (p := ⟨b, o + j * 6, none⟩) hat.blt).trans hat.c0
      have c1 := (hbr.cell (p := ⟨b, o + j * 6 + 1, none⟩) hat.blt).trans hat.c1
      have c2 := (hbr.cell (p := ⟨b, o + j * 6 + 2, none⟩) hat.blt).trans hat.c2
      have c3 := (hbr.cell (p := ⟨b, o + j * 6 + 3, none⟩) hat.blt).trans hat.c3
      have c4 := (hbr.cell (p := ⟨b, o + j * 6 + 4, none⟩) hat.blt).trans hat.c4
      have c5 := (hbr.cell (p := ⟨b, o + j * 6 + 5, none⟩) hat.blt).trans hat.c5
      obtain ⟨wa, hwa⟩ : ∃ wa, wa = wr.alloc (.cells #[.int .i64 a.k, .int .i64 a.x, .string a.nm, .string a.ot, .slice a.Ad a.nd a.cd, .slice a.Ak a.mm a.ck] 56) := ⟨_, rfl⟩
      have hba : Below wr.heap.size wr wa := by rw [hwa]; exact (Below.refl _ _).alloc (Nat.le_refl _) _
      have hka : Blk wa wr.heap.size 56 #[.int .i64 a.k, .int .i64 a.x, .string a.nm, .string a.ot, .slice a.Ad a.nd a.cd, .slice a.Ak a.mm a.ck] := by rw [hwa]; exact Blk.new _ _ _
      have hPa := hP.below hba
      have hkma := hkm.below hba hkm.lt
      have hbra := hbr.trans (hba.mono hbr.size)
      have hst := step_any hPa (by omega) a hat.ok hbra hbase hnd1 hmk1
      have hmlt := hkm.lt
      have E1 := Lib.hid e1
      have HL := Lib.hid hL
      have HPA := Lib.hid hPa
      have HKM := Lib.hid hkma
      have HBR := Lib.hid hbra
      have HGLT := Lib.hid hGlt
      have hsa := hba.size
      unfold ActR.v actV at hst
      have hq1 := E1.out
      subst hq1
      clear hP hkm hbr hat hL hPa hba hbra hGlt
      go_upto_region 10 with (fail)
      rw [← hwa]
      clear hwa c0 c1 c2 c3 c4 c5
      have x0 := hkma.cell 0
      have x1 := hkma.cell 1
      have x2 := hkma.cell 2
      have a0 := hka.cell 0
      have a1 := hka.cell 1
      have a2 := hka.cell 2
      have a3 := hka.cell 3
      have a4 := hka.cell 4
      have a5 := hka.cell 5
      simp only [List.getElem?_toArray, List.getElem?_cons_zero, List.getElem?_cons_succ] at x0 x1 x2 a0 a1 a2 a3 a4 a5
      clear hkma hka
      go_wp2_with fail
      refine hst.mono ?_
      clear hst x0 x1 x2 a0 a1 a2 a3 a4 a5
      rintro e w5 ⟨v5, rfl, hK5, F5, G5, hP5, hF5, hG5⟩
      obtain ⟨fv5, l5, rfl, hFs5, hl5⟩ := hP5.ry
      obtain ⟨A5, c5, rfl, hc5⟩ := hFs5.slice
      have hkm5 := HKM.out.kept hK5 HL.out.moF
      clear hFs5 hl5
      generalize (stepA st a.d).1 = st5 at *
      generalize (stepY y a.d).1 = y5 at *
      obtain ⟨wn, hwn⟩ : ∃ wn, wn = w5.alloc (.cells #[.slice A5 l5.length c5, .int .i64 y5.left, .bool y5.off] 52) := ⟨_, rfl⟩
      have hbn : Below w5.heap.size w5 wn := by rw [hwn]; exact (Below.refl _ _).alloc (Nat.le_refl _) _
      have hkn : Blk wn w5.heap.size 52 #[.slice A5 l5.length c5, .int .i64 y5.left, .bool y5.off] := by rw [hwn]; exact Blk.new _ _ _
      have hkmn := hkm5.below hbn hkm5.lt
      have hPn := hP5.below hbn
      have hs5 := hK5.size
      have hsn := hbn.size
      go_upto_region 13 with (fail)
      rw [← hwn]
      clear hwn
      have x0 := hkn.cell 0
      have x1 := hkn.cell 1
      have x2 := hkn.cell 2
      have z0 := hkmn.cell 0
      have z1 := hkmn.cell 1
      have z2 := hkmn.cell 2
      have q0 := hkmn.frozen 0
      have q1 := hkmn.frozen 1
      have q2 := hkmn.frozen 2
      simp only [List.getElem?_toArray, List.getElem?_cons_zero, List.getElem?_cons_succ] at x0 x1 x2 z0 z1 z2
      go_upto_region 14 with (fail)
      obtain ⟨w6, hw6⟩ : ∃ w6, w6 = set3 wn mo (.slice A5 l5.length c5) (.int .i64 y5.left) (.bool y5.off) := ⟨_, rfl⟩
      have hk6 : Blk w6 mo 52 #[.slice A5 l5.length c5, .int .i64 y5.left, .bool y5.off] := by rw [hw6]; exact set3_blk hkmn _ _ _
      have hq6 : Kept (fun i => i = mo) wn w6 := by rw [hw6]; exact set3_kept _ _ _ _ _
      have hmoF5 : ¬ F5 mo := fun h => by
        rcases hF5 mo h with h | h
        · exact HL.out.moF h
        · omega
      have hmoG5 : ¬ G5 mo := fun h => by
        rcases (hG5 mo h).1 with h | h
        · exact HL.out.moG h
        · omega
      have hFB : ∀ i, F i → w.heap.size ≤ i := fun i hi => by
        obtain ⟨_, _, _, _, h4, _⟩ := HPA.out.sys
        have := h4 i hi
        omega
      have hb5 := hK5.below HBR.out HBR.out.size hFB
      have hb6 : Below w.heap.size w w6 := hq6.below (hb5.trans (hbn.mono hb5.size)) (Nat.le_trans hb5.size hbn.size) fun i hi => by have : i = mo := hi; have := HL.out.mob; omega
      have hP6 := hPn.kept hq6 (fun i hi e => hmoF5 ((show i = mo from e) ▸ hi)) (fun i hi e => hmoG5 ((show i = mo from e) ▸ hi))
      have hL6 : LoopM w w6 base F5 (base + 1) (base) (0 + (j + 1)) mo 16777216 G5 st5 y5 :=
        ⟨⟨_, hP6, hk6⟩, hmoF5, hmoG5, HL.out.mob, hb6, fun f hf => (hP6.sys.files_ok.2 f hf).2⟩
      have hG6 : ∀ i, G5 i → i < w6.heap.size := fun i hi => by have := (hG5 i hi).2; have := hq6.size; omega
      have HL6 := Lib.hid (show _ ∧ _ from ⟨hL6, hG6⟩)
      unfold set3 at hw6
      rw [← hw6]
      clear hw6 x0 x1 x2 z0 z1 z2 q0 q1 q2 hkm5 hL6 hP5 hb6 hk6 hkmn hkn hP6 hPn
      go_wp2_with fail
      go_roundw
      · exact ⟨j + 1, F5, G5, st5, y5, hlt, by go_num, HL6.out.1, HL6.out.2⟩
      · simp [intOf]; omega
    · have hjn : j = n := by omega
      have hjd : decide ((j : Int) < (n : Int)) = false := by simp; omega
      subst hjn
      obtain ⟨wo, rfl⟩ : ∃ wo : World, wo = wr := ⟨_, rfl⟩
      obtain ⟨fv, hP, hkm⟩ := hL.pl
      have hbr := hL.bw
      have hcy := copy_any hP.sys hP.cap (by have := hP.inv.1; omega)
      obtain ⟨Af, nf, cf, rfl⟩ : ∃ A n c, fv = .slice A n c := by
        obtain ⟨fv', l', e, hF, _⟩ := hP.ry
        obtain ⟨A, c, e2, _⟩ := hF.slice
        injection e with e
        have e3 : fv = fv' := by
          have := congrArg (fun a : Array Value => a[0]?) e
          simpa using this
        exact ⟨A, _, c, e3.trans e2⟩
      have HL := Lib.hid hL
      have HP := Lib.hid hP
      have HKM := Lib.hid hkm
      have HGL := Lib.hid hGlt
      clear hL hP hGlt
      go_wp2_with fail
      refine hcy.mono ?_
      clear hcy
      rintro e w2 ⟨rfl, hbc, Fc, hSc, hFc⟩
      have hPf := HP.out.below hbc
      have hkm2 := hkm.below hbc hkm.lt
      have hPc : PlS w2 wo.heap.size Fc (wo.heap.size + 1) wo.heap.size (0 + j) G st (.agg #[.slice Af nf cf, .int .i64 y.left, .bool y.off]) y :=
        ⟨hSc.mono HP.out.inv.1, fun i hi => (hFc i hi).2, HP.out.str, hPf.ry, fun i hi hf => by have := HGL.out i hi; have := (hFc i hf).1; omega, HP.out.inv⟩
      have hal := alike_any hPc (by omega)
      have hbr2 := hbr.trans (hbc.mono hbr.size)
      have HPF := Lib.hid hPf
      have HPC := Lib.hid hPc
      have HFC := Lib.hid hFc
      have HBC := Lib.hid hbc
      have x0 := hkm2.cell 0
      have x1 := hkm2.cell 1
      have x2 := hkm2.cell 2
      simp only [List.getElem?_toArray, List.getElem?_cons_zero, List.getElem?_cons_succ] at x0 x1 x2
      clear hPf hPc hSc hFc hbc hkm
      go_wp2_with fail
      refine hal.mono ?_
      clear hal x0 x1 x2
      rintro e w3 ⟨rfl, hb3⟩
      obtain ⟨w4, hw4⟩ : ∃ w4, w4 = w3.alloc (.cells #[.slice Af nf cf, .int .i64 y.left, .bool y.off] 52) := ⟨_, rfl⟩
      have hb4 : Below w3.heap.size w3 w4 := by rw [hw4]; exact (Below.refl _ _).alloc (Nat.le_refl _) _
      have hk4 : Blk w4 w3.heap.size 52 #[.slice Af nf cf, .int .i64 y.left, .bool y.off] := by rw [hw4]; exact Blk.new _ _ _
      have hq24 := hb3.trans (hb4.mono hb3.size)
      have hs3 := hb3.size
      have hsc := HBC.out.size
      have hq04 := HBC.out.trans (hq24.mono HBC.out.size)
      have hP4 := HPC.out.below hq24
      have hL0 : LoopM wo w4 wo.heap.size Fc (wo.heap.size + 1) wo.heap.size (0 + j) w3.heap.size 16777216 G st y :=
        ⟨⟨_, hP4, hk4⟩, fun hf => by have := (HFC.out _ hf).2; omega, fun hg => by have := HGL.out _ hg; omega, by omega, hq04, fun f hf => (hP4.sys.files_ok.2 f hf).2⟩
      have HL0 := Lib.hid hL0
      have hx3 := hkm2.below hb3 hkm2.lt
      have x0 := hx3.cell 0
      have x1 := hx3.cell 1
      have x2 := hx3.cell 2
      simp only [List.getElem?_toArray, List.getElem?_cons_zero, List.getElem?_cons_succ] at x0 x1 x2
      have HA2 := Lib.hid (HBB.out.below hbr)
      have HS4 := Lib.hid hq04.size
      clear hbr2 hL0 hP4 hq24 hk4 hq04 hb4 hkm2 hx3 hb3
      go_upto_region 19 with (fail)
      rw [← hw4]
      clear hw4 x0 x1 x2
      generalize w3.heap.size = xo at *
      go_wp2_with fail
      go_loopw [59] (fun s59 wr => CpRel wo wo.heap.size (wo.heap.size + 1) wo.heap.size xo (0 + j) m s59 wr) (fun s59 _ => m - (intOf s59).toNat)
      case atStart => exact ⟨0, Fc, G, st, y, Nat.zero_le _, rfl, HL0.out, fun i hi => by have := HGL.out i hi; have := HS4.out; omega⟩
      case round =>
        clear HL0
        obtain ⟨i, F', G', st', y', hi, rfl, hL2, hGlt2⟩ := hrel
        by_cases hlt2 : i < m
        · have hil : i < k.length := by rw [HA2.out.len]; exact hlt2
          obtain ⟨b, o, e1, hat⟩ := HA2.out.at_ i hil
          obtain ⟨hnd1, hmk1⟩ := HN2.out _ (List.getElem_mem hil)
          obtain ⟨fv, hP, hkm⟩ := hL2.pl
          obtain ⟨Ag, ng, cg, rfl⟩ : ∃ A n c, fv = .slice A n c := by
            obtain ⟨fvb, l', e, hF, _⟩ := hP.ry
            obtain ⟨A, c, e2, _⟩ := hF.slice
            injection e with e
            have e3 : fv = fvb := by
              have := congrArg (fun a : Array Value => a[0]?) e
              simpa using this
            exact ⟨A, _, c, e3.trans e2⟩
          generalize k[i] = a at *
          have hbr := hL2.bw
          have c0 := (hbr.cell (p := ⟨b, o + i * 6, none⟩) hat.blt).trans hat.c0
          have c1 := (hbr.cell (p := ⟨b, o + i * 6 + 1, none⟩) hat.blt).trans hat.c1
          have c2 := (hbr.cell (p := ⟨b, o + i * 6 + 2, none⟩) hat.blt).trans hat.c2
          have c3 := (hbr.cell (p := ⟨b, o + i * 6 + 3, none⟩) hat.blt).trans hat.c3
          have c4 := (hbr.cell (p := ⟨b, o + i * 6 + 4, none⟩) hat.blt).trans hat.c4
          have c5 := (hbr.cell (p := ⟨b, o + i * 6 + 5, none⟩) hat.blt).trans hat.c5
          obtain ⟨wa, hwa⟩ : ∃ wa, wa = wr.alloc (.cells #[.int .i64 a.k, .int .i64 a.x, .string a.nm, .string a.ot, .slice a.Ad a.nd a.cd, .slice a.Ak a.mm a.ck] 56) := ⟨_, rfl⟩
          have hba : Below wr.heap.size wr wa := by rw [hwa]; exact (Below.refl _ _).alloc (Nat.le_refl _) _
          have hka : Blk wa wr.heap.size 56 #[.int .i64 a.k, .int .i64 a.x, .string a.nm, .string a.ot, .slice a.Ad a.nd a.cd, .slice a.Ak a.mm a.ck] := by rw [hwa]; exact Blk.new _ _ _
          have hPa := hP.below hba
          have hkma := hkm.below hba hkm.lt
          have hbra := hbr.trans (hba.mono hbr.size)
          have hst := step_any hPa (by omega) a hat.ok hbra (Nat.le_refl _) hnd1 hmk1
          have hmlt := hkm.lt
          have E1 := Lib.hid e1
          have HLb := Lib.hid hL2
          have HPA := Lib.hid hPa
          have HKMb := Lib.hid hkma
          have HBR := Lib.hid hbra
          have HGLT := Lib.hid hGlt2
          have hsa := hba.size
          unfold ActR.v actV at hst
          have hq1 := E1.out
          subst hq1
          clear hP hkm hbr hat hL2 hPa hba hbra hGlt2
          go_upto_region 22 with (fail)
          rw [← hwa]
          clear hwa c0 c1 c2 c3 c4 c5
          have x0 := hkma.cell 0
          have x1 := hkma.cell 1
          have x2 := hkma.cell 2
          have a0 := hka.cell 0
          have a1 := hka.cell 1
          have a2 := hka.cell 2
          have a3 := hka.cell 3
          have a4 := hka.cell 4
          have a5 := hka.cell 5
          simp only [List.getElem?_toArray, List.getElem?_cons_zero, List.getElem?_cons_succ] at x0 x1 x2 a0 a1 a2 a3 a4 a5
          clear hkma hka
          go_wp2_with fail
          refine hst.mono ?_
          clear hst x0 x1 x2 a0 a1 a2 a3 a4 a5
          rintro e w5 ⟨v5, rfl, hK5, F5, G5, hP5, hF5, hG5⟩
          obtain ⟨fv5, l5, rfl, hFs5, hl5⟩ := hP5.ry
          obtain ⟨A5, c5, rfl, hc5⟩ := hFs5.slice
          have hkm5 := HKMb.out.kept hK5 HLb.out.moF
          clear hFs5 hl5
          generalize (stepA st' a.d).1 = st5 at *
          generalize (stepY y' a.d).1 = y5 at *
          obtain ⟨wn, hwn⟩ : ∃ wn, wn = w5.alloc (.cells #[.slice A5 l5.length c5, .int .i64 y5.left, .bool y5.off] 52) := ⟨_, rfl⟩
          have hbn : Below w5.heap.size w5 wn := by rw [hwn]; exact (Below.refl _ _).alloc (Nat.le_refl _) _
          have hkn : Blk wn w5.heap.size 52 #[.slice A5 l5.length c5, .int .i64 y5.left, .bool y5.off] := by rw [hwn]; exact Blk.new _ _ _
          have hkmn := hkm5.below hbn hkm5.lt
          have hPn := hP5.below hbn
          have hs5 := hK5.size
          have hsn := hbn.size
          go_upto_region 25 with (fail)
          rw [← hwn]
          clear hwn
          have x0 := hkn.cell 0
          have x1 := hkn.cell 1
          have x2 := hkn.cell 2
          have z0 := hkmn.cell 0
          have z1 := hkmn.cell 1
          have z2 := hkmn.cell 2
          have q0 := hkmn.frozen 0
          have q1 := hkmn.frozen 1
          have q2 := hkmn.frozen 2
          simp only [List.getElem?_toArray, List.getElem?_cons_zero, List.getElem?_cons_succ] at x0 x1 x2 z0 z1 z2
          go_upto_region 26 with (fail)
          obtain ⟨w6, hw6⟩ : ∃ w6, w6 = set3 wn xo (.slice A5 l5.length c5) (.int .i64 y5.left) (.bool y5.off) := ⟨_, rfl⟩
          have hk6 : Blk w6 xo 52 #[.slice A5 l5.length c5, .int .i64 y5.left, .bool y5.off] := by rw [hw6]; exact set3_blk hkmn _ _ _
          have hq6 : Kept (fun i => i = xo) wn w6 := by rw [hw6]; exact set3_kept _ _ _ _ _
          have hmoF5 : ¬ F5 xo := fun h => by
            rcases hF5 xo h with h | h
            · exact HLb.out.moF h
            · omega
          have hmoG5 : ¬ G5 xo := fun h => by
            rcases (hG5 xo h).1 with h | h
            · exact HLb.out.moG h
            · omega
          have hFB : ∀ i, F' i → wo.heap.size ≤ i := fun i hi => by
            obtain ⟨_, _, _, _, h4, _⟩ := HPA.out.sys
            have := h4 i hi
            omega
          have hb5 := hK5.below HBR.out HBR.out.size hFB
          have hb6 : Below wo.heap.size wo w6 := hq6.below (hb5.trans (hbn.mono hb5.size)) (Nat.le_trans hb5.size hbn.size) fun i hi => by have : i = xo := hi; have := HLb.out.mob; omega
          have hP6 := hPn.kept hq6 (fun i hi e => hmoF5 ((show i = xo from e) ▸ hi)) (fun i hi e => hmoG5 ((show i = xo from e) ▸ hi))
          have hL6 : LoopM wo w6 wo.heap.size F5 (wo.heap.size + 1) (wo.heap.size) ((0 + j) + (i + 1)) xo 16777216 G5 st5 y5 :=
            ⟨⟨_, hP6, hk6⟩, hmoF5, hmoG5, HLb.out.mob, hb6, fun f hf => (hP6.sys.files_ok.2 f hf).2⟩
          have hG6 : ∀ i, G5 i → i < w6.heap.size := fun i hi => by have := (hG5 i hi).2; have := hq6.size; omega
          have HL6 := Lib.hid (show _ ∧ _ from ⟨hL6, hG6⟩)
          unfold set3 at hw6
          rw [← hw6]
          clear hw6 x0 x1 x2 z0 z1 z2 q0 q1 q2 hkm5 hL6 hP5 hb6 hk6 hkmn hkn hP6 hPn
          go_wp2_with fail
          go_roundw
          · exact ⟨i + 1, F5, G5, st5, y5, hlt2, by go_num, HL6.out.1, HL6.out.2⟩
          · simp [intOf]; omega
        · have hjd2 : decide ((i : Int) < (m : Int)) = false := by simp; omega
          obtain ⟨fv, hP2, hkx⟩ := hL2.pl
          obtain ⟨Ag, ng, cg, rfl⟩ : ∃ A n c, fv = .slice A n c := by
            obtain ⟨fv', l', e, hF, _⟩ := hP2.ry
            obtain ⟨A, c, e2, _⟩ := hF.slice
            injection e with e
            have e3 : fv = fv' := by
              have := congrArg (fun a : Array Value => a[0]?) e
              simpa using this
            exact ⟨A, _, c, e3.trans e2⟩
          have hbq := hL2.bw
          have hPf := HP.out.below hbq
          have hkmq := HKM.out.below hbq HKM.out.lt
          have hal := alike_any hPf (by omega)
          have hbwq := hbr.trans (hbq.mono hbr.size)
          have HP2 := Lib.hid hP2
          have HKX := Lib.hid hkx
          have x0 := hkmq.cell 0
          have x1 := hkmq.cell 1
          have x2 := hkmq.cell 2
          simp only [List.getElem?_toArray, List.getElem?_cons_zero, List.getElem?_cons_succ] at x0 x1 x2
          clear hPf hP2 hL2 hkmq hbq hkx
          go_wp2_with fail
          refine hal.mono ?_
          clear hal x0 x1 x2
          rintro e w8 ⟨rfl, hb8⟩
          have hk8 := HKX.out.below hb8 HKX.out.lt
          have hal2 := alike_any (HP2.out.below hb8) (by omega)
          have hbw8 := hbwq.trans (hb8.mono hbwq.size)
          have x0 := hk8.cell 0
          have x1 := hk8.cell 1
          have x2 := hk8.cell 2
          simp only [List.getElem?_toArray, List.getElem?_cons_zero, List.getElem?_cons_succ] at x0 x1 x2
          clear hk8 hb8 hbwq
          go_wp2_with fail
          refine hal2.mono ?_
          clear hal2 x0 x1 x2
          rintro e w9 ⟨rfl, hb9⟩
          go_wp2_with fail
          go_ret
          exact ⟨rfl, hbw8.trans (hb9.mono hbw8.size)⟩
end Go.Proofs.Ythmbmecodddkeaa
