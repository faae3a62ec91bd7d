/- The walk of the reference's Crash. -/
import Derived.Test.YthmbmecodddkeaaRF5
namespace Go.Proofs.Ythmbmecodddkeaa
open Go.RowKit Go.WideMaps
def New2 (w : World) (e : Ending) (w' : World) : Prop := e = .returned (.agg #[.slice none 0 0, .int .i64 (-1), .bool false]) ∧ Below w.heap.size w w'
set_option maxRecDepth 100000 in
set_option maxHeartbeats 400000 in
theorem rnew2_any (w : World) : Calls Try.prog 24 #[] w (New2 w) := by
  go_enter Try.func24, Try.ntmps24
  go_wp2_with fail
  refine bodyPost_ret (v := .agg #[.slice none 0 0, .int .i64 (-1), .bool false]) (by simp [results, Try.results24, go_sem]) rfl ?_
  exact ⟨rfl, (Below.refl _ _).alloc (Nat.le_refl _) _⟩
theorem Reads.keptF2 {w1 wr : World} {A : Option Addr} {B m go : Nat} {xs : List Value} (h : Reads w1 B 1 A m xs) (hk : Kept (fun i => i = go) w1 wr) (hgo : B + 2 ≤ go) (hB : B ≤ w1.heap.size) : Reads wr B 1 A m xs :=
  h.keep fun p hp => hk.cell (by omega) fun e => by have : p.block = go := e; omega
theorem crash1_in {nm d : List UInt8} {s κ : Nat} {ks t : List Int} {k : Int} (hs : s < d.length) (hk : ks = k :: t) (hc : min (max k 0) ((d.length : Int) - (s : Int)) = (κ : Int)) : crash1 ⟨nm, d, s⟩ ks = (⟨nm, d.take (s + κ), s + κ⟩, t) := by
  unfold crash1
  rw [if_neg (by simp only; omega), hk]
  simp only [cutF]
  have : (clipI k 0 ((d.length - s : Nat) : Int)).toNat = κ := by
    unfold clipI
    split
    · omega
    · split <;> omega
  rw [this]
theorem crash1_out {nm d : List UInt8} {s : Nat} (hs : s < d.length) : crash1 ⟨nm, d, s⟩ [] = (⟨nm, d.take s, s⟩, []) := by
  unfold crash1
  rw [if_neg (by simp only; omega)]
  rfl
theorem crash1_all {nm d : List UInt8} {s : Nat} {ks : List Int} (hs : s ≤ d.length) (hs2 : ¬ s < d.length) : crash1 ⟨nm, d, s⟩ ks = (⟨nm, d.take s, s⟩, ks) := by
  have e : s = d.length := by omega
  unfold crash1
  rw [if_pos (by simp only; omega)]
  simp [e]
def RcRel (w1 : World) (G : Nat → Prop) (go n : Nat) (files : List AF) (ks : List Int) (s6 s7 : Value) (wr : World) : Prop :=
  ∃ (i used : Nat) (lo : List PF) (A : Option Addr) (c : Nat), i ≤ n ∧ s7 = .int .i64 (i : Nat) ∧ s6 = .int .i64 (used : Nat) ∧ used ≤ i ∧ restK (files.take i) ks = ks.drop used ∧ lo.map Prod.fst = crashL (files.take i) ks ∧ lo.length ≤ c ∧
    Blk wr go 52 #[.slice A lo.length c, .int .i64 (-1), .bool false] ∧ wr.ownsRow w1.heap.size 86 3 (.slice A lo.length c) lo.length (cellsP lo) ∧ PsG (fun i => G i ∧ (Value.slice A lo.length c).ownBlock ≠ some i) wr lo ∧ Kept (fun i => i = go) w1 wr
set_option maxRecDepth 100000 in
set_option maxHeartbeats 8000000 in
theorem rcrash_any (G : Nat → Prop) (fv : Value) (l : List PF) (y : RY) (Ak : Option Addr) (mk ck B : Nat) (ks : List Int) (w : World) (hF : FsM G w fv l) (hl : l.map Prod.fst = y.files) (hn : l.length ≤ 900000) (hrk : Reads w B 1 Ak mk (ks.map (Value.int .i64))) (hB : B ≤ w.heap.size) (hkl : ks.length = mk) (hmk : mk ≤ 1000000) (hkb : ∀ k ∈ ks, -9223372036854775808 ≤ k ∧ k ≤ 9223372036854775807) (hsy : ∀ f ∈ y.files, f.sync ≤ f.data.length ∧ f.data.length ≤ 16777216) :
    Calls Try.prog 42 #[.agg #[fv, .int .i64 y.left, .bool y.off], .slice Ak mk ck] w (Re1 G w (rCrash y ks)) := by
  obtain ⟨files, left, off⟩ := y
  simp only at hl hsy ⊢
  obtain ⟨i0, hi, hz0, hz1, hz2⟩ := info_parts infoF
  obtain ⟨j0, hj, hy0, hy1, hy2⟩ := info_parts infoB
  obtain ⟨hka, hkb', hba⟩ := two_blk w fv (.int .i64 left) (.bool off)
  obtain ⟨wa, hwa⟩ : ∃ wa, wa = two w fv (.int .i64 left) (.bool off) := ⟨_, rfl⟩
  rw [← hwa] at hka hkb' hba
  have hsa : w.heap.size + 2 ≤ wa.heap.size := by rw [hwa]; simp [two]
  have hFa : FsM (fun i => G i ∧ i < w.heap.size) wa fv l := (hF.mono (G' := fun i => G i ∧ i < w.heap.size) fun i hi hg => ⟨hg, hi⟩).below hba
  have hrka := (hrk.below (hba.mono hB)).more hB
  obtain ⟨A, c, rfl, hc⟩ := hF.slice
  unfold two at hwa
  have HWA := Lib.hid hwa
  have HL := Lib.hid hl
  have HSY := Lib.hid hsy
  have HKL := Lib.hid hkl
  have HKB := Lib.hid hkb
  have HSA := Lib.hid hsa
  have hnw := rnew2_any wa
  have x0 := hka.cell 0
  simp only [List.getElem?_toArray, List.getElem?_cons_zero] at x0
  clear hwa hl hsy hkl hkb hrk hF
  go_enter Try.func42, Try.ntmps42
  go_upto_region 1 with (fail)
  rw [← HWA.out]
  go_wp2_with fail
  refine hnw.mono ?_
  clear hnw x0
  rintro e wb ⟨rfl, hbb⟩
  obtain ⟨w1, hw1⟩ : ∃ w1, w1 = wb.alloc (.cells #[.slice none 0 0, .int .i64 (-1), .bool false] 52) := ⟨_, rfl⟩
  have hb1 : Below wb.heap.size wb w1 := by rw [hw1]; exact (Below.refl _ _).alloc (Nat.le_refl _) _
  have hko : Blk w1 wb.heap.size 52 #[.slice none 0 0, .int .i64 (-1), .bool false] := by rw [hw1]; exact Blk.new _ _ _
  have hba1 := hbb.trans (hb1.mono hbb.size)
  have hbw1 := hba.trans (hba1.mono hba.size)
  have hF1 := hFa.below hba1
  have hk1 := hka.below hba1 hka.lt
  have hkb1 := hkb'.below hba1 hkb'.lt
  have hrk1 := hrka.below (hba1.mono hba.size)
  have hlo := hko.lt
  have hbbs := hbb.size
  go_upto_region 2 with (fail)
  rw [← hw1]
  obtain ⟨n, hln⟩ : ∃ n, l.length = n := ⟨_, rfl⟩
  rw [hln] at hn hk1
  have HLN := Lib.hid hln
  have HK1 := Lib.hid hk1
  have HKB1 := Lib.hid hkb1
  have HF1 := Lib.hid hF1
  have HRK1 := Lib.hid hrk1
  have HBW1 := Lib.hid hbw1
  have hneS : ¬ (w.heap.size = wb.heap.size) := by omega
  have hneR : ¬ (w.heap.size + 1 = wb.heap.size) := by omega
  have HHB := Lib.hid hb1
  clear hw1 hka hkb' hba hbb hb1 hba1 hbw1 hFa hF1 hrka hrk1 hk1 hkb1 hln
  generalize wb.heap.size = go at *
  have HGO := Lib.hid (show w.heap.size + 2 ≤ go by omega)
  go_wp2_with fail
  go_loopw [6, 7] (fun s6 s7 wr => RcRel w1 (LoG G w.heap.size w1.heap.size) go n files ks s6 s7 wr) (fun _ s7 _ => n - (intOf s7).toNat)
  case atStart => exact ⟨0, 0, [], none, 0, Nat.zero_le _, rfl, rfl, Nat.le_refl _, rfl, rfl, Nat.le_refl _, hko, ⟨by simp [cellsP], .inl ⟨rfl, rfl⟩⟩, (fun p hp => by cases hp), Kept.refl _ _⟩
  case round =>
    obtain ⟨i, used, lo, A2, c2, hin, rfl, rfl, hui, hrest, hcr, hc2, hkg, hown, hps, hkr⟩ := hrel
    have hkS := HK1.out.kept hkr hneS
    have hFr := HF1.out.keptF hkr fun i hi hg e => by have : i = go := e; have := HGO.out; omega
    have HKR := Lib.hid hkr
    have HPS := Lib.hid hps
    have HREST := Lib.hid hrest
    have HCR := Lib.hid hcr
    have HKG := Lib.hid hkg
    have hsr := hkr.size
    have hgr := hkg.lt
    clear hps hrest hcr hkr hkg
    have x0 := hkS.cell 0
    simp only [List.getElem?_toArray, List.getElem?_cons_zero] at x0
    by_cases hlt : i < n
    · have hil : i < l.length := by have := HLN.out; omega
      have hif : i < files.length := by rw [← HL.out, List.length_map]; exact hil
      have HFI0 : files[i] = l[i].1 := by
        have h : (l.map Prod.fst)[i]? = files[i]? := by rw [HL.out]
        rw [List.getElem?_map, List.getElem?_eq_getElem hil, List.getElem?_eq_getElem hif] at h
        injection h with h; exact h.symm
      have hsy1 := HSY.out _ (List.getElem_mem hif)
      rw [HFI0] at hsy1
      obtain ⟨b, o, e1, hbl, c0, c1', c3⟩ := hFr.at_ hil
      have hpay := hFr.pay _ (List.getElem_mem hil)
      have HFI := Lib.hid HFI0
      clear HFI0
      generalize l[i] = p at *
      obtain ⟨⟨pnm, pdata, psync⟩, pdv⟩ := p
      simp only at c0 c1' c3 hpay hsy1 HFI
      obtain ⟨A5, c5, rfl, hc5⟩ := hpay.form
      subst e1
      obtain ⟨wf, hwf⟩ : ∃ wf, wf = wr.alloc (.cells #[.string ⟨pnm.toArray⟩, .slice A5 pdata.length c5, .int .i64 (psync : Int)] 86) := ⟨_, rfl⟩
      have hbf : Below wr.heap.size wr wf := by rw [hwf]; exact (Below.refl _ _).alloc (Nat.le_refl _) _
      have hkf : Blk wf wr.heap.size 86 #[.string ⟨pnm.toArray⟩, .slice A5 pdata.length c5, .int .i64 (psync : Int)] := by rw [hwf]; exact Blk.new _ _ _
      have hpayf := hpay.keptF (F := fun _ => False) (Kept.of_below hbf) fun _ _ _ h => h
      have hsf := hbf.size
      have hlf := hkf.lt
      go_upto_region 7 with (fail)
      rw [← hwf]
      clear hwf x0 c0 c1' c3 hpay
      have f0 := hkf.cell 0
      have f1 := hkf.cell 1
      have f2 := hkf.cell 2
      simp only [List.getElem?_toArray, List.getElem?_cons_zero, List.getElem?_cons_succ] at f0 f1 f2
      by_cases hun : psync < pdata.length
      · by_cases hus : used < mk
        · have hunI : decide ((psync : Int) < (pdata.length : Int)) = true := decide_eq_true (by omega)
          have husI : decide ((used : Int) < (mk : Int)) = true := decide_eq_true (by omega)
          have hul : used < ks.length := by have := HKL.out; omega
          have hkbd := HKB.out _ (List.getElem_mem hul)
          have hrk := HRK1.out.keptF2 HKR.out HGO.out HBW1.out.size
          obtain ⟨bk, ok, rfl, hbk, hck⟩ := hrk.form (by omega)
          have kc := hck used (.int .i64 ks[used]) (by rw [List.getElem?_map, List.getElem?_eq_getElem hul]; rfl)
          have HDR := Lib.hid (show ks.drop used = ks[used] :: ks.drop (used + 1) from List.drop_eq_getElem_cons hul)
          generalize ks[used] = x at *
          have kc2 : wf.cell? ⟨bk, ok + used, none⟩ = some (.int .i64 x) := (hbf.cell (p := ⟨bk, ok + used, none⟩) (by have := HGO.out; show bk < wr.heap.size; omega)).trans kc
          have ku0 : (0 : Int) ≤ (used : Int) := by omega
          have ku1 : (used : Int) < (mk : Int) := by omega
          have ks0 : 0 ≤ (pdata.length : Int) - (psync : Int) := by omega
          have ks1 : (pdata.length : Int) - (psync : Int) ≤ 16777216 := by omega
          clear hck kc
          have hwr : IntKind.i64.wrap ((pdata.length : Int) - (psync : Int)) = (pdata.length : Int) - (psync : Int) := IntWalk.i64_in _ (by omega)
          go_wp2_with fail
          go_region_held3 (fun w' => w'.cell? ⟨bk, ok + used, none⟩ = some (.int .i64 x) ∧ w'.cell? ⟨wr.heap.size, 1, none⟩ = some (.slice A5 pdata.length c5) ∧ w'.cell? ⟨wr.heap.size, 2, none⟩ = some (.int .i64 (psync : Int)))
            (first | go_keep | assumption) (fail)
          obtain ⟨κ, hκ⟩ : ∃ κ : Nat, κ = (min (max x 0) ((pdata.length : Int) - (psync : Int))).toNat := ⟨_, rfl⟩
          have hκe : min (max x 0) ((pdata.length : Int) - (psync : Int)) = (κ : Int) := by omega
          have hκl : psync + κ ≤ pdata.length := by omega
          rw [hκe]
          have HC1 := Lib.hid (show crash1 ⟨pnm, pdata, psync⟩ (ks.drop used) = (⟨pnm, pdata.take (psync + κ), psync + κ⟩, ks.drop (used + 1)) from crash1_in hun HDR.out hκe)
          have hbf' := hbf.drew
          have hkf' := hkf.drew
          have hpayf' := hpayf.keptF (F := fun _ => False) (Kept.of_below (Below.refl wf.heap.size wf).drew) fun _ _ _ h => h
          have hsf' : wr.heap.size ≤ wf.drew.heap.size := hsf
          have hlf' : wr.heap.size < wf.drew.heap.size := hlf
          clear hbf hkf hpayf hsf hlf kc2 hκ hκe hwr ks0 ks1 f0 f1 f2 HDR
          generalize wf.drew = wg at *
          have f0 := hkf'.cell 0
          have f1 := hkf'.cell 1
          have f2 := hkf'.cell 2
          simp only [List.getElem?_toArray, List.getElem?_cons_zero, List.getElem?_cons_succ] at f0 f1 f2
          go_upto_region 12 with (fail)
          have hkfa := hkf'.alloc (.cells #[] 5)
          have g0 := hkfa.cell 0
          have g1 := hkfa.cell 1
          have g2 := hkfa.cell 2
          simp only [List.getElem?_toArray, List.getElem?_cons_zero, List.getElem?_cons_succ] at g0 g1 g2
          have hown0 := World.ownsRow_lit (e := 5) (size := 1) wg #[] 0 (Nat.le_refl _) (by decide) rfl
          have hrt := ((hpayf'.take (show psync + κ ≤ pdata.length by omega)).reads.2.2).alloc (Nat.le_refl _) (.cells #[] 5)
          have hsl := fun W => slice_to A5 pdata.length c5 (psync + κ) (by omega) W
          simp only [Int.natCast_add] at hsl
          go_wp2_with (at_builtin; refine wpList_append_any _ rfl (.tmp 47) (.tmp 54) 28 rfl wg.heap.size 5 j0 (.int .u8 0) 1 1 Try.underlying28 hj hy0 hy1 hy2 rfl (by decide) _ _ _ rfl hown0 wg.heap.size _ _ _ ((pdata.take (psync + κ)).map byteV) rfl hrt (oneBV _) (by unfold maxLen; omega) (by omega) (by simp) ?_)
          intro v5 w5 hown5 hg5 _
          obtain ⟨A6, c6, rfl⟩ := own_form hown5
          have hb5 := below_own ((Below.refl wg.heap.size wg).alloc (Nat.le_refl _) (.cells #[] 5)) (by simp) (Nat.le_refl _) hown0 hg5
          have hs5 := hb5.size
          have hml : (pdata.take (psync + κ)).length = psync + κ := by rw [List.length_take]; omega
          have hp5 : PayG (fun i => wg.heap.size ≤ i) w5 (.slice A6 (psync + κ) c6) (pdata.take (psync + κ)) := by
            have h : w5.ownsRow wg.heap.size 5 1 (.slice A6 (psync + κ) c6) (psync + κ) ((pdata.take (psync + κ)).map byteV) := by simpa [List.map_take] using hown5
            exact PayG.of_own (G := fun i => wg.heap.size ≤ i) h (own_le h) fun g hg _ => hg
          clear hown0 hrt hg5 g0 g1 g2 hkfa hsl hown5
          have hkf5 := hkf'.below hb5 hkf'.lt
          have f0 := hkf5.cell 0
          have f1 := hkf5.cell 1
          have f2 := hkf5.cell 2
          simp only [List.getElem?_toArray, List.getElem?_cons_zero, List.getElem?_cons_succ] at f0 f1 f2
          have u0 := hkf5.frozen 0
          have u1 := hkf5.frozen 1
          have u2 := hkf5.frozen 2
          go_upto_region 14 with (fail)
          obtain ⟨M, hM⟩ : ∃ M, M = psync + κ := ⟨_, rfl⟩
          have hMc : (psync : Int) + (κ : Int) = (M : Int) := by omega
          rw [← hM, hMc]
          rw [← hM] at hp5 hml HC1
          clear hMc hM
          obtain ⟨w6, hw6⟩ : ∃ w6, w6 = (w5.setCell ⟨wr.heap.size, 1, none⟩ (.slice A6 M c6)).setCell ⟨wr.heap.size, 2, none⟩ (.int .i64 (M : Int)) := ⟨_, rfl⟩
          have hkf6 := (hkf5.set_ 1 (.slice A6 M c6)).set_ 2 (.int .i64 (M : Int))
          rw [← hw6] at hkf6 ⊢
          simp only [List.setIfInBounds_toArray, List.set_cons_succ, List.set_cons_zero] at hkf6
          have hq6 : Kept (fun i => i = wr.heap.size) w5 w6 := by rw [hw6]; exact (kept_set w5 wr.heap.size 1 _).trans ((kept_set _ wr.heap.size 2 _).mono fun _ hi => .inl hi)
          have hq06 : Below wr.heap.size wr w6 := hq6.below (hbf'.trans (hb5.mono hbf'.size)) (Nat.le_trans hbf'.size hb5.size) fun i hi => by have : i = wr.heap.size := hi; omega
          have hown6 := own_keptF (own_below (own_below hown hbf') hb5) hq6 fun g hg e => by have : g = wr.heap.size := e; have := (hown.lt g hg).2; omega
          have hp6 := ((hp5.mono (G' := fun i => wg.heap.size ≤ i ∧ i < w5.heap.size) fun i hi hg => ⟨hg, hi⟩).keptF hq6 fun i _ hi e => by have : i = wr.heap.size := e; omega)
          have hkg6 := HKG.out.below hq06 HKG.out.lt
          have hs6 := hq6.size
          clear hw6 hkf5 f0 f1 f2 u0 u1 u2 hp5
          have f0 := hkf6.cell 0
          have f1 := hkf6.cell 1
          have f2 := hkf6.cell 2
          simp only [List.getElem?_toArray, List.getElem?_cons_zero, List.getElem?_cons_succ] at f0 f1 f2
          have q0 := hkg6.cell 0
          simp only [List.getElem?_toArray, List.getElem?_cons_zero] at q0
          have u0 := hkg6.frozen 0
          have ho6 := hown6.alloc (.cells #[.string ⟨pnm.toArray⟩, .slice A6 M c6, .int .i64 (M : Int)] 86)
          have hrx := reads_newP w6 pnm (.slice A6 M c6) (pdata.take M) M
          have hone := oneP (p := (⟨pnm, pdata.take M, M⟩, .slice A6 M c6)) hp6
          have hlol : lo.length ≤ 900000 := by have h := congrArg List.length HCR.out; rw [List.length_map, crashL_len, List.length_take] at h; omega
          have hs06 := hq06.size
          go_wp2_with (at_builtin; refine wpList_append_any _ rfl (.tmp 62) (.tmp 64) 50 rfl w1.heap.size 86 i0 (.agg #[.string ByteArray.empty, .slice none 0 0, .int .i64 0]) 3 48 Try.underlying50 hi hz0 hz1 hz2 rfl (by decide) _ _ _ rfl ho6 _ _ _ _ (cellsP [(⟨pnm, pdata.take M, M⟩, .slice A6 M c6)]) rfl hrx hone (by unfold maxLen; omega) (by omega) (by simp; omega) ?_)
          intro v7 w7 hown7 hg7 hat7
          obtain ⟨A7, c7, rfl⟩ := own_form hown7
          rw [← cellsP_append] at hown7
          have hc7 := own_leN hown7 (by decide)
          have hb7 : Kept (fun i => (Value.slice A2 lo.length c2).ownBlock = some i) w6 w7 := (Kept.of_below (F := fun _ => False) ((Below.refl w6.heap.size w6).alloc (Nat.le_refl _) (.cells #[.string ⟨pnm.toArray⟩, .slice A6 M c6, .int .i64 (M : Int)] 86)) |>.mono (fun _ h => h.elim)).trans ((Kept.of_grown hg7 (F := fun i => (Value.slice A2 lo.length c2).ownBlock = some i) fun g h => h).mono fun _ h => .inl h)
          have hnb : ∀ g, (Value.slice A2 lo.length c2).ownBlock = some g → w1.heap.size ≤ g ∧ g < wr.heap.size := fun g hg => hown.lt g hg
          have hkg7 := hkg6.kept hb7 (fun h => by have := (hnb go h).1; omega)
          have hp7 := hp6.keptF hb7 fun i _ hi e => by have := (hnb i e).2; omega
          have hgl := hkg7.lt
          clear ho6 hrx hone f0 f1 f2 q0 u0 hg7
          have q0 := hkg7.cell 0
          simp only [List.getElem?_toArray, List.getElem?_cons_zero] at q0
          have u0 := hkg7.frozen 0
          go_upto_region 5 with (fail)
          obtain ⟨w8, hw8⟩ : ∃ w8, w8 = w7.setCell ⟨go, 0, none⟩ (.slice A7 (lo.length + 1) c7) := ⟨_, rfl⟩
          have hkg8 := hkg7.set_ 0 (.slice A7 (lo.length + 1) c7)
          rw [← hw8] at hkg8 ⊢
          simp only [List.setIfInBounds_toArray, List.set_cons_zero] at hkg8
          have hq8 : Kept (fun i => i = go) w7 w8 := by rw [hw8]; exact kept_set w7 go 0 _
          have hown8 := own_keptF hown7 hq8 fun g hg e => by have : g = go := e; have := (hown7.lt g hg).1; omega
          have hp8 := hp7.keptF hq8 fun i _ hi e => by have : i = go := e; omega
          have hk08 : Kept (fun i => i = go ∨ w1.heap.size ≤ i) wr w8 := ((Kept.of_below (F := fun i => i = go ∨ w1.heap.size ≤ i) hq06).trans (hb7.mono fun i h => .inl (.inr (hnb i h).1))).trans (hq8.mono fun i h => .inl (.inl h))
          have hkw8 : Kept (fun i => i = go) w1 w8 := HKR.out.trans (hk08.mono fun i h => h)
          have hnew : ∀ i, (i < wr.heap.size ∧ (Value.slice A2 lo.length c2).ownBlock ≠ some i) ∨ (wr.heap.size < i ∧ i < w6.heap.size) → (Value.slice A7 (lo.length + 1) c7).ownBlock ≠ some i := fun i hi e => by
            rcases hat7 with h | h
            · rw [h] at e
              rcases hi with hi | hi
              · exact hi.2 e
              · have := (hnb i e).2; omega
            · rw [h] at e
              injection e with e
              have e2 : w6.heap.size + 1 = i := by simpa using e
              rcases hi with hi | hi <;> omega
          have hps8 : PsG (fun i => LoG G w.heap.size w1.heap.size i ∧ (Value.slice A7 (lo.length + 1) c7).ownBlock ≠ some i) w8 lo :=
            ((((HPS.out.mono (G' := fun i => (LoG G w.heap.size w1.heap.size i ∧ (Value.slice A2 lo.length c2).ownBlock ≠ some i) ∧ i < wr.heap.size) fun i hi hg => ⟨hg, hi⟩).keptF (F := fun _ => False) (Kept.of_below hq06) fun _ _ _ h => h).keptF hb7 fun i _ hi e => hi.1.2 e).keptF hq8 fun i _ hi e => by
              have e : i = go := e
              have h1 := HGO.out
              rcases hi.1.1 with h | h <;> omega).mono fun i _ hi => ⟨hi.1.1, hnew i (.inl ⟨hi.2, hi.1.2⟩)⟩
          have hp9 : PayG (fun i => LoG G w.heap.size w1.heap.size i ∧ (Value.slice A7 (lo.length + 1) c7).ownBlock ≠ some i) w8 (.slice A6 M c6) (pdata.take M) := hp8.mono fun i _ hi => ⟨.inr (by omega), hnew i (.inr ⟨by omega, Nat.lt_of_lt_of_le hi.2 hs6⟩)⟩
          clear hw8 hkg7 q0 u0
          go_wp2_with fail
          go_roundw
          · refine ⟨i + 1, used + 1, lo ++ [(⟨pnm, pdata.take M, M⟩, .slice A6 M c6)], A7, c7, by omega, by go_num, by go_num, by omega, ?_, ?_, by simpa using hc7, by simpa using hkg8, by simpa using hown8, ?_, hkw8⟩
            · rw [List.take_succ_eq_append_getElem hif, restK_append, HREST.out, HFI.out]; simp only [restK]; rw [HC1.out]
            · rw [List.map_append, List.take_succ_eq_append_getElem hif, crashL_append, HCR.out, HREST.out, HFI.out]; simp only [crashL]; rw [HC1.out]; rfl
            · intro p hp
              rcases List.mem_append.1 hp with hp | hp
              · simpa using hps8 p hp
              · simp at hp; subst hp; simpa using hp9
          · simp [intOf]; omega
        · have hunI : decide ((psync : Int) < (pdata.length : Int)) = true := decide_eq_true (by omega)
          have husI : decide ((used : Int) < (mk : Int)) = false := decide_eq_false (by omega)
          have hks0 : ks.drop used = [] := List.drop_of_length_le (by have := HKL.out; omega)
          have hks1 : ks.drop (used + 1) = [] := List.drop_of_length_le (by have := HKL.out; omega)
          have HC1 := Lib.hid (show crash1 ⟨pnm, pdata, psync⟩ (ks.drop used) = (⟨pnm, pdata.take psync, psync⟩, ks.drop (used + 1)) by rw [hks0, hks1]; exact crash1_out hun)
          have hκl : psync ≤ pdata.length := by omega
          clear hks0 hks1
          go_upto_region 12 with (fail)
          have hkfa := hkf.alloc (.cells #[] 5)
          have g0 := hkfa.cell 0
          have g1 := hkfa.cell 1
          have g2 := hkfa.cell 2
          simp only [List.getElem?_toArray, List.getElem?_cons_zero, List.getElem?_cons_succ] at g0 g1 g2
          have hown0 := World.ownsRow_lit (e := 5) (size := 1) wf #[] 0 (Nat.le_refl _) (by decide) rfl
          have hrt := ((hpayf.take (show psync ≤ pdata.length by omega)).reads.2.2).alloc (Nat.le_refl _) (.cells #[] 5)
          have hsl := fun W => slice_to A5 pdata.length c5 (psync) (by omega) W
          go_wp2_with (at_builtin; refine wpList_append_any _ rfl (.tmp 47) (.tmp 54) 28 rfl wf.heap.size 5 j0 (.int .u8 0) 1 1 Try.underlying28 hj hy0 hy1 hy2 rfl (by decide) _ _ _ rfl hown0 wf.heap.size _ _ _ ((pdata.take (psync)).map byteV) rfl hrt (oneBV _) (by unfold maxLen; omega) (by omega) (by simp) ?_)
          intro v5 w5 hown5 hg5 _
          obtain ⟨A6, c6, rfl⟩ := own_form hown5
          have hb5 := below_own ((Below.refl wf.heap.size wf).alloc (Nat.le_refl _) (.cells #[] 5)) (by simp) (Nat.le_refl _) hown0 hg5
          have hs5 := hb5.size
          have hml : (pdata.take (psync)).length = psync := by rw [List.length_take]; omega
          have hp5 : PayG (fun i => wf.heap.size ≤ i) w5 (.slice A6 (psync) c6) (pdata.take (psync)) := by
            have h : w5.ownsRow wf.heap.size 5 1 (.slice A6 (psync) c6) (psync) ((pdata.take (psync)).map byteV) := by simpa [List.map_take] using hown5
            exact PayG.of_own (G := fun i => wf.heap.size ≤ i) h (own_le h) fun g hg _ => hg
          clear hown0 hrt hg5 g0 g1 g2 hkfa hsl hown5
          have hkf5 := hkf.below hb5 hkf.lt
          have f0 := hkf5.cell 0
          have f1 := hkf5.cell 1
          have f2 := hkf5.cell 2
          simp only [List.getElem?_toArray, List.getElem?_cons_zero, List.getElem?_cons_succ] at f0 f1 f2
          have u0 := hkf5.frozen 0
          have u1 := hkf5.frozen 1
          have u2 := hkf5.frozen 2
          go_upto_region 14 with (fail)
          obtain ⟨w6, hw6⟩ : ∃ w6, w6 = (w5.setCell ⟨wr.heap.size, 1, none⟩ (.slice A6 psync c6)).setCell ⟨wr.heap.size, 2, none⟩ (.int .i64 (psync : Int)) := ⟨_, rfl⟩
          have hkf6 := (hkf5.set_ 1 (.slice A6 psync c6)).set_ 2 (.int .i64 (psync : Int))
          rw [← hw6] at hkf6 ⊢
          simp only [List.setIfInBounds_toArray, List.set_cons_succ, List.set_cons_zero] at hkf6
          have hq6 : Kept (fun i => i = wr.heap.size) w5 w6 := by rw [hw6]; exact (kept_set w5 wr.heap.size 1 _).trans ((kept_set _ wr.heap.size 2 _).mono fun _ hi => .inl hi)
          have hq06 : Below wr.heap.size wr w6 := hq6.below (hbf.trans (hb5.mono hbf.size)) (Nat.le_trans hbf.size hb5.size) fun i hi => by have : i = wr.heap.size := hi; omega
          have hown6 := own_keptF (own_below (own_below hown hbf) hb5) hq6 fun g hg e => by have : g = wr.heap.size := e; have := (hown.lt g hg).2; omega
          have hp6 := ((hp5.mono (G' := fun i => wf.heap.size ≤ i ∧ i < w5.heap.size) fun i hi hg => ⟨hg, hi⟩).keptF hq6 fun i _ hi e => by have : i = wr.heap.size := e; omega)
          have hkg6 := HKG.out.below hq06 HKG.out.lt
          have hs6 := hq6.size
          clear hw6 hkf5 f0 f1 f2 u0 u1 u2 hp5
          have f0 := hkf6.cell 0
          have f1 := hkf6.cell 1
          have f2 := hkf6.cell 2
          simp only [List.getElem?_toArray, List.getElem?_cons_zero, List.getElem?_cons_succ] at f0 f1 f2
          have q0 := hkg6.cell 0
          simp only [List.getElem?_toArray, List.getElem?_cons_zero] at q0
          have u0 := hkg6.frozen 0
          have ho6 := hown6.alloc (.cells #[.string ⟨pnm.toArray⟩, .slice A6 psync c6, .int .i64 (psync : Int)] 86)
          have hrx := reads_newP w6 pnm (.slice A6 psync c6) (pdata.take psync) psync
          have hone := oneP (p := (⟨pnm, pdata.take psync, psync⟩, .slice A6 psync c6)) hp6
          have hlol : lo.length ≤ 900000 := by have h := congrArg List.length HCR.out; rw [List.length_map, crashL_len, List.length_take] at h; omega
          have hs06 := hq06.size
          go_wp2_with (at_builtin; refine wpList_append_any _ rfl (.tmp 62) (.tmp 64) 50 rfl w1.heap.size 86 i0 (.agg #[.string ByteArray.empty, .slice none 0 0, .int .i64 0]) 3 48 Try.underlying50 hi hz0 hz1 hz2 rfl (by decide) _ _ _ rfl ho6 _ _ _ _ (cellsP [(⟨pnm, pdata.take psync, psync⟩, .slice A6 psync c6)]) rfl hrx hone (by unfold maxLen; omega) (by omega) (by simp; omega) ?_)
          intro v7 w7 hown7 hg7 hat7
          obtain ⟨A7, c7, rfl⟩ := own_form hown7
          rw [← cellsP_append] at hown7
          have hc7 := own_leN hown7 (by decide)
          have hb7 : Kept (fun i => (Value.slice A2 lo.length c2).ownBlock = some i) w6 w7 := (Kept.of_below (F := fun _ => False) ((Below.refl w6.heap.size w6).alloc (Nat.le_refl _) (.cells #[.string ⟨pnm.toArray⟩, .slice A6 psync c6, .int .i64 (psync : Int)] 86)) |>.mono (fun _ h => h.elim)).trans ((Kept.of_grown hg7 (F := fun i => (Value.slice A2 lo.length c2).ownBlock = some i) fun g h => h).mono fun _ h => .inl h)
          have hnb : ∀ g, (Value.slice A2 lo.length c2).ownBlock = some g → w1.heap.size ≤ g ∧ g < wr.heap.size := fun g hg => hown.lt g hg
          have hkg7 := hkg6.kept hb7 (fun h => by have := (hnb go h).1; omega)
          have hp7 := hp6.keptF hb7 fun i _ hi e => by have := (hnb i e).2; omega
          have hgl := hkg7.lt
          clear ho6 hrx hone f0 f1 f2 q0 u0 hg7
          have q0 := hkg7.cell 0
          simp only [List.getElem?_toArray, List.getElem?_cons_zero] at q0
          have u0 := hkg7.frozen 0
          go_upto_region 5 with (fail)
          obtain ⟨w8, hw8⟩ : ∃ w8, w8 = w7.setCell ⟨go, 0, none⟩ (.slice A7 (lo.length + 1) c7) := ⟨_, rfl⟩
          have hkg8 := hkg7.set_ 0 (.slice A7 (lo.length + 1) c7)
          rw [← hw8] at hkg8 ⊢
          simp only [List.setIfInBounds_toArray, List.set_cons_zero] at hkg8
          have hq8 : Kept (fun i => i = go) w7 w8 := by rw [hw8]; exact kept_set w7 go 0 _
          have hown8 := own_keptF hown7 hq8 fun g hg e => by have : g = go := e; have := (hown7.lt g hg).1; omega
          have hp8 := hp7.keptF hq8 fun i _ hi e => by have : i = go := e; omega
          have hk08 : Kept (fun i => i = go ∨ w1.heap.size ≤ i) wr w8 := ((Kept.of_below (F := fun i => i = go ∨ w1.heap.size ≤ i) hq06).trans (hb7.mono fun i h => .inl (.inr (hnb i h).1))).trans (hq8.mono fun i h => .inl (.inl h))
          have hkw8 : Kept (fun i => i = go) w1 w8 := HKR.out.trans (hk08.mono fun i h => h)
          have hnew : ∀ i, (i < wr.heap.size ∧ (Value.slice A2 lo.length c2).ownBlock ≠ some i) ∨ (wr.heap.size < i ∧ i < w6.heap.size) → (Value.slice A7 (lo.length + 1) c7).ownBlock ≠ some i := fun i hi e => by
            rcases hat7 with h | h
            · rw [h] at e
              rcases hi with hi | hi
              · exact hi.2 e
              · have := (hnb i e).2; omega
            · rw [h] at e
              injection e with e
              have e2 : w6.heap.size + 1 = i := by simpa using e
              rcases hi with hi | hi <;> omega
          have hps8 : PsG (fun i => LoG G w.heap.size w1.heap.size i ∧ (Value.slice A7 (lo.length + 1) c7).ownBlock ≠ some i) w8 lo :=
            ((((HPS.out.mono (G' := fun i => (LoG G w.heap.size w1.heap.size i ∧ (Value.slice A2 lo.length c2).ownBlock ≠ some i) ∧ i < wr.heap.size) fun i hi hg => ⟨hg, hi⟩).keptF (F := fun _ => False) (Kept.of_below hq06) fun _ _ _ h => h).keptF hb7 fun i _ hi e => hi.1.2 e).keptF hq8 fun i _ hi e => by
              have e : i = go := e
              have h1 := HGO.out
              rcases hi.1.1 with h | h <;> omega).mono fun i _ hi => ⟨hi.1.1, hnew i (.inl ⟨hi.2, hi.1.2⟩)⟩
          have hp9 : PayG (fun i => LoG G w.heap.size w1.heap.size i ∧ (Value.slice A7 (lo.length + 1) c7).ownBlock ≠ some i) w8 (.slice A6 psync c6) (pdata.take psync) := hp8.mono fun i _ hi => ⟨.inr (by omega), hnew i (.inr ⟨by omega, Nat.lt_of_lt_of_le hi.2 hs6⟩)⟩
          clear hw8 hkg7 q0 u0
          go_wp2_with fail
          go_roundw
          · refine ⟨i + 1, used + 1, lo ++ [(⟨pnm, pdata.take psync, psync⟩, .slice A6 psync c6)], A7, c7, by omega, by go_num, by go_num, by omega, ?_, ?_, by simpa using hc7, by simpa using hkg8, by simpa using hown8, ?_, hkw8⟩
            · rw [List.take_succ_eq_append_getElem hif, restK_append, HREST.out, HFI.out]; simp only [restK]; rw [HC1.out]
            · rw [List.map_append, List.take_succ_eq_append_getElem hif, crashL_append, HCR.out, HREST.out, HFI.out]; simp only [crashL]; rw [HC1.out]; rfl
            · intro p hp
              rcases List.mem_append.1 hp with hp | hp
              · simpa using hps8 p hp
              · simp at hp; subst hp; simpa using hp9
          · simp [intOf]; omega
      · have hunI : decide ((psync : Int) < (pdata.length : Int)) = false := decide_eq_false (by omega)
        have HC1 := Lib.hid (crash1_all (nm := pnm) (ks := ks.drop used) hsy1.1 hun)
        have hκl : psync ≤ pdata.length := by omega
        go_upto_region 12 with (fail)
        have hkfa := hkf.alloc (.cells #[] 5)
        have g0 := hkfa.cell 0
        have g1 := hkfa.cell 1
        have g2 := hkfa.cell 2
        simp only [List.getElem?_toArray, List.getElem?_cons_zero, List.getElem?_cons_succ] at g0 g1 g2
        have hown0 := World.ownsRow_lit (e := 5) (size := 1) wf #[] 0 (Nat.le_refl _) (by decide) rfl
        have hrt := ((hpayf.take (show psync ≤ pdata.length by omega)).reads.2.2).alloc (Nat.le_refl _) (.cells #[] 5)
        have hsl := fun W => slice_to A5 pdata.length c5 (psync) (by omega) W
        go_wp2_with (at_builtin; refine wpList_append_any _ rfl (.tmp 47) (.tmp 54) 28 rfl wf.heap.size 5 j0 (.int .u8 0) 1 1 Try.underlying28 hj hy0 hy1 hy2 rfl (by decide) _ _ _ rfl hown0 wf.heap.size _ _ _ ((pdata.take (psync)).map byteV) rfl hrt (oneBV _) (by unfold maxLen; omega) (by omega) (by simp) ?_)
        intro v5 w5 hown5 hg5 _
        obtain ⟨A6, c6, rfl⟩ := own_form hown5
        have hb5 := below_own ((Below.refl wf.heap.size wf).alloc (Nat.le_refl _) (.cells #[] 5)) (by simp) (Nat.le_refl _) hown0 hg5
        have hs5 := hb5.size
        have hml : (pdata.take (psync)).length = psync := by rw [List.length_take]; omega
        have hp5 : PayG (fun i => wf.heap.size ≤ i) w5 (.slice A6 (psync) c6) (pdata.take (psync)) := by
          have h : w5.ownsRow wf.heap.size 5 1 (.slice A6 (psync) c6) (psync) ((pdata.take (psync)).map byteV) := by simpa [List.map_take] using hown5
          exact PayG.of_own (G := fun i => wf.heap.size ≤ i) h (own_le h) fun g hg _ => hg
        clear hown0 hrt hg5 g0 g1 g2 hkfa hsl hown5
        have hkf5 := hkf.below hb5 hkf.lt
        have f0 := hkf5.cell 0
        have f1 := hkf5.cell 1
        have f2 := hkf5.cell 2
        simp only [List.getElem?_toArray, List.getElem?_cons_zero, List.getElem?_cons_succ] at f0 f1 f2
        have u0 := hkf5.frozen 0
        have u1 := hkf5.frozen 1
        have u2 := hkf5.frozen 2
        go_upto_region 14 with (fail)
        obtain ⟨w6, hw6⟩ : ∃ w6, w6 = (w5.setCell ⟨wr.heap.size, 1, none⟩ (.slice A6 psync c6)).setCell ⟨wr.heap.size, 2, none⟩ (.int .i64 (psync : Int)) := ⟨_, rfl⟩
        have hkf6 := (hkf5.set_ 1 (.slice A6 psync c6)).set_ 2 (.int .i64 (psync : Int))
        rw [← hw6] at hkf6 ⊢
        simp only [List.setIfInBounds_toArray, List.set_cons_succ, List.set_cons_zero] at hkf6
        have hq6 : Kept (fun i => i = wr.heap.size) w5 w6 := by rw [hw6]; exact (kept_set w5 wr.heap.size 1 _).trans ((kept_set _ wr.heap.size 2 _).mono fun _ hi => .inl hi)
        have hq06 : Below wr.heap.size wr w6 := hq6.below (hbf.trans (hb5.mono hbf.size)) (Nat.le_trans hbf.size hb5.size) fun i hi => by have : i = wr.heap.size := hi; omega
        have hown6 := own_keptF (own_below (own_below hown hbf) hb5) hq6 fun g hg e => by have : g = wr.heap.size := e; have := (hown.lt g hg).2; omega
        have hp6 := ((hp5.mono (G' := fun i => wf.heap.size ≤ i ∧ i < w5.heap.size) fun i hi hg => ⟨hg, hi⟩).keptF hq6 fun i _ hi e => by have : i = wr.heap.size := e; omega)
        have hkg6 := HKG.out.below hq06 HKG.out.lt
        have hs6 := hq6.size
        clear hw6 hkf5 f0 f1 f2 u0 u1 u2 hp5
        have f0 := hkf6.cell 0
        have f1 := hkf6.cell 1
        have f2 := hkf6.cell 2
        simp only [List.getElem?_toArray, List.getElem?_cons_zero, List.getElem?_cons_succ] at f0 f1 f2
        have q0 := hkg6.cell 0
        simp only [List.getElem?_toArray, List.getElem?_cons_zero] at q0
        have u0 := hkg6.frozen 0
        have ho6 := hown6.alloc (.cells #[.string ⟨pnm.toArray⟩, .slice A6 psync c6, .int .i64 (psync : Int)] 86)
        have hrx := reads_newP w6 pnm (.slice A6 psync c6) (pdata.take psync) psync
        have hone := oneP (p := (⟨pnm, pdata.take psync, psync⟩, .slice A6 psync c6)) hp6
        have hlol : lo.length ≤ 900000 := by have h := congrArg List.length HCR.out; rw [List.length_map, crashL_len, List.length_take] at h; omega
        have hs06 := hq06.size
        go_wp2_with (at_builtin; refine wpList_append_any _ rfl (.tmp 62) (.tmp 64) 50 rfl w1.heap.size 86 i0 (.agg #[.string ByteArray.empty, .slice none 0 0, .int .i64 0]) 3 48 Try.underlying50 hi hz0 hz1 hz2 rfl (by decide) _ _ _ rfl ho6 _ _ _ _ (cellsP [(⟨pnm, pdata.take psync, psync⟩, .slice A6 psync c6)]) rfl hrx hone (by unfold maxLen; omega) (by omega) (by simp; omega) ?_)
        intro v7 w7 hown7 hg7 hat7
        obtain ⟨A7, c7, rfl⟩ := own_form hown7
        rw [← cellsP_append] at hown7
        have hc7 := own_leN hown7 (by decide)
        have hb7 : Kept (fun i => (Value.slice A2 lo.length c2).ownBlock = some i) w6 w7 := (Kept.of_below (F := fun _ => False) ((Below.refl w6.heap.size w6).alloc (Nat.le_refl _) (.cells #[.string ⟨pnm.toArray⟩, .slice A6 psync c6, .int .i64 (psync : Int)] 86)) |>.mono (fun _ h => h.elim)).trans ((Kept.of_grown hg7 (F := fun i => (Value.slice A2 lo.length c2).ownBlock = some i) fun g h => h).mono fun _ h => .inl h)
        have hnb : ∀ g, (Value.slice A2 lo.length c2).ownBlock = some g → w1.heap.size ≤ g ∧ g < wr.heap.size := fun g hg => hown.lt g hg
        have hkg7 := hkg6.kept hb7 (fun h => by have := (hnb go h).1; omega)
        have hp7 := hp6.keptF hb7 fun i _ hi e => by have := (hnb i e).2; omega
        have hgl := hkg7.lt
        clear ho6 hrx hone f0 f1 f2 q0 u0 hg7
        have q0 := hkg7.cell 0
        simp only [List.getElem?_toArray, List.getElem?_cons_zero] at q0
        have u0 := hkg7.frozen 0
        go_upto_region 5 with (fail)
        obtain ⟨w8, hw8⟩ : ∃ w8, w8 = w7.setCell ⟨go, 0, none⟩ (.slice A7 (lo.length + 1) c7) := ⟨_, rfl⟩
        have hkg8 := hkg7.set_ 0 (.slice A7 (lo.length + 1) c7)
        rw [← hw8] at hkg8 ⊢
        simp only [List.setIfInBounds_toArray, List.set_cons_zero] at hkg8
        have hq8 : Kept (fun i => i = go) w7 w8 := by rw [hw8]; exact kept_set w7 go 0 _
        have hown8 := own_keptF hown7 hq8 fun g hg e => by have : g = go := e; have := (hown7.lt g hg).1; omega
        have hp8 := hp7.keptF hq8 fun i _ hi e => by have : i = go := e; omega
        have hk08 : Kept (fun i => i = go ∨ w1.heap.size ≤ i) wr w8 := ((Kept.of_below (F := fun i => i = go ∨ w1.heap.size ≤ i) hq06).trans (hb7.mono fun i h => .inl (.inr (hnb i h).1))).trans (hq8.mono fun i h => .inl (.inl h))
        have hkw8 : Kept (fun i => i = go) w1 w8 := HKR.out.trans (hk08.mono fun i h => h)
        have hnew : ∀ i, (i < wr.heap.size ∧ (Value.slice A2 lo.length c2).ownBlock ≠ some i) ∨ (wr.heap.size < i ∧ i < w6.heap.size) → (Value.slice A7 (lo.length + 1) c7).ownBlock ≠ some i := fun i hi e => by
          rcases hat7 with h | h
          · rw [h] at e
            rcases hi with hi | hi
            · exact hi.2 e
            · have := (hnb i e).2; omega
          · rw [h] at e
            injection e with e
            have e2 : w6.heap.size + 1 = i := by simpa using e
            rcases hi with hi | hi <;> omega
        have hps8 : PsG (fun i => LoG G w.heap.size w1.heap.size i ∧ (Value.slice A7 (lo.length + 1) c7).ownBlock ≠ some i) w8 lo :=
          ((((HPS.out.mono (G' := fun i => (LoG G w.heap.size w1.heap.size i ∧ (Value.slice A2 lo.length c2).ownBlock ≠ some i) ∧ i < wr.heap.size) fun i hi hg => ⟨hg, hi⟩).keptF (F := fun _ => False) (Kept.of_below hq06) fun _ _ _ h => h).keptF hb7 fun i _ hi e => hi.1.2 e).keptF hq8 fun i _ hi e => by
            have e : i = go := e
            have h1 := HGO.out
            rcases hi.1.1 with h | h <;> omega).mono fun i _ hi => ⟨hi.1.1, hnew i (.inl ⟨hi.2, hi.1.2⟩)⟩
        have hp9 : PayG (fun i => LoG G w.heap.size w1.heap.size i ∧ (Value.slice A7 (lo.length + 1) c7).ownBlock ≠ some i) w8 (.slice A6 psync c6) (pdata.take psync) := hp8.mono fun i _ hi => ⟨.inr (by omega), hnew i (.inr ⟨by omega, Nat.lt_of_lt_of_le hi.2 hs6⟩)⟩
        clear hw8 hkg7 q0 u0
        go_wp2_with fail
        go_roundw
        · refine ⟨i + 1, used, lo ++ [(⟨pnm, pdata.take psync, psync⟩, .slice A6 psync c6)], A7, c7, by omega, by go_num, by go_num, by omega, ?_, ?_, by simpa using hc7, by simpa using hkg8, by simpa using hown8, ?_, hkw8⟩
          · rw [List.take_succ_eq_append_getElem hif, restK_append, HREST.out, HFI.out]; simp only [restK]; rw [HC1.out]
          · rw [List.map_append, List.take_succ_eq_append_getElem hif, crashL_append, HCR.out, HREST.out, HFI.out]; simp only [crashL]; rw [HC1.out]; rfl
          · intro p hp
            rcases List.mem_append.1 hp with hp | hp
            · simpa using hps8 p hp
            · simp at hp; subst hp; simpa using hp9
        · simp [intOf]; omega
    · have HLT := Lib.hid (show files.take i = files by rw [List.take_of_length_le]; rw [← HL.out, List.length_map, HLN.out]; omega)
      have hin2 : decide ((i : Int) < (n : Int)) = false := decide_eq_false (by omega)
      have hkR := HKB1.out.kept HKR.out hneR
      have hbwr := HKR.out.below HBW1.out HBW1.out.size fun i hi => by have : i = go := hi; have := HGO.out; omega
      have hFo : FsM (LoG G w.heap.size w1.heap.size) wr (.slice A2 lo.length c2) lo := FsM.of_own hown rfl hc2 (fun g hg _ => .inr hg) (HPS.out.mono fun i _ hi => hi.1)
      have HFO := Lib.hid hFo
      have hkG := HKG.out
      clear hFo hown
      have q0 := hkG.cell 0
      have q1 := hkG.cell 1
      have q2 := hkG.cell 2
      simp only [List.getElem?_toArray, List.getElem?_cons_zero, List.getElem?_cons_succ] at q0 q1 q2
      have z0 := hkR.cell 0
      have z1 := hkR.cell 1
      have z2 := hkR.cell 2
      simp only [List.getElem?_toArray, List.getElem?_cons_zero, List.getElem?_cons_succ] at z0 z1 z2
      have y0 := hkR.frozen 0
      have y1 := hkR.frozen 1
      have y2 := hkR.frozen 2
      go_wp2_with fail
      obtain ⟨wF, hwF⟩ : ∃ wF, wF = set3 wr (w.heap.size + 1) (.slice A2 lo.length c2) (.int .i64 (-1)) (.bool false) := ⟨_, rfl⟩
      have HKF0 := Lib.hid hwF
      have hkF : Blk wF (w.heap.size + 1) 52 #[(.slice A2 lo.length c2 : Value), (.int .i64 (-1) : Value), (.bool false : Value)] := by rw [hwF]; exact set3_blk hkR _ _ _
      have hbF : Below w.heap.size w wF := by rw [hwF]; exact set3_below hbwr hbwr.size (Nat.le_succ _) _ _ _
      have f0 := hkF.cell 0
      have f1 := hkF.cell 1
      have f2 := hkF.cell 2
      simp only [List.getElem?_toArray, List.getElem?_cons_zero, List.getElem?_cons_succ] at f0 f1 f2
      unfold set3 at hwF
      rw [← hwF]
      refine bodyPost_ret (v := .agg #[(.slice A2 lo.length c2 : Value), (.int .i64 (-1) : Value), (.bool false : Value)]) (by simp [results, Try.results42, go_sem, f0, f1, f2]) rfl ?_
      have HKF := Lib.hid (show Kept (fun i => i = w.heap.size + 1) wr wF from HKF0 ▸ set3_kept _ _ _ _ _)
      refine ⟨_, rfl, ⟨_, lo, rfl, (HFO.out.keptF HKF.out fun i _ hi e => ?_).mono fun i _ hi => loG_up hi (by have := HGO.out; omega), ?_⟩, hbF⟩
      · have e : i = w.heap.size + 1 := e
        have h1 := HGO.out
        rcases hi with h | h <;> omega
      · rw [HCR.out, HLT.out]; rfl
end Go.Proofs.Ythmbmecodddkeaa
