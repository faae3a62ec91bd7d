/- The walk of Crash of the file system. -/
import Derived.Test.YthmbmecodddkeaaFail
import Derived.Test.YthmbmecodddkeaaTrunc
import Derived.StillTailTactics
namespace Go.Proofs.Ythmbmecodddkeaa
open Go.RowKit Go.WideMaps Go.Sort
section
variable {α : Type} {nm : α → List UInt8}
theorem findG_mid : ∀ {a b : List α} {x : α}, RisingG nm (a ++ x :: b) → findG nm (nm x) (a ++ x :: b) = some x
  | [], b, x, _ => by simp [findG]
  | y :: a, b, x, h => by
    have hy : bytesBefore (nm y) (nm x) = true := (List.pairwise_cons.1 h).1 x (by simp)
    have hne : nm y ≠ nm x := fun e => by rw [e, WideAt.bytes_irrefl] at hy; cases hy
    rw [List.cons_append]
    simp only [findG]
    rw [if_neg hne]
    exact findG_mid (List.pairwise_cons.1 h).2
theorem putG_mid : ∀ {a b : List α} {x x' : α}, RisingG nm (a ++ x :: b) → nm x' = nm x → putG nm x' (a ++ x :: b) = a ++ x' :: b
  | [], b, x, x', _, e => by simp [putG, e]
  | y :: a, b, x, x', h, e => by
    have hy : bytesBefore (nm y) (nm x) = true := (List.pairwise_cons.1 h).1 x (by simp)
    have hne : nm y ≠ nm x' := fun e2 => by rw [e2, e, WideAt.bytes_irrefl] at hy; cases hy
    have hb : ¬ bytesBefore (nm x') (nm y) = true := fun hb => by
      have := WideShapes.bytes_trans _ _ _ hb hy
      rw [e, WideAt.bytes_irrefl] at this
      cases this
    rw [List.cons_append]
    simp only [putG]
    rw [if_neg hne, if_neg hb, putG_mid (List.pairwise_cons.1 h).2 e]
    rfl
end
/-- The look-up of a file that is there. -/
theorem look_ptr {w : World} {mb n : Nat} {frs : List FR} (h : w.ownsMap Try.prog 9 ptrR mb n (datum (frs.map FR.row))) (s : ByteArray) (hs : s.size ≤ maxLen) {f : FR} (hf : findG FR.name s.data.toList frs = some f) :
    (Instr.lookup 64 (.map (some mb)) (.string s) false).run Try.prog w = .ok (.pointer (some ⟨f.g, 0, none⟩)) w := by
  obtain ⟨v, ps, hrun, hv⟩ := h.lookup (t := 64) (e := 68) lawS Try.underlying64 (zeroP w) (show ptrR (.pointer none) = some (tgt (-1) false, []) from rfl) (keyOf_string_mk Try.underlying9 hs)
  rw [atKey_datum] at hv
  rw [hrun]
  have e : (fun a => Row.name (FR.row a)) = FR.name := rfl
  rw [findR_G, findG_map FR.row Row.name, e, hf] at hv
  rw [ptrR_inv hv]
  simp only [FR.row]
  unfold ptrV
  rw [if_neg (by omega)]
  rfl
theorem slice_to (A : Option Addr) (n c k : Nat) (h : k ≤ c) (w : World) : (Instr.slice 28 (.slice A n c) none (some (.int .i64 (k : Int))) none).run Try.prog w = .ok (.slice A k c) w := by
  have q0 : (0 : Int) ≤ (k : Int) := by omega
  have q1 : (k : Int) ≤ (c : Int) := by omega
  simp [go_sem, Try.underlying28, q0, q1]
theorem restK_mem : ∀ (l : List AF) (ks : List Int) (k : Int), k ∈ restK l ks → k ∈ ks
  | [], _, _, h => h
  | f :: t, ks, k, h => by
    have := restK_mem t _ k h
    unfold crash1 at this
    split at this
    · exact this
    · split at this
      · cases this
      · exact List.mem_cons_of_mem _ this
theorem foot_mid {sb mb : Nat} {a b : List FR} {f f' : FR} (hg : f'.g = f.g) (hv : f'.v.ownBlock = f.v.ownBlock) {i : Nat} (h : Foot sb mb (a ++ f' :: b) i) : Foot sb mb (a ++ f :: b) i := by
  rcases h with h | h | ⟨r, hr, h⟩
  · exact .inl h
  · exact .inr (.inl h)
  · rw [List.mem_append, List.mem_cons] at hr
    rcases hr with hr | rfl | hr
    · exact .inr (.inr ⟨r, by simp [hr], h⟩)
    · exact .inr (.inr ⟨f, by simp, by rw [hg, hv] at h; exact h⟩)
    · exact .inr (.inr ⟨r, by simp [hr], h⟩)
/-- A file is cut in place: the system behind it. -/
theorem sys_cut {w w4 : World} {base sb mb n : Nat} {off lim : Bool} {left : Int} {a b : List FR} {fname fdata : List UInt8} {fg fsync fc κ : Nat} {fA : Option Addr}
    (h : SysP w base sb mb n off lim left (a ++ ⟨fname, fg, .slice fA fdata.length fc, fdata, fsync⟩ :: b)) (hk : Kept (fun i => i = fg) w w4) (hb : Blk w4 fg 71 #[.slice fA κ fc, .int .i64 (κ : Int)]) (hκ : κ ≤ fdata.length) :
    SysP w4 base sb mb n off lim left (a ++ ⟨fname, fg, .slice fA κ fc, fdata.take κ, κ⟩ :: b) := by
  have hmem : (⟨fname, fg, .slice fA fdata.length fc, fdata, fsync⟩ : FR) ∈ a ++ ⟨fname, fg, .slice fA fdata.length fc, fdata, fsync⟩ :: b := by simp
  obtain ⟨hfm, hfg⟩ := h.2.2.2.1 _ hmem
  have hap := file_apart h hmem
  have hown : w.ownsRow base 5 1 (.slice fA fdata.length fc) fdata.length (fdata.map byteV) := hfm.2.1
  have hown4 := own_keptF hown hk fun g hg e => own_blk_ne hown hfm.1 (by decide) (by rw [← e]; exact hg)
  have hcut := own_cut hown4 rfl hκ
  have hl : (fdata.take κ).length = κ := by rw [List.length_take]; omega
  have hdl : fdata.length ≤ 16777216 := hfm.2.2.2
  have hne : fg ≠ sb := Blk.ne_ hfm.1 h.1 (by decide)
  have hmb : fg ≠ mb := h.blk_ne_mb hfm.1
  have hrow : putR (FR.row ⟨fname, fg, .slice fA κ fc, fdata.take κ, κ⟩) ((a ++ ⟨fname, fg, .slice fA fdata.length fc, fdata, fsync⟩ :: b).map FR.row) = (a ++ ⟨fname, fg, .slice fA fdata.length fc, fdata, fsync⟩ :: b).map FR.row := by
    rw [show FR.row ⟨fname, fg, .slice fA κ fc, fdata.take κ, κ⟩ = FR.row ⟨fname, fg, .slice fA fdata.length fc, fdata, fsync⟩ from rfl, put_rows, putG_mid (x := (⟨fname, fg, .slice fA fdata.length fc, fdata, fsync⟩ : FR)) (x' := (⟨fname, fg, .slice fA fdata.length fc, fdata, fsync⟩ : FR)) h.2.2.1 rfl]
  have hfin := sys_write (n' := n) (off' := off) (lim' := lim) (left' := left) h hfm hfg hap (f' := ⟨fname, fg, .slice fA κ fc, fdata.take κ, κ⟩) rfl rfl (.inl (ownBlock_cut _ _ _ _)) (hk.mono fun i hi => .inl hi)
    ⟨hb, hcut, by simp only; omega, by simp only; omega⟩ (by rw [hrow]; exact map_kept h.2.1 hk (Ne.symm hmb)) (h.1.kept hk (Ne.symm hne))
  have hpm := putG_mid (nm := FR.name) (a := a) (b := b) (x := (⟨fname, fg, .slice fA fdata.length fc, fdata, fsync⟩ : FR)) (x' := (⟨fname, fg, .slice fA κ fc, fdata.take κ, κ⟩ : FR)) h.2.2.1 rfl
  rw [hpm] at hfin
  exact hfin
theorem infoI : (Try.prog.info? 3).map (fun i => (i.zero, i.size, i.bytes)) = some (some (.int .i64 0), 1, 8) := by kernel_rfl
theorem slice_from (ad : Addr) (m c : Nat) (h1 : 1 ≤ m) (h2 : m ≤ c) (w : World) : (Instr.slice 54 (.slice (some ad) m c) (some (.int .i64 1)) none none).run Try.prog w = .ok (.slice (if c = 1 then some ad else (some ad).map (·.add (1 * 1))) (m - 1) (c - 1)) w := by
  have q0 : (1 : Int) ≤ (m : Int) := by omega
  by_cases h : c = 1
  · subst h
    obtain rfl : m = 1 := by omega
    simp [go_sem, Try.underlying54]
  · obtain ⟨i0, hi, hz0, hz1, hz2⟩ := info_parts infoI
    simp [go_sem, Try.underlying54, q0, h, typeInfo, sizeOf, hi, hz1, Addr.add]
/-- The loop's relation in Crash: j files are done. -/
def CrRel (w1 : World) (base : Nat) (F : Nat → Prop) (sb mb n : Nat) (off lim : Bool) (left : Int) (files : List AF) (ks : List Int) (B N : Nat) (s1 s14 : Value) (wr : World) : Prop :=
  ∃ (j : Nat) (frs : List FR) (A : Option Addr) (m c : Nat), j ≤ N ∧ s14 = .int .i64 j ∧ s1 = .slice A m c ∧ m ≤ c ∧ (∀ ad, A = some ad → 0 < m → ¬ F ad.block) ∧ Reads wr B 1 A m ((restK (files.take j) ks).map (Value.int .i64)) ∧
    SysP wr base sb mb n off lim left frs ∧ frs.map FR.abs = crashL (files.take j) ks ++ files.drop j ∧ (∀ i, Foot sb mb frs i → F i) ∧ Kept F w1 wr
set_option maxRecDepth 100000 in
set_option maxHeartbeats 4000000 in
theorem crash_any (base sb mb n : Nat) (F : Nat → Prop) (st : AS) (A : Option Addr) (m c B : Nat) (ks : List Int) (w : World) (hS : SysM w base F sb mb n st) (hr : Reads w B 1 A m (ks.map (Value.int .i64))) (hB : B ≤ w.heap.size) (hA : ∀ ad, A = some ad → 0 < m → ¬ F ad.block) (hm : m ≤ c)
    (hlen : st.files.length ≤ 1000000) (hnm : ∀ f ∈ st.files, f.name.length ≤ 1000) (hkb : ∀ k ∈ ks, -9223372036854775808 ≤ k ∧ k ≤ 9223372036854775807) (hF : ∀ i, F i → i < w.heap.size) :
    Calls Try.prog 21 #[.pointer (some ⟨sb, 0, none⟩), .slice A m c] w (UEnd w base F sb mb n ⟨crashL st.files ks, false, false, 0⟩) := by
  obtain ⟨frs, hSP, habs, hfoot, hFb, _⟩ := hS
  obtain ⟨files, off, lim, left⟩ := st
  simp only at habs hlen hnm hSP
  have hbw := SysP.base_le hSP
  have HNM := Lib.hid hnm
  have HL := Lib.hid (show frs.length = files.length by rw [← habs]; simp)
  have HN := Lib.hid (show frs.map FR.name = files.map AF.name by rw [← habs, List.map_map]; rfl)
  have hnames := names_any sb mb n (frs.map FR.row) off lim left w hSP.1 hSP.2.1 (rising_rows hSP.2.2.1) (by rw [List.length_map, HL.out]; exact hlen)
  have HAB := Lib.hid habs
  have HFB := Lib.hid hFb
  have HF := Lib.hid hF
  have HLEN := Lib.hid hlen
  clear habs hlen hnm hFb hF
  go_enter Try.func21, Try.ntmps21
  go_wp2_with fail
  refine hnames.mono ?_
  rintro e w1 ⟨A1, c1, rfl, hrow, hb1⟩
  clear hnames
  have hS1 : SysP w1 base sb mb n off lim left frs := hSP.kept (G := fun _ => False) (Kept.of_below hb1) fun _ _ h => h
  have hr1 := hr.below (hb1.mono hB)
  have HRW := Lib.hid hrow
  have HBS := Lib.hid (show B ≤ w1.heap.size from Nat.le_trans hB hb1.size)
  have HB1 := Lib.hid hb1
  clear hSP hr hrow
  go_wp2_with fail
  go_loopw [1, 14] (fun s1 s14 wr => CrRel w1 base F sb mb n off lim left files ks B frs.length s1 s14 wr) (fun _ s14 _ => frs.length - (intOf s14).toNat)
  case atStart => exact ⟨0, frs, A, m, c, by omega, rfl, rfl, hm, hA, hr1, hS1, by simpa [crashL] using HAB.out, hfoot, Kept.refl _ _⟩
  case round =>
    obtain ⟨j, frs', A', m', c', hj, rfl, rfl, hmc, hNF, hrd, hSP, habs, hft, hk⟩ := hrel
    have HNF := Lib.hid hNF
    clear hNF
    have HBW := Lib.hid (show B ≤ wr.heap.size from Nat.le_trans HBS.out hk.size)
    have c0 := hSP.1.cell 0
    simp only [sysC, List.getElem?_toArray, List.getElem?_cons_zero] at c0
    by_cases hlt : j < frs.length
    · have hjf : j < files.length := by rw [← HL.out]; exact hlt
      have hrow := own_keptF HRW.out hk fun g hg hf => by have := HF.out g hf; have := HRW.out.lt g hg; omega
      obtain ⟨bb, oo, rfl, hbl, hc⟩ := (Reads.of_own hrow).form (by simpa using Nat.lt_of_le_of_lt (Nat.zero_le j) hlt)
      have e0 := hc j (encStr (frs[j]).name) (by rw [List.getElem?_map, List.getElem?_map, List.getElem?_eq_getElem hlt]; rfl)
      rw [List.drop_eq_getElem_cons hjf] at habs
      obtain ⟨a, r, rfl, ha, hr2⟩ := List.map_eq_append_iff.1 habs
      obtain ⟨f, b, rfl, hf, hb⟩ := List.map_eq_cons_iff.1 hr2
      have hname : (frs[j]).name = f.name := by
        have h1 : (frs.map FR.name)[j]? = (files.map AF.name)[j]? := by rw [HN.out]
        rw [List.getElem?_map, List.getElem?_map, List.getElem?_eq_getElem hlt, List.getElem?_eq_getElem hjf, ← hf] at h1
        simpa [FR.abs] using h1
      have hfl : f.name.length ≤ 1000 := by
        have := HNM.out _ (List.getElem_mem hjf)
        rw [← hf] at this
        exact this
      rw [hname] at e0
      have hfind := findG_mid hSP.2.2.1
      have hlk := look_ptr hSP.2.1 ⟨f.name.toArray⟩ (by simp [ByteArray.size, maxLen]; omega) (f := f) (by simpa using hfind)
      have hmemf : f ∈ a ++ f :: b := by simp
      obtain ⟨hfm, hfgb⟩ := hSP.2.2.2.1 _ hmemf
      have hj1 : j < 1000000 := by have := HLEN.out; have := HL.out; omega
      have HSP := Lib.hid hSP
      have HC := Lib.hid hc
      clear hc hSP hr2 habs hrow
      obtain ⟨fname, fg, fv, fdata, fsync⟩ := f
      simp only at hlk hfl hfm hfgb e0 hname
      have hownf : wr.ownsRow base 5 1 fv fdata.length (fdata.map byteV) := hfm.2.1
      have hblkf : Blk wr fg 71 #[fv, .int .i64 fsync] := hfm.1
      have hdl : fdata.length ≤ 16777216 := hfm.2.2.2
      have hsl : fsync ≤ fdata.length := hfm.2.2.1
      obtain ⟨fA, fc, rfl⟩ := own_form hownf
      have x0 := hblkf.cell 0
      have x1 := hblkf.cell 1
      have xf0 := hblkf.frozen 0
      have xf1 := hblkf.frozen 1
      simp only [List.getElem?_toArray, List.getElem?_cons_zero, List.getElem?_cons_succ] at x0 x1
      have HFM := Lib.hid hfm
      have HE := Lib.hid (show encStr fname = .string ⟨fname.toArray⟩ from rfl)
      rw [HE.out] at e0
      clear hfm hfind hmemf
      have hT : files.take (j + 1) = files.take j ++ [files[j]] := List.take_succ_eq_append_getElem hjf
      have HFI := Lib.hid (show files[j] = ⟨fname, fdata, fsync⟩ from hf.symm)
      have FIN := Lib.hid (fun (wr' : World) (f' : FR) (A2 : Option Addr) (m2 c2 : Nat) (h1 : f'.abs = (crash1 ⟨fname, fdata, fsync⟩ (restK (files.take j) ks)).1) (h2 : m2 ≤ c2) (h2b : ∀ ad, A2 = some ad → 0 < m2 → ¬ F ad.block)
        (h3 : Reads wr' B 1 A2 m2 ((crash1 ⟨fname, fdata, fsync⟩ (restK (files.take j) ks)).2.map (Value.int .i64))) (h4 : SysP wr' base sb mb n off lim left (a ++ f' :: b)) (h5 : ∀ i, Foot sb mb (a ++ f' :: b) i → F i) (h6 : Kept F w1 wr') =>
        (show CrRel w1 base F sb mb n off lim left files ks B frs.length (.slice A2 m2 c2) (.int .i64 ((j + 1 : Nat) : Int)) wr' from
          ⟨j + 1, a ++ f' :: b, A2, m2, c2, hlt, rfl, rfl, h2, h2b, by rw [hT, restK_append, HFI.out]; exact h3, h4, by
            rw [hT, crashL_append, HFI.out, List.map_append, List.map_cons, ha, hb, h1]; simp [crashL], h5, h6⟩))
      obtain ⟨D, hD⟩ : ∃ D, fdata.length = fsync + D := ⟨fdata.length - fsync, by omega⟩
      have HD := Lib.hid hD
      have v0 : IntKind.i64.wrap ((fdata.length : Int) - (fsync : Int)) = (D : Int) := by rw [IntWalk.i64_in _ (by omega)]; omega
      have HFT := Lib.hid hft
      have HFG := Lib.hid (show F fg from hft fg (.inr (.inr ⟨⟨fname, fg, .slice fA fdata.length fc, fdata, fsync⟩, by simp, .inl rfl⟩)))
      have HK := Lib.hid hk
      clear hT ha hb hf hft hk hD hsl hname HFI hjf
      have q0 : (j : Int) < ((frs.map FR.row).length : Int) := by simpa using hlt
      by_cases hz : D = 0
      · subst hz
        have HC1 := Lib.hid (show crash1 ⟨fname, fdata, fsync⟩ (restK (files.take j) ks) = (⟨fname, fdata, fsync⟩, restK (files.take j) ks) by unfold crash1; rw [if_pos (show fdata.length - fsync = 0 by have := HD.out; omega)])
        go_wp2_with fail
        go_quiet (fail)
        have hq := below_drewN (Below.refl wr.heap.size wr) nq
        have hrd2 := hrd.below (hq.mono HBW.out)
        clear v0 x0 x1 xf0 xf1 e0 c0 hlk
        go_wp2_with fail
        go_roundw
        case rel =>
          exact FIN.out _ ⟨fname, fg, .slice fA fdata.length fc, fdata, fsync⟩ A' m' c' (by rw [HC1.out]; rfl) hmc HNF.out (by rw [HC1.out]; exact hrd2) (HSP.out.kept (G := fun _ => False) (Kept.of_below hq) fun _ _ h => h) HFT.out (HK.out.trans (Kept.of_below hq))
        case measure =>
          simp [intOf]; omega
      · have hRl : (restK (files.take j) ks).length = m' := by have := hrd.1; simpa using this
        have HRL := Lib.hid hRl
        have hDz : ((D : Int) == 0) = false := by simpa using hz
        have q1 : (fsync : Int) ≤ (fc : Int) := by have := own_le hownf; have := HD.out; omega
        have q2 : fsync ≤ fc := by omega
        clear hRl
        by_cases hm0 : m' = 0
        · subst hm0
          have hks : restK (files.take j) ks = [] := List.eq_nil_of_length_eq_zero HRL.out
          have HC1 := Lib.hid (show crash1 ⟨fname, fdata, fsync⟩ (restK (files.take j) ks) = (⟨fname, fdata.take (fsync + 0), fsync + 0⟩, []) by
            unfold crash1
            rw [if_neg (show ¬ fdata.length - fsync = 0 by have := HD.out; omega), hks]
            rfl)
          rw [hks] at hrd
          clear hks
          go_wp2_with fail
          go_quiet (fail)
          have hq := below_drewN (Below.refl wr.heap.size wr) nq
          have HFM2 := Lib.hid (HFM.out.kept (F := fun _ => False) (Kept.of_below hq) (fun h => h) fun _ _ h => h)
          have HSP2 := Lib.hid (HSP.out.kept (G := fun _ => False) (Kept.of_below hq) fun _ _ h => h)
          have HK2 := Lib.hid (HK.out.trans (Kept.of_below hq))
          have y0 := HFM2.out.1.cell 0
          have y1 := HFM2.out.1.cell 1
          have yf0 := HFM2.out.1.frozen 0
          have yf1 := HFM2.out.1.frozen 1
          simp only [List.getElem?_toArray, List.getElem?_cons_zero, List.getElem?_cons_succ] at y0 y1
          have hrd2 := hrd.below (hq.mono HBW.out)
          have HBW2 := Lib.hid (Nat.le_trans HBW.out hq.size)
          clear x0 x1 xf0 xf1 e0 c0 hlk v0 hrd hq hownf hblkf
          generalize wr.drewN nq = w2 at *
          go_wp2_with fail
          have u0 : IntKind.i64.wrap (fsync : Int) = (fsync : Int) := IntWalk.i64_in _ (by have := HD.out; omega)
          have hslc := fun W => slice_to fA fdata.length fc fsync (by have := own_le HFM2.out.2.1; have := HD.out; omega) W
          go_still_tail 14, (by kernel_rfl)
          change wpList _ _ _ _ _ w2.drew
          have hq3 : Below w2.heap.size w2 w2.drew := ⟨rfl, rfl, rfl, Nat.le_refl _, fun _ _ => rfl⟩
          have HFM3 := Lib.hid (HFM2.out.kept (F := fun _ => False) (Kept.of_below hq3) (fun h => h) fun _ _ h => h)
          have HSP3 := Lib.hid (HSP2.out.kept (G := fun _ => False) (Kept.of_below hq3) fun _ _ h => h)
          have HK3 := Lib.hid (HK2.out.trans (Kept.of_below hq3))
          have z0 := HFM3.out.1.cell 0
          have z1 := HFM3.out.1.cell 1
          have zf0 := HFM3.out.1.frozen 0
          have zf1 := HFM3.out.1.frozen 1
          simp only [List.getElem?_toArray, List.getElem?_cons_zero, List.getElem?_cons_succ] at z0 z1
          have hrd3 := hrd2.below (hq3.mono HBW2.out)
          have HR3 := Lib.hid hrd3
          have HBW3 := Lib.hid (Nat.le_trans HBW2.out hq3.size)
          clear y0 y1 yf0 yf1 hrd3 hrd2 hq3 u0 hslc
          generalize w2.drew = w3 at *
          go_wp2_with fail
          go_roundw
          case rel =>
            have hk4 : Kept (fun i => i = fg) w3 _ := (kept_set w3 fg 0 (.slice fA fsync fc)).trans ((kept_set _ fg 1 (.int .i64 (fsync : Int))).mono fun i hi => .inl hi)
            have hb4 := (HFM3.out.1.set_ 0 (.slice fA fsync fc)).set_ 1 (.int .i64 (fsync : Int))
            have hsp := sys_cut (κ := fsync) HSP3.out hk4 (by simpa using hb4) (by have := HD.out; omega)
            exact FIN.out _ ⟨fname, fg, .slice fA fsync fc, fdata.take fsync, fsync⟩ A' 0 c' (by rw [HC1.out]; rfl) (Nat.zero_le _) (fun ad e h => absurd h (by omega)) (by rw [HC1.out]; exact reads_keptP HR3.out hk4 HBW3.out fun ad e h => absurd h (by omega)) hsp (fun i hi => HFT.out i (foot_mid (f := ⟨fname, fg, .slice fA fdata.length fc, fdata, fsync⟩) (f' := ⟨fname, fg, .slice fA fsync fc, fdata.take fsync, fsync⟩) rfl (ownBlock_cut _ _ _ _) hi)) (HK3.out.trans (hk4.mono fun i hi => .inl (by rw [hi]; exact HFG.out)))
          case measure =>
            simp [intOf]; omega
        · obtain ⟨k, t, hks⟩ : ∃ k t, restK (files.take j) ks = k :: t := by
            cases h : restK (files.take j) ks with
            | nil => exact absurd (by rw [← HRL.out, h]; rfl) hm0
            | cons k t => exact ⟨k, t, rfl⟩
          have HC1 := Lib.hid (show crash1 ⟨fname, fdata, fsync⟩ (restK (files.take j) ks) = (⟨fname, fdata.take (fsync + (clipI k 0 D).toNat), fsync + (clipI k 0 D).toNat⟩, t) by
            unfold crash1
            rw [if_neg (show ¬ fdata.length - fsync = 0 by have := HD.out; omega), hks]
            simp only
            rw [show fdata.length - fsync = D by have := HD.out; omega]
            rfl)
          have hkk : -9223372036854775808 ≤ k ∧ k ≤ 9223372036854775807 := hkb k (restK_mem _ _ k (by rw [hks]; simp))
          obtain ⟨κ, hκ, hκD⟩ : ∃ κ : Nat, clipI k 0 D = (κ : Int) ∧ κ ≤ D := ⟨(clipI k 0 D).toNat, by unfold clipI; split <;> (try split) <;> omega, by unfold clipI; split <;> (try split) <;> omega⟩
          rw [hκ, Int.toNat_natCast] at HC1
          rw [hks] at hrd
          have HKA := Lib.hid hκ
          have hm1 : 1 ≤ m' := by omega
          have hcut := hrd.cut (k := 1) (cap := c') hm1 hmc
          obtain ⟨ad, u, rfl, hadb, hu, hcu⟩ := hrd.at_ (k := 0) (by omega)
          obtain rfl : u = .int .i64 k := by simpa using hu.symm
          clear hu hks hκ hcut
          go_wp2_with fail
          go_quiet (fail)
          have hq := below_drewN (Below.refl wr.heap.size wr) nq
          have HFM2 := Lib.hid (HFM.out.kept (F := fun _ => False) (Kept.of_below hq) (fun h => h) fun _ _ h => h)
          have HSP2 := Lib.hid (HSP.out.kept (G := fun _ => False) (Kept.of_below hq) fun _ _ h => h)
          have HK2 := Lib.hid (HK.out.trans (Kept.of_below hq))
          have y0 := HFM2.out.1.cell 0
          have y1 := HFM2.out.1.cell 1
          have yf0 := HFM2.out.1.frozen 0
          have yf1 := HFM2.out.1.frozen 1
          simp only [List.getElem?_toArray, List.getElem?_cons_zero, List.getElem?_cons_succ] at y0 y1
          have hrd2 := hrd.below (hq.mono HBW.out)
          have HBW2 := Lib.hid (Nat.le_trans HBW.out hq.size)
          clear x0 x1 xf0 xf1 e0 c0 hlk v0 hrd hq hownf hblkf
          generalize wr.drewN nq = w2 at *
          have hcell : w2.cell? ad = some (.int .i64 k) := by
            obtain ⟨ad', u', e', _, hu', hc'⟩ := hrd2.at_ (k := 0) (by omega)
            injection e' with e'
            subst e'
            have : u' = .int .i64 k := by simpa using hu'.symm
            rw [← this]
            simpa [Addr.add] using hc'
          have hcut := hrd2.cut (k := 1) (cap := c') hm1 hmc
          have hsl1 := fun W => slice_from ad m' c' hm1 hmc W
          obtain ⟨A2, hA2⟩ : ∃ A2, A2 = if c' = 1 then some ad else (some ad).map (·.add (1 * 1)) := ⟨_, rfl⟩
          simp only [← hA2] at hsl1 hcut
          have HCUT := Lib.hid hcut
          have HNA := Lib.hid (show ∀ x, A2 = some x → 0 < m' - 1 → ¬ F x.block from fun x e h => by
            rw [hA2] at e
            have h0 := HNF.out ad rfl (by omega)
            split at e
            · injection e with e; subst e; exact h0
            · simp at e; subst e; rw [block_of_add]; exact h0)
          clear hcut hrd2 hcu hA2
          go_wp2_with fail
          refine (clip_any k 0 D w2).mono ?_
          rintro e w' ⟨rfl, rfl⟩
          rw [HKA.out]
          go_wp2_with fail
          have u0 : IntKind.i64.wrap ((fsync : Int) + (κ : Int)) = (fsync : Int) + (κ : Int) := IntWalk.i64_in _ (by have := HD.out; omega)
          have hslc : ∀ W : World, (Instr.slice 28 (.slice fA fdata.length fc) none (some (.int .i64 ((fsync : Int) + (κ : Int)))) none).run Try.prog W = .ok (.slice fA (fsync + κ) fc) W := fun W => by
            rw [show (fsync : Int) + (κ : Int) = ((fsync + κ : Nat) : Int) by omega]
            exact slice_to fA fdata.length fc (fsync + κ) (by have := own_le HFM2.out.2.1; have := HD.out; omega) W
          go_still_tail 14, (by kernel_rfl)
          change wpList _ _ _ _ _ w2.drew
          have hq3 : Below w2.heap.size w2 w2.drew := ⟨rfl, rfl, rfl, Nat.le_refl _, fun _ _ => rfl⟩
          have HFM3 := Lib.hid (HFM2.out.kept (F := fun _ => False) (Kept.of_below hq3) (fun h => h) fun _ _ h => h)
          have HSP3 := Lib.hid (HSP2.out.kept (G := fun _ => False) (Kept.of_below hq3) fun _ _ h => h)
          have HK3 := Lib.hid (HK2.out.trans (Kept.of_below hq3))
          have z0 := HFM3.out.1.cell 0
          have z1 := HFM3.out.1.cell 1
          have zf0 := HFM3.out.1.frozen 0
          have zf1 := HFM3.out.1.frozen 1
          simp only [List.getElem?_toArray, List.getElem?_cons_zero, List.getElem?_cons_succ] at z0 z1
          have hrd3 := HCUT.out.below (hq3.mono HBW2.out)
          have HR3 := Lib.hid hrd3
          have HBW3 := Lib.hid (Nat.le_trans HBW2.out hq3.size)
          clear y0 y1 yf0 yf1 hrd3 hq3 u0 hslc
          generalize w2.drew = w3 at *
          go_wp2_with fail
          go_roundw
          case rel =>
            have hk4 : Kept (fun i => i = fg) w3 _ := (kept_set w3 fg 0 (.slice fA (fsync + κ) fc)).trans ((kept_set _ fg 1 (.int .i64 ((fsync : Int) + (κ : Int)))).mono fun i hi => .inl hi)
            have hb4 := (HFM3.out.1.set_ 0 (.slice fA (fsync + κ) fc)).set_ 1 (.int .i64 ((fsync : Int) + (κ : Int)))
            have hsp := sys_cut (κ := fsync + κ) HSP3.out hk4 (by simpa using hb4) (by have := HD.out; omega)
            exact FIN.out _ ⟨fname, fg, .slice fA (fsync + κ) fc, fdata.take (fsync + κ), fsync + κ⟩ A2 (m' - 1) (c' - 1) (by rw [HC1.out]; rfl) (by omega) HNA.out (by rw [HC1.out]; exact reads_keptP HR3.out hk4 HBW3.out fun ad e h hf => HNA.out ad e h (by rw [hf]; exact HFG.out)) hsp (fun i hi => HFT.out i (foot_mid (f := ⟨fname, fg, .slice fA fdata.length fc, fdata, fsync⟩) (f' := ⟨fname, fg, .slice fA (fsync + κ) fc, fdata.take (fsync + κ), fsync + κ⟩) rfl (ownBlock_cut _ _ _ _) hi)) (HK3.out.trans (hk4.mono fun i hi => .inl (by rw [hi]; exact HFG.out)))
          case measure =>
            simp [intOf]; omega
    · have hje : j = frs.length := by omega
      have q0 : ¬ (j : Int) < (frs.length : Int) := by omega
      have hfin : frs'.map FR.abs = crashL files ks := by
        rw [habs, hje, HL.out, List.take_length, List.drop_length, List.append_nil]
      have HFN := Lib.hid hfin
      have HSP := Lib.hid hSP
      have HFT := Lib.hid hft
      have HK := Lib.hid hk
      have c1 := hSP.1.cell 1
      have c2 := hSP.1.cell 2
      have c3 := hSP.1.cell 3
      have f1 := hSP.1.frozen 1
      have f2 := hSP.1.frozen 2
      have f3 := hSP.1.frozen 3
      simp only [sysC, List.getElem?_toArray, List.getElem?_cons_zero, List.getElem?_cons_succ] at c1 c2 c3
      clear habs hSP hft hk hfin hje hlt
      go_wp2_with fail
      go_end0
      have hk2 : Kept (fun i => i = sb) wr _ := ((kept_set wr sb 1 (.bool false)).trans ((kept_set _ sb 2 (.bool false)).mono fun i hi => .inl hi)).trans ((kept_set _ sb 3 (.int .i64 0)).mono fun i hi => .inl hi)
      refine ⟨rfl, ⟨frs', HSP.out.flags hk2 ?_, HFN.out, HFT.out, HFB.out, Int.le_refl _, (by decide : (0 : Int) ≤ 9223372036854775807)⟩, ((Kept.of_below HB1.out).trans (HK.out.mono fun i hi => .inl hi)).trans (hk2.mono fun i hi => .inl (by rw [hi]; exact HFT.out _ (.inl rfl)))⟩
      have := ((HSP.out.1.set_ 1 (.bool false)).set_ 2 (.bool false)).set_ 3 (.int .i64 0)
      simpa [sysC] using this
end Go.Proofs.Ythmbmecodddkeaa
