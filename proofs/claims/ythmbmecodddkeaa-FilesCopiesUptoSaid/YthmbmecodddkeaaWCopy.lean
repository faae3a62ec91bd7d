/- The walk of Copy of the file system. -/
import Derived.Test.YthmbmecodddkeaaRename
import Derived.Test.YthmbmecodddkeaaNames
import Derived.Test.YthmbmecodddkeaaRead
import Derived.Test.YthmbmecodddkeaaRFs
import Derived.Deep.RegionHeld3
namespace Go.Proofs.Ythmbmecodddkeaa
open Go.RowKit Go.WideMaps Go.Maps Go.Sort
theorem file_of_hat {frs : List FR} {x : List UInt8} {c : Int} {y : DataW Unit × List MemPlace} (hv : ptrR (ptrV c) = some y) (hat : ∀ zd, (datum (frs.map FR.row)).atKey (.string x) zd = y.1) : ∃ f ∈ frs, f.name = x ∧ ptrV c = .pointer (some ⟨f.g, 0, none⟩) := by
  have h := fun zd => (atKey_datum (frs.map FR.row) x zd).symm.trans (hat zd)
  rw [findR_G, findG_map FR.row Row.name] at h
  cases hf : findG (fun a => Row.name (FR.row a)) x frs with
  | none =>
    rw [hf] at h
    have h1 := (h .nil).trans (h (.map [])).symm
    cases h1
  | some f =>
    rw [hf] at h
    obtain ⟨e, hm⟩ := findG_name hf
    refine ⟨f, hm, e, ?_⟩
    have h1 := h .nil
    obtain ⟨y1, y2⟩ := y
    simp only [Option.map_some, FR.row] at h1
    rw [← h1] at hv
    rw [ptrR_inv hv]
    unfold ptrV
    rw [if_neg (by omega)]
    rfl
/-- What is copied so far: the names that are not left, each with what the old file holds. -/
def Cov (frs : List FR) (left : Lit → Bool) (crs : List FR) : Prop :=
  (∀ f ∈ frs, left (.string f.name) = false → ∃ f' ∈ crs, f'.abs = f.abs) ∧ ∀ f' ∈ crs, ∃ f ∈ frs, f'.abs = f.abs
theorem ris_eq : ∀ (a b : List AF), RisingG AF.name a → RisingG AF.name b → (∀ x, x ∈ a ↔ x ∈ b) → a = b
  | [], [], _, _, _ => rfl
  | [], y :: b, _, _, h => by have := (h y).2 (by simp); cases this
  | x :: a, [], _, _, h => by have := (h x).1 (by simp); cases this
  | x :: a, y :: b, ha, hb, h => by
    have hx : ∀ r ∈ a, bytesBefore x.name r.name = true := (List.pairwise_cons.1 ha).1
    have hy : ∀ r ∈ b, bytesBefore y.name r.name = true := (List.pairwise_cons.1 hb).1
    have hxx : ∀ s : List UInt8, bytesBefore s s = true → False := fun s h => by rw [WideAt.bytes_irrefl] at h; cases h
    have e : x = y := by
      rcases List.mem_cons.1 ((h x).1 (by simp)) with e | e
      · exact e
      · rcases List.mem_cons.1 ((h y).2 (by simp)) with e2 | e2
        · exact e2.symm
        · exact (hxx _ (WideShapes.bytes_trans _ _ _ (hy x e) (hx y e2))).elim
    subst e
    rw [ris_eq a b (List.pairwise_cons.1 ha).2 (List.pairwise_cons.1 hb).2 fun z => ⟨fun hz => ?_, fun hz => ?_⟩]
    · rcases List.mem_cons.1 ((h z).1 (by simp [hz])) with e | e
      · subst e; exact (hxx _ (hx _ hz)).elim
      · exact e
    · rcases List.mem_cons.1 ((h z).2 (by simp [hz])) with e | e
      · subst e; exact (hxx _ (hy _ hz)).elim
      · exact e
theorem ris_abs {frs : List FR} (h : RisingG FR.name frs) : RisingG AF.name (frs.map FR.abs) := by
  unfold RisingG
  rw [List.pairwise_map]
  exact h
theorem cov_end {frs crs : List FR} {left : Lit → Bool} (h : Cov frs left crs) (hl : ∀ z, left z = false) (h1 : RisingG FR.name frs) (h2 : RisingG FR.name crs) : crs.map FR.abs = frs.map FR.abs := by
  refine ris_eq _ _ (ris_abs h2) (ris_abs h1) fun x => ⟨fun hx => ?_, fun hx => ?_⟩
  · obtain ⟨f', hf', rfl⟩ := List.mem_map.1 hx
    obtain ⟨f, hf, e⟩ := h.2 f' hf'
    rw [e]; exact List.mem_map_of_mem hf
  · obtain ⟨f, hf, rfl⟩ := List.mem_map.1 hx
    obtain ⟨f', hf', e⟩ := h.1 f hf (hl _)
    rw [← e]; exact List.mem_map_of_mem hf'
theorem cov_step {frs crs : List FR} {left : Lit → Bool} {f f' : FR} (h : Cov frs left crs) (hf : f ∈ frs) (ha : f'.abs = f.abs) (hr : RisingG FR.name frs) :
    Cov frs (fun z => left z && !z.sameKey (.string f.name)) (putG FR.name f' crs) := by
  have hn : f'.name = f.name := congrArg AF.name ha
  constructor
  · intro g hg hl
    by_cases e : g.name = f.name
    · have : g = f := by
        by_cases hgf : g = f
        · exact hgf
        · obtain ⟨i, hi, hgi⟩ := List.getElem_of_mem hg
          obtain ⟨j, hj, hfj⟩ := List.getElem_of_mem hf
          have hxx : ∀ s : List UInt8, bytesBefore s s = true → False := fun s h => by rw [WideAt.bytes_irrefl] at h; cases h
          rcases Nat.lt_trichotomy i j with h1 | h1 | h1
          · have := List.pairwise_iff_getElem.1 hr i j hi hj h1
            rw [hgi, hfj, e] at this; exact (hxx _ this).elim
          · subst h1; rw [← hgi, ← hfj]
          · have := List.pairwise_iff_getElem.1 hr j i hj hi h1
            rw [hgi, hfj, e] at this; exact (hxx _ this).elim
      rw [this]
      exact ⟨f', mem_putG_self f' crs, ha⟩
    · have hl2 : left (.string g.name) = false := by
        have hl : (left (.string g.name) && !(Lit.string g.name).sameKey (.string f.name)) = false := hl
        rw [sameKey_string] at hl
        simpa [e] using hl
      obtain ⟨g', hg', hga⟩ := h.1 g hg hl2
      have hgn : g'.name = g.name := congrArg AF.name hga
      have : ∀ (l : List FR), g' ∈ l → g' ∈ putG FR.name f' l := by
        intro l
        induction l with
        | nil => intro h; cases h
        | cons a t ih =>
          intro hm
          simp only [putG]
          rcases List.mem_cons.1 hm with rfl | hm
          · have hne : ¬ g'.name = f'.name := by rw [hgn, hn]; exact e
            rw [if_neg hne]
            split <;> simp
          · split
            · simp [hm]
            · split
              · simp [hm]
              · simp [ih hm]
      exact ⟨g', this crs hg', hga⟩
  · intro g' hg'
    rcases mem_putG f' crs g' hg' with rfl | ⟨hg', _⟩
    · exact ⟨f, hf, ha⟩
    · exact h.2 g' hg'
def CyEnd (w : World) (N : Nat) (st : AS) (e : Ending) (w' : World) : Prop :=
  e = .returned (.pointer (some ⟨w.heap.size + 1, 0, none⟩)) ∧ Below w.heap.size w w' ∧ ∃ F, SysM w' w.heap.size F (w.heap.size + 1) w.heap.size N st ∧ ∀ i, F i → w.heap.size ≤ i ∧ i < w'.heap.size
def CyRel (w : World) (mb r n cb mc : Nat) (frs : List FR) (wr : World) : Prop :=
  ∃ (left : Lit → Bool) (cnt k : Nat) (crs : List FR), wr.ranges Try.prog 9 ptrR mb r n (datum (frs.map FR.row)) left cnt ∧ k + cnt ≤ frs.length ∧ SysP wr w.heap.size cb mc k false false 0 crs ∧ (∀ i, Foot cb mc crs i → i ≠ r) ∧ Cov frs left crs ∧ Below w.heap.size w wr ∧ r < wr.heap.size
set_option maxRecDepth 100000 in
set_option maxHeartbeats 4000000 in
theorem copy_any {w : World} {base : Nat} {F : Nat → Prop} {sb mb n : Nat} {st : AS} (hS : SysM w base F sb mb n st) (hcap : ∀ i, F i → i < w.heap.size) (hn : st.files.length ≤ 1000000) :
    Calls Try.prog 26 #[.pointer (some ⟨sb, 0, none⟩)] w (CyEnd w st.files.length st) := by
  obtain ⟨frs, hSP, habs, hfoot, hFB, hleft⟩ := hS
  obtain ⟨files, off, lim, left⟩ := st
  simp only at hSP habs hleft hn ⊢
  have hfl : frs.length = files.length := by rw [← habs, List.length_map]
  have HFT := Lib.hid (show ∀ i, Foot sb mb frs i → i < w.heap.size from fun i hi => hcap i (hfoot i hi))
  have hsbl := hSP.1.lt
  have hmbl := hSP.2.1.lt
  have HSP := Lib.hid hSP
  have HABS := Lib.hid habs
  have HFL := Lib.hid hfl
  clear hfoot hFB hcap habs hfl
  go_enter Try.func26, Try.ntmps26
  go_wp2_with fail
  refine (newS_any w).mono ?_
  rintro e w1 ⟨rfl, hS1, hb1⟩
  obtain ⟨frs0, hSP1, habs0, _⟩ := hS1
  obtain rfl : frs0 = [] := by
    have : frs0.map FR.abs = [] := habs0
    simpa using this
  have hSo : SysP w1 base sb mb n off lim left frs := hSP.kept (G := fun _ => False) (Kept.of_below hb1) fun _ _ h => h
  have c0 := hSo.1.cell 0
  simp only [sysC, List.getElem?_toArray, List.getElem?_cons_zero] at c0
  have hown := hSo.2.1
  have HSP1 := Lib.hid (show SysP w1 w.heap.size (w.heap.size + 1) w.heap.size 0 false false 0 [] from hSP1)
  have hs1 : w.heap.size + 1 < w1.heap.size := hSP1.1.lt
  clear hSP hSP1 habs0 hSo
  go_wp2_with (at_range; refine wpList_range_own _ rfl _ 64 rfl 9 68 lawS Try.underlying64 _ mb n _ rfl hown ?_; intro w0 hrg0 hg0 hs0)
  clear hs0
  go_frame
  have HOWN := Lib.hid hown
  have hst : CyRel w mb w1.heap.size n (w.heap.size + 1) w.heap.size frs w0 := by
    have hk : Kept (fun _ => False) w1 w0 := Kept.of_grown hg0 fun g e => by cases e
    have hb0 : Below w.heap.size w w0 := (hb1.grown hg0 hb1.size (fun j hj => by cases hj))
    refine ⟨_, _, 0, [], hrg0, by simp [size_datum], HSP1.out.kept hk fun _ _ h => h, fun i hi e => ?_, ⟨fun f hf hl => ?_, fun f' hf' => by cases hf'⟩, hb0, ?_⟩
    · rcases hi with h | h | ⟨f, hf, _⟩
      · omega
      · omega
      · cases hf
    · exfalso
      have h1 : Maps.has (datum (frs.map FR.row)) (.string f.name) = true := by
        rw [has_datum, findR_G, findG_map FR.row Row.name]
        cases hh : findG (fun a => Row.name (FR.row a)) f.name frs with
        | none => exact absurd rfl (findG_none hh f hf)
        | some g => rfl
      rw [h1] at hl
      cases hl
    · exact hrg0.lt
  have HST := Lib.hid hst
  clear hst hg0 hrg0 hown
  go_loopw [4] (fun _ wr => CyRel w mb w1.heap.size n (w.heap.size + 1) w.heap.size frs wr) (fun _ wr => wr.rangeLeft mb w1.heap.size)
  case atStart => exact HST.out
  case round =>
    clear HST
    obtain ⟨left', cnt, k, crs, hrg, hkc, hSC, hne, hcov, hbr, hlt⟩ := hrel
    go_wp2_with (at_next; refine wpList_next_ranges _ rfl _ rfl 9 lawS ptrR encStr ptrV keyStr ptrR_form mb w1.heap.size n _ _ _ rfl hrg ?_ ?_)
    · intro hc0 hl0
      have hSo : SysP wr base sb mb n off lim left frs := HSP.out.kept (G := fun _ => False) (Kept.of_below hbr) fun _ _ h => h
      have hce := cov_end hcov hl0 hSo.2.2.1 hSC.2.2.1
      have HCE := Lib.hid hce
      have HSC := Lib.hid hSC
      have HSO := Lib.hid hSo
      have c0 := hSC.1.cell 0
      have c1 := hSC.1.cell 1
      have c2 := hSC.1.cell 2
      have c3 := hSC.1.cell 3
      have f1 := hSC.1.frozen 1
      have f2 := hSC.1.frozen 2
      have f3 := hSC.1.frozen 3
      have d1 := hSo.1.cell 1
      have d2 := hSo.1.cell 2
      have d3 := hSo.1.cell 3
      simp only [sysC, List.getElem?_toArray, List.getElem?_cons_zero, List.getElem?_cons_succ] at c0 c1 c2 c3 d1 d2 d3
      have hn1 : ¬ (sb = w.heap.size + 1) := by omega
      have hn2 : ¬ (w.heap.size + 1 = sb) := by omega
      have HK := Lib.hid hkc
      clear hc0 hl0 hce hSC hSo hrg hcov hne hkc
      go_wp2_with fail
      obtain ⟨wF, hwF⟩ : ∃ wF, wF = ((wr.setCell ⟨w.heap.size + 1, 1, none⟩ (.bool off)).setCell ⟨w.heap.size + 1, 2, none⟩ (.bool lim)).setCell ⟨w.heap.size + 1, 3, none⟩ (.int .i64 left) := ⟨_, rfl⟩
      have hKF : Kept (fun i => i = w.heap.size + 1) wr wF := by
        rw [hwF]
        exact ((kept_set wr (w.heap.size + 1) 1 _).trans ((kept_set _ (w.heap.size + 1) 2 _).mono fun _ h => .inl h)).trans ((kept_set _ (w.heap.size + 1) 3 _).mono fun _ h => .inl h)
      have hBF : Blk wF (w.heap.size + 1) 66 (sysC w.heap.size off lim left) := by
        rw [hwF]
        have := ((HSC.out.1.set_ 1 (.bool off)).set_ 2 (.bool lim)).set_ 3 (.int .i64 left)
        simpa [sysC] using this
      have hSF := HSC.out.flags hKF hBF
      have hbF : Below w.heap.size w wF := hKF.below hbr hbr.size fun i hi => by have : i = w.heap.size + 1 := hi; omega
      have HSF := Lib.hid hSF
      rw [← hwF]
      clear hwF hSF hBF hKF c0 c1 c2 c3 f1 f2 f3 d1 d2 d3
      go_ret
      have hS := HSF.out
      refine ⟨rfl, hbF, fun i => Foot (w.heap.size + 1) w.heap.size crs i, ⟨crs, ?_, ?_, fun i hi => hi, fun i hi => hS.foot_ge hi, hleft⟩, fun i hi => ⟨hS.foot_ge hi, hS.foot_lt hi⟩⟩
      · exact ⟨hS.1, hS.2.1.mono (by show k ≤ files.length; have := HK.out; have := HFL.out; omega), hS.2.2⟩
      · show crs.map FR.abs = files
        rw [HCE.out]; exact HABS.out
    · intro x c kl yd yp w2 cnt2 hkey hlk hv hat hrg2 hltc hg2 hs2 hen
      obtain ⟨x', ex, rfl, _⟩ := Maps.keyOf_str Try.underlying9 hkey
      obtain rfl : x = x' := encStr_inj ex
      obtain ⟨f, hfm, hfn, hpv⟩ := file_of_hat (y := (yd, yp)) hv hat
      have hk2 : Kept (fun i => i = w1.heap.size) wr w2 := Kept.of_grown hg2 fun g e => by injection e with e; exact e.symm
      have hb2 : Below w.heap.size w w2 := hbr.grown hg2 hbr.size (fun j hj => by injection hj with hj; omega)
      have hSo : SysP w2 base sb mb n off lim left frs := HSP.out.kept (G := fun _ => False) (Kept.of_below hb2) fun _ _ h => h
      have hSC2 := hSC.kept hk2 hne
      obtain ⟨hFM, hfgb⟩ := hSo.2.2.2.1 f hfm
      obtain ⟨hfblk, hfrow, hfs, hfd⟩ := hFM
      obtain ⟨Af, cf, hfv⟩ := own_form hfrow
      rw [hfv] at hfblk hfrow
      have hfgl := hfblk.lt
      have hfg0 : f.g < w.heap.size := HFT.out _ (.inr (.inr ⟨f, hfm, .inl rfl⟩))
      have HF := Lib.hid (show f ∈ frs ∧ f.name = x from ⟨hfm, hfn⟩)
      have HSO := Lib.hid hSo
      have HCOV := Lib.hid hcov
      have HKC := Lib.hid hkc
      have HNE := Lib.hid hne
      have HRG := Lib.hid hrg2
      have HLTC := Lib.hid hltc
      have HRL := Lib.hid hrg.left_eq
      have HKEY := Lib.hid hkey
      have HSZ2 := Lib.hid hs2
      have hd : Below w2.heap.size w2 w2.drew := (Below.refl _ _).drew
      have hcl := clone_any Af f.data.length cf w2.drew.heap.size f.data w2.drew ((Reads.of_own hfrow).below hd) (Nat.le_refl _) (by omega)
      have HSCD := Lib.hid (hSC2.kept (G := fun _ => False) (Kept.of_below hd) fun _ _ h => h)
      have hkf := hfblk.drew
      have HKF := Lib.hid hkf
      have hkm : k ≤ 1000000 := by have := HFL.out; omega
      have KU := Lib.hid (show ∀ (w3 : World) (o : Obj), Below w2.drew.heap.size w2.drew w3 → ∃ w4, (Instr.mapUpdate 64 (.map (some w.heap.size)) (encStr x) (.pointer (some ⟨w3.heap.size, 0, none⟩))).run Try.prog (w3.alloc o) = .ok () w4 ∧ w4.ownsMap Try.prog 9 ptrR w.heap.size (k + 1) ((datum (crs.map FR.row)).put (.string x) (tgt (w3.heap.size : Int) false)) ∧ (w3.alloc o).grownBy w4 (some w.heap.size) from fun w3 o hb3 => by
        have hm := (HSCD.out.kept (G := fun _ => False) (Kept.of_below hb3) fun _ _ h => h).2.1.alloc o
        exact hm.update (t := 64) (e := 68) lawS Try.underlying64 (by unfold maxLen; omega) HKEY.out (ptrR_mk w3.heap.size))
      have KS := Lib.hid (show ∀ (w3 w4 : World) (o : Obj), Below w2.drew.heap.size w2.drew w3 → (w3.alloc o).grownBy w4 (some w.heap.size) →
          (w3.cell? ⟨w.heap.size + 1, 0, none⟩ = some (.map (some w.heap.size)) ∧ w3.cell? ⟨f.g, 0, none⟩ = some (.slice Af f.data.length cf) ∧ w3.cell? ⟨f.g, 1, none⟩ = some (.int .i64 (f.sync : Int))) ∧
          ((w3.alloc o).cell? ⟨w.heap.size + 1, 0, none⟩ = some (.map (some w.heap.size)) ∧ (w3.alloc o).cell? ⟨f.g, 0, none⟩ = some (.slice Af f.data.length cf) ∧ (w3.alloc o).cell? ⟨f.g, 1, none⟩ = some (.int .i64 (f.sync : Int))) ∧
          (w4.cell? ⟨w.heap.size + 1, 0, none⟩ = some (.map (some w.heap.size)) ∧ w4.cell? ⟨f.g, 0, none⟩ = some (.slice Af f.data.length cf) ∧ w4.cell? ⟨f.g, 1, none⟩ = some (.int .i64 (f.sync : Int))) from fun w3 w4 o hb3 hg4 => by
        have h1 := HSCD.out.1.below hb3 HSCD.out.1.lt
        have h2 := HKF.out.below hb3 HKF.out.lt
        have h1a := h1.alloc o
        have h2a := h2.alloc o
        have h1g := h1a.grown hg4 (by intro e; injection e with e; omega)
        have h2g := h2a.grown hg4 (by intro e; injection e with e; omega)
        exact ⟨⟨h1.cell 0, h2.cell 0, h2.cell 1⟩, ⟨h1a.cell 0, h2a.cell 0, h2a.cell 1⟩, ⟨h1g.cell 0, h2g.cell 0, h2g.cell 1⟩⟩)
      have p0 := hSC2.1.cell 0
      have p1 := hfblk.cell 0
      have p2 := hfblk.cell 1
      simp only [sysC, List.getElem?_toArray, List.getElem?_cons_zero, List.getElem?_cons_succ] at p0 p1 p2
      rw [hpv] at hen ⊢
      clear hv hat hkc hne hcov hrg2 hlk hSo hSC2 hfrow hfblk hkf hpv hfm hfn hrg hSC hg2 hk2 hkey hs2 hltc hd
      go_wp2_with fail
      go_region_held3 (fun w' => w'.cell? ⟨w.heap.size + 1, 0, none⟩ = some (.map (some w.heap.size)) ∧ w'.cell? ⟨f.g, 0, none⟩ = some (.slice Af f.data.length cf) ∧ w'.cell? ⟨f.g, 1, none⟩ = some (.int .i64 (f.sync : Int)))
        (first | go_keep | (go_split_ands; exact ⟨by assumption, by assumption, by assumption⟩) | assumption)
        (first | (go_at_call 34; refine hcl.mono ?_; rintro e w3 ⟨A3, c3, rfl, hown3, hb3⟩; obtain ⟨w4, hrun, hown4, hg4⟩ := KU.out w3 (.cells #[.slice A3 f.data.length c3, .int .i64 (f.sync : Int)] 71) hb3; obtain ⟨⟨s0, s1, s2⟩, ⟨t0, t1, t2⟩, ⟨q0, q1, q2⟩⟩ := KS.out w3 w4 _ hb3 hg4))
      clear s0 s1 s2 t0 t1 t2 q0 q1 q2 p0 p1 p2 hrun c0
      have hd : Below w2.heap.size w2 w2.drew := (Below.refl _ _).drew
      have hb23 : Below w2.heap.size w2 w3 := hd.trans hb3
      have hs23 := hb23.size
      have hs2w := HSZ2.out
      have hwb := hbr.size
      obtain ⟨o, ho⟩ : ∃ o : Obj, o = .cells #[.slice A3 f.data.length c3, .int .i64 (f.sync : Int)] 71 := ⟨_, rfl⟩
      rw [← ho] at hg4
      have hao : Below w3.heap.size w3 (w3.alloc o) := (Below.refl _ _).alloc (Nat.le_refl _) _
      have hrg3 := HRG.out.kept (only_of_below hb23 none) (by simp) (by simp)
      have hrg4 := (hrg3.alloc o).kept hg4 (by intro e; injection e with e; omega) (by intro e; injection e with e; omega)
      have hSC3 : SysP (w3.alloc o) w.heap.size (w.heap.size + 1) w.heap.size k false false 0 crs := (HSCD.out.kept (G := fun _ => False) (Kept.of_below hb3) fun _ _ h => h).kept (G := fun _ => False) (Kept.of_below hao) fun _ _ h => h
      obtain ⟨hfm, hfn⟩ := HF.out
      have hfl : ∀ i, Foot (w.heap.size + 1) w.heap.size crs i → i < w2.heap.size := fun i hi => HSCD.out.foot_lt hi
      obtain ⟨f', hf'⟩ : ∃ f' : FR, f' = ⟨x, w3.heap.size, .slice A3 f.data.length c3, f.data, f.sync⟩ := ⟨_, rfl⟩
      have hfa : f'.abs = f.abs := by rw [hf']; unfold FR.abs; rw [hfn]
      have hFM : FileM (w3.alloc o) w.heap.size f' := by
        rw [hf']
        refine ⟨?_, ?_, hfs, hfd⟩
        · rw [ho]; exact Blk.new _ _ _
        · have h := hown3.alloc o
          refine ⟨h.1, ?_⟩
          rcases h.2 with h2 | ⟨g, cap, cur, h1, h2, h3⟩
          · exact .inl h2
          · refine .inr ⟨g, cap, cur, h1, ?_, h3⟩
            have : w2.drew.heap.size = w2.heap.size := rfl
            omega
      have hmap : w4.ownsMap Try.prog 9 ptrR w.heap.size (k + 1) (datum ((putG FR.name f' crs).map FR.row)) := by
        rw [← put_rows, hf']
        have := put_datum (crs.map FR.row) ⟨x, (w3.heap.size : Int), false⟩ (rising_rows HSCD.out.2.2.1)
        show w4.ownsMap Try.prog 9 ptrR w.heap.size (k + 1) (datum (putR ⟨x, (w3.heap.size : Int), false⟩ (crs.map FR.row)))
        rw [← this]
        exact hown4
      have hS4 := hSC3.put hg4 hmap hFM (by rw [hf']; show w.heap.size ≤ w3.heap.size; omega) fun r hr => by
        constructor
        · rw [hf']
          have := hfl r.g (.inr (.inr ⟨r, hr, .inl rfl⟩))
          show w3.heap.size ≠ r.g
          omega
        · intro g hg hg2
          rw [hf'] at hg
          have h1 := (hown3.lt g hg).1
          have h2 := hfl g (.inr (.inr ⟨r, hr, .inr hg2⟩))
          have : w2.drew.heap.size = w2.heap.size := rfl
          omega
      have hcov4 := cov_step HCOV.out hfm hfa HSO.out.2.2.1
      rw [hfn] at hcov4
      have hb4 : Below w.heap.size w w4 := ((hb2.trans (hb23.mono hb2.size)).alloc (by have := hb2.size; omega) o).grown hg4 (by have := hb2.size; simp; omega) (fun j hj => by injection hj with hj; omega)
      have hne4 : ∀ i, Foot (w.heap.size + 1) w.heap.size (putG FR.name f' crs) i → i ≠ w1.heap.size := fun i hi => by
        rcases hi with h | h | ⟨r, hr, h⟩
        · omega
        · omega
        · rcases mem_putG f' crs r hr with rfl | ⟨hr, _⟩
          · rw [hf'] at h
            rcases h with h | h
            · have h : i = w3.heap.size := h
              omega
            · have h1 := (hown3.lt i h).1
              have : w2.drew.heap.size = w2.heap.size := rfl
              omega
          · exact HNE.out i (.inr (.inr ⟨r, hr, h⟩))
      have hk4 : k + 1 + cnt2 ≤ frs.length := by have := HKC.out; have := HLTC.out; omega
      have hl4 := hrg4.lt
      have hle4 := hrg4.left_eq
      have HREL := Lib.hid (show CyRel w mb w1.heap.size n (w.heap.size + 1) w.heap.size frs w4 from ⟨_, cnt2, k + 1, _, hrg4, hk4, hS4, hne4, hcov4, hb4, hl4⟩)
      have HLE4 := Lib.hid hle4
      clear hrg4 hrg3 hS4 hcov4 hb4 hne4 hmap hFM hSC3 hown3 hown4 hg4 hle4
      go_wp2_with fail
      go_roundw
      case rel => exact HREL.out
      case measure => rw [HLE4.out, HRL.out]; exact HLTC.out
end Go.Proofs.Ythmbmecodddkeaa
