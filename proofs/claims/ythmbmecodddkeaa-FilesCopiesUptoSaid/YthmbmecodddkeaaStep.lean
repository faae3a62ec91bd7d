/- The walks of kind and step: one act on the system and on the reference. -/
import Derived.Test.YthmbmecodddkeaaRPl
import Derived.Test.YthmbmecodddkeaaRApp
import Derived.Test.YthmbmecodddkeaaRSync
import Derived.Test.YthmbmecodddkeaaRTru
import Derived.Test.YthmbmecodddkeaaRRen
import Derived.Test.YthmbmecodddkeaaRRem
import Derived.Test.YthmbmecodddkeaaRCrash
import Derived.StillTailTactics
namespace Go.Proofs.Ythmbmecodddkeaa
open Go.RowKit Go.WideMaps
set_option linter.unusedVariables false
def kindI (k : Int) : Int := (k.tmod 8 + 8) % 8
theorem kindI_lt (k : Int) : 0 ≤ kindI k ∧ kindI k < 8 := by unfold kindI; omega
def actV (k n : Int) (nm ot : ByteArray) (Ad : Option Addr) (nd cd : Nat) (Ak : Option Addr) (mk ck : Nat) : Value := .agg #[.int .i64 k, .int .i64 n, .string nm, .string ot, .slice Ad nd cd, .slice Ak mk ck]
theorem tmod8 (k : Int) : -7 ≤ k.tmod 8 ∧ k.tmod 8 ≤ 7 := by
  have h1 := Int.tmod_lt_of_pos k (show (0 : Int) < 8 by decide)
  have h2 := Int.tmod_lt_of_pos (-k) (show (0 : Int) < 8 by decide)
  rw [Int.neg_tmod] at h2
  omega
set_option maxRecDepth 100000 in
set_option maxHeartbeats 400000 in
theorem kind_any (k n : Int) (nm ot : ByteArray) (Ad : Option Addr) (nd cd : Nat) (Ak : Option Addr) (mk ck : Nat) (w : World) :
    Calls Try.prog 36 #[actV k n nm ot Ad nd cd Ak mk ck] w (IntB w (kindI k)) := by
  obtain ⟨h1, h2⟩ := tmod8 k
  unfold actV
  go_enter Try.func36, Try.ntmps36
  go_wp2_with fail
  go_ret
  exact ⟨rfl, (Below.refl _ _).alloc (Nat.le_refl _) _⟩
theorem num_errV (c : Int) (w : World) : Calls Try.prog 32 #[errV c] w (RetW w (.int .i64 c)) := by
  by_cases h : c = 0
  · subst h; exact num_nil w
  · rw [errV_ne h]; exact num_err c w
theorem errV_form (c : Int) : errV c = .nilIface ∨ ∃ t v, errV c = .iface t v := by
  unfold errV; split
  · exact .inl rfl
  · exact .inr ⟨_, _, rfl⟩
/-- The system and the reference beside each other. -/
structure PlS (w : World) (base : Nat) (F : Nat → Prop) (sb mb n : Nat) (G : Nat → Prop) (st : AS) (v : Value) (y : RY) : Prop where
  sys : SysM w base F sb mb n st
  cap : ∀ i, F i → i < w.heap.size
  str : StY st y
  ry : RYM G w v y
  gF : ∀ i, G i → ¬ F i
  inv : InvF n st.files
theorem SysM.files_ok {w : World} {base sb mb n : Nat} {F : Nat → Prop} {st : AS} (h : SysM w base F sb mb n st) : RisingG AF.name st.files ∧ ∀ f ∈ st.files, f.sync ≤ f.data.length ∧ f.data.length ≤ 16777216 := by
  obtain ⟨frs, h1, h2, _⟩ := h
  constructor
  · rw [← h2]
    unfold RisingG
    rw [List.pairwise_map]
    exact h1.2.2.1
  · intro f hf
    rw [← h2] at hf
    obtain ⟨r, hr, rfl⟩ := List.mem_map.1 hf
    exact (h1.2.2.2.1 r hr).1.2.2
def StE (w : World) (base : Nat) (F G : Nat → Prop) (sb mb n : Nat) (st : AS) (y : RY) (a : ActD) (e : Ending) (w' : World) : Prop :=
  ∃ v', e = .returned (.tuple #[v', .bool true]) ∧ Kept F w w' ∧ ∃ F' G', PlS w' base F' sb mb (n + 1) G' (stepA st a).1 v' (stepY y a).1 ∧ (∀ i, F' i → F i ∨ w.heap.size ≤ i) ∧ (∀ i, G' i → (G i ∨ w.heap.size ≤ i) ∧ i < w'.heap.size)
def tri (w : World) (fv a b k n s t d e : Value) : World := ((w.alloc (.cells #[fv, a, b] 52)).alloc (.cells #[k, n, s, t, d, e] 56)).alloc (.cells #[.slice none 0 0, .int .i64 0, .bool false] 52)
theorem tri_blk (w : World) (fv a b k n s t d e : Value) : Blk (tri w fv a b k n s t d e) w.heap.size 52 #[fv, a, b] ∧ Blk (tri w fv a b k n s t d e) (w.heap.size + 1) 56 #[k, n, s, t, d, e] ∧ Blk (tri w fv a b k n s t d e) (w.heap.size + 2) 52 #[.slice none 0 0, .int .i64 0, .bool false] ∧ Below w.heap.size w (tri w fv a b k n s t d e) := by
  refine ⟨((Blk.new _ _ _).alloc _).alloc _, ?_, ?_, (((Below.refl _ _).alloc (Nat.le_refl _) _).alloc (by simp) _).alloc (by simp; omega) _⟩
  · have := (Blk.new (w.alloc (.cells #[fv, a, b] 52)) 56 #[k, n, s, t, d, e]).alloc (.cells #[.slice none 0 0, .int .i64 0, .bool false] 52)
    simpa [tri] using this
  · have := Blk.new ((w.alloc (.cells #[fv, a, b] 52)).alloc (.cells #[k, n, s, t, d, e] 56)) 52 #[.slice none 0 0, .int .i64 0, .bool false]
    simpa [tri] using this
theorem kept_set3 (F : Nat → Prop) {w0 w : World} {g : Nat} (h : Kept F w0 w) (hg : w0.heap.size ≤ g) (b0 b1 b2 : Value) : Kept F w0 (set3 w g b0 b1 b2) :=
  h.trans ((set3_kept w g b0 b1 b2).mono fun i hi => .inr (by have : i = g := hi; omega))
/-- What is left at the end of a step. -/
theorem step_end {w w3 w4 wF : World} {base sb mb n m2 : Nat} {F G : Nat → Prop} {st' : AS} {y' : RY} {fv : Value} {l : List PF} {nk : Nat}
    (hcap : ∀ i, F i → i < w.heap.size) (hgF : ∀ i, G i → ¬ F i) (hk03 : Kept F w w3) (hk : w.heap.size + 2 < nk) (hk3 : nk ≤ w3.heap.size)
    (hF3 : FsM (UpG (fun i => G i ∧ i < w.heap.size) nk) w3 fv l) (hl : l.map Prod.fst = y'.files) (hS : SysM w4 base (Grow F w3.heap.size) sb mb m2 st') (hm : m2 ≤ n + 1) (hK : Kept F w3 w4) (hS5 : Kept (fun i => i = w.heap.size + 2) w4 wF) (hstr : StY st' y') (hinv : InvF (n + 1) st'.files) :
    Kept F w wF ∧ ∃ F' G', PlS wF base F' sb mb (n + 1) G' st' (.agg #[fv, .int .i64 y'.left, .bool y'.off]) y' ∧ (∀ i, F' i → F i ∨ w.heap.size ≤ i) ∧ (∀ i, G' i → (G i ∨ w.heap.size ≤ i) ∧ i < wF.heap.size) := by
  have hs34 := hK.size
  have hs4F := hS5.size
  refine ⟨(hk03.trans (hK.mono fun _ h => .inl h)).trans (hS5.mono fun i hi => .inr (by have : i = w.heap.size + 2 := hi; omega)), fun i => Grow F w3.heap.size i ∧ i < w4.heap.size, fun i => (G i ∧ i < w.heap.size) ∨ (nk ≤ i ∧ i < w3.heap.size), ⟨?_, ?_, hstr, ?_, ?_, hinv⟩, ?_, ?_⟩
  · refine (hS.cap.mono hm).kept hS5 fun i hi e => ?_
    have e : i = w.heap.size + 2 := e
    rcases hi.1 with h | h
    · have := hcap i h; omega
    · omega
  · intro i hi; exact Nat.lt_of_lt_of_le hi.2 hs4F
  · refine ⟨fv, l, rfl, ((hF3.mono (G' := fun i => (G i ∧ i < w.heap.size) ∨ (nk ≤ i ∧ i < w3.heap.size)) fun i hi hg => ?_).keptF hK fun i _ hi h => ?_).keptF hS5 fun i _ hi e => ?_, hl⟩
    · rcases hg with h | h
      · exact .inl h
      · exact .inr ⟨h, hi⟩
    · rcases hi with h1 | h1
      · exact hgF i h1.1 h
      · have := hcap i h; omega
    · have e : i = w.heap.size + 2 := e
      rcases hi with h1 | h1 <;> omega
  · intro i hi hf
    rcases hi with h1 | h1
    · rcases hf.1 with h | h
      · exact hgF i h1.1 h
      · omega
    · rcases hf.1 with h | h
      · have := hcap i h; omega
      · omega
  · intro i hi
    rcases hi.1 with h | h
    · exact .inl h
    · have := hk03.size; exact .inr (by omega)
  · intro i hi
    rcases hi with h | h
    · exact ⟨.inl h.1, by have := hk03.size; omega⟩
    · exact ⟨.inr (by omega), by omega⟩
set_option maxRecDepth 100000 in
set_option maxHeartbeats 4000000 in
theorem step_0 {w : World} {base : Nat} {F : Nat → Prop} {sb mb n : Nat} {G : Nat → Prop} {st : AS} {v : Value} {y : RY} (h : PlS w base F sb mb n G st v y) (hn9 : n ≤ 800000) (k x : Int) (nm ot : ByteArray) (Ad : Option Addr) (nd cd : Nat) (Ak : Option Addr) (mk ck B : Nat) (data : List UInt8) (keep : List Int)
    (hk : kindI k = 0) (hx : -9223372036854775808 ≤ x ∧ x ≤ 9223372036854775807) (hs : nm.size ≤ maxLen) (hs2 : ot.size ≤ maxLen) (hrd : Reads w B 1 Ad nd (data.map byteV)) (hdl : data.length = nd) (hnd : nd ≤ 1000000) (hrk : Reads w B 1 Ak mk (keep.map (Value.int .i64))) (hkl : keep.length = mk) (hmk : mk ≤ 1000000) (hmc : mk ≤ ck) (hkb : ∀ k ∈ keep, -9223372036854775808 ≤ k ∧ k ≤ 9223372036854775807) (hB : B ≤ base) :
    Calls Try.prog 25 #[.pointer (some ⟨sb, 0, none⟩), v, actV k x nm ot Ad nd cd Ak mk ck] w (StE w base F G sb mb n st y ⟨0, x, nm, ot, data, keep⟩) := by
  have hbs := h.sys.base_le
  have hstep := step_law h.str ⟨0, x, nm, ot, data, keep⟩ hx.2
  have hinv := inv_step h.inv ⟨0, x, nm, ot, data, keep⟩
  obtain ⟨hris, hsy⟩ := h.sys.files_ok
  have hlen : st.files.length ≤ 800000 := Nat.le_trans h.inv.1 hn9
  rw [h.str.files] at hris hsy
  have hyl : y.files.length ≤ 800000 := by rw [← h.str.files]; exact hlen
  obtain ⟨fv, l, rfl, hF, hl⟩ := h.ry
  have hll : l.length ≤ 800000 := by rw [← List.length_map (f := Prod.fst), hl]; exact hyl
  obtain ⟨hka, hkact, hkb0, hba⟩ := tri_blk w fv (.int .i64 y.left) (.bool y.off) (.int .i64 k) (.int .i64 x) (.string nm) (.string ot) (.slice Ad nd cd) (.slice Ak mk ck)
  obtain ⟨wa, hwa⟩ : ∃ wa, wa = tri w fv (.int .i64 y.left) (.bool y.off) (.int .i64 k) (.int .i64 x) (.string nm) (.string ot) (.slice Ad nd cd) (.slice Ak mk ck) := ⟨_, rfl⟩
  rw [← hwa] at hka hkact hkb0 hba
  have hsa : w.heap.size + 3 ≤ wa.heap.size := by rw [hwa]; simp [tri]
  have hkd := kind_any k x nm ot Ad nd cd Ak mk ck wa
  obtain ⟨A, c, rfl, hc⟩ := hF.slice
  have hlo := h.str.lo
  have hhi := h.str.hi
  unfold tri at hwa
  have HWA := Lib.hid hwa
  have HST := Lib.hid hstep
  have HINV := Lib.hid hinv
  have HRIS := Lib.hid hris
  have HSY := Lib.hid hsy
  have HB := Lib.hid hba
  have HKA := Lib.hid hka
  have HKC := Lib.hid hkact
  have HK0 := Lib.hid hkb0
  have HSA := Lib.hid hsa
  have HP := Lib.hid h
  have HL := Lib.hid hl
  have HDL := Lib.hid hdl
  have HKL := Lib.hid hkl
  have HKBD := Lib.hid hkb
  have HF0 := Lib.hid (show FsM (fun i => G i ∧ i < w.heap.size) w (.slice A l.length c) l from hF.mono fun i hi hg => ⟨hg, hi⟩)
  have HRD := Lib.hid (show ∀ w', Below w.heap.size w w' → Reads w' B 1 Ad nd (data.map byteV) from fun w' hb => hrd.below (hb.mono (by omega)))
  have HRK := Lib.hid (show ∀ w', Below w.heap.size w w' → Reads w' B 1 Ak mk (keep.map (Value.int .i64)) from fun w' hb => hrk.below (hb.mono (by omega)))
  have a0 := hkact.cell 0
  have a1 := hkact.cell 1
  have a2 := hkact.cell 2
  have a3 := hkact.cell 3
  have a4 := hkact.cell 4
  have a5 := hkact.cell 5
  simp only [List.getElem?_toArray, List.getElem?_cons_zero, List.getElem?_cons_succ] at a0 a1 a2 a3 a4 a5
  unfold actV at hkd ⊢
  rw [hk] at hkd
  have HKK := Lib.hid hk
  clear hwa hstep hinv hris hsy hba hka hkact hkb0 h hl hdl hkl hkb hF hrd hrk hk
  go_enter Try.func25, Try.ntmps25
  go_upto_region 3 with (fail)
  rw [← HWA.out]
  go_wp2_with fail
  refine hkd.mono ?_
  clear hkd a0 a1 a2 a3 a4 a5
  rintro e wk ⟨rfl, hbk⟩
  have hk1 := HKA.out.below hbk HKA.out.lt
  have hkc := HKC.out.below hbk HKC.out.lt
  have hk0 := HK0.out.below hbk HK0.out.lt
  have hbwk := HB.out.trans (hbk.mono HB.out.size)
  have hsk : w.heap.size + 2 < wk.heap.size := by have := HSA.out; have := hbk.size; omega
  have hFk := HF0.out.below hbwk
  have x0 := hk1.cell 0
  have x1 := hk1.cell 1
  have x2 := hk1.cell 2
  simp only [List.getElem?_toArray, List.getElem?_cons_zero, List.getElem?_cons_succ] at x0 x1 x2
  have a0 := hkc.cell 0
  have a1 := hkc.cell 1
  have a2 := hkc.cell 2
  have a3 := hkc.cell 3
  have a4 := hkc.cell 4
  have a5 := hkc.cell 5
  simp only [List.getElem?_toArray, List.getElem?_cons_zero, List.getElem?_cons_succ] at a0 a1 a2 a3 a4 a5
  have hrf := rappend_any _ _ l y nm Ad nd cd B data wk hFk HL.out HRIS.out (by omega) hs (HRD.out wk hbwk) (by omega) HDL.out (by omega) hlo hhi HSY.out
  have hst2 := HST.out
  have hstep2 : Op2 (stepA st ⟨0, x, nm, ot, data, keep⟩) (stepY y ⟨0, x, nm, ot, data, keep⟩) := hst2
  clear hst2
  obtain ⟨r, hr⟩ : ∃ r, r = stepY y ⟨0, x, nm, ot, data, keep⟩ := ⟨_, rfl⟩
  have hr2 : rAppend y nm data = r := hr.symm
  rw [hr2] at hrf
  rw [← hr] at hstep2
  have HR := Lib.hid hr
  have HS2 := Lib.hid hstep2
  clear hr hr2 hstep2
  go_wp2_with fail
  refine hrf.mono ?_
  clear hrf x0 x1 x2
  rintro e w2 ⟨v2, rfl, ⟨fv2, l2, rfl, hF2, hl2⟩, hb2⟩
  obtain ⟨A2, c2, rfl, hc2⟩ := hF2.slice
  have hk2 := hk1.below hb2 hk1.lt
  have hkc2 := hkc.below hb2 hkc.lt
  have hk02 := hk0.below hb2 hk0.lt
  have hbw2 := hbwk.trans (hb2.mono hbwk.size)
  have hs2' := hb2.size
  obtain ⟨⟨fs2, le2, of2⟩, code⟩ := r
  simp only at hl2
  have HL2 := Lib.hid hl2
  clear hl2 a0 a1 a2 a3 a4 a5 hk1 hkc hk0 hFk
  have x0 := hk2.cell 0
  have x1 := hk2.cell 1
  have x2 := hk2.cell 2
  simp only [List.getElem?_toArray, List.getElem?_cons_zero, List.getElem?_cons_succ] at x0 x1 x2
  have u0 := hk2.frozen 0
  have u1 := hk2.frozen 1
  have u2 := hk2.frozen 2
  go_upto_region 9 with (fail)
  obtain ⟨w3, hw3⟩ : ∃ w3, w3 = set3 w2 w.heap.size (.slice A2 l2.length c2) (.int .i64 le2) (.bool of2) := ⟨_, rfl⟩
  have hk3 : Blk w3 w.heap.size 52 #[.slice A2 l2.length c2, .int .i64 le2, .bool of2] := by rw [hw3]; exact set3_blk hk2 _ _ _
  have hq3 : Kept (fun i => i = w.heap.size) w2 w3 := by rw [hw3]; exact set3_kept _ _ _ _ _
  have hkc3 := hkc2.kept hq3 (show ¬ (w.heap.size + 1 = w.heap.size) by omega)
  have hk03 := hk02.kept hq3 (show ¬ (w.heap.size + 2 = w.heap.size) by omega)
  have hbw3 : Below w.heap.size w w3 := hq3.below hbw2 hbw2.size fun i hi => by have : i = w.heap.size := hi; omega
  have hF3 := hF2.keptF hq3 fun i _ hi e => by
    have e : i = w.heap.size := e
    rcases hi with hi | hi <;> omega
  have hs3 := hq3.size
  have hS3 := HP.out.sys.below hbw3
  have HNF := Lib.hid (show ∀ (A : Option Addr) (m : Nat) (xs : List Value), Reads w3 B 1 A m xs → ∀ ad, A = some ad → 0 < m → ¬ F ad.block from fun A m xs hr ad e hm hf => by
    obtain ⟨ad', e', hb', _⟩ := hr.2 hm
    rw [e] at e'; injection e' with e'
    have h1 : base ≤ ad.block := by obtain ⟨_, _, _, _, h4, _⟩ := HP.out.sys; exact h4 _ hf
    rw [e'] at h1; omega)
  have HNF := Lib.hid (HNF.out Ad nd _ (HRD.out w3 hbw3))
  have hsy3 := append_any base sb mb n F st Ad nd cd B data nm w3 hS3 (HRD.out w3 hbw3) (by omega) HDL.out HNF.out (by omega) hs (by unfold maxLen; omega)
  unfold set3 at hw3
  rw [← hw3]
  clear hw3 u0 u1 u2 x0 x1 x2 hk2 hkc2 hk02 hq3 hF2
  have a0 := hkc3.cell 0
  have a1 := hkc3.cell 1
  have a2 := hkc3.cell 2
  have a3 := hkc3.cell 3
  have a4 := hkc3.cell 4
  have a5 := hkc3.cell 5
  simp only [List.getElem?_toArray, List.getElem?_cons_zero, List.getElem?_cons_succ] at a0 a1 a2 a3 a4 a5
  obtain ⟨ra, hra⟩ : ∃ ra, ra = stepA st ⟨0, x, nm, ot, data, keep⟩ := ⟨_, rfl⟩
  have hra2 : appendA st nm data = ra := hra.symm
  rw [hra2] at hsy3
  have HS3 := HS2.out
  rw [← hra] at HS3
  have hcd : ra.2 = code := HS3.1
  rw [hcd] at hsy3
  have HRA := Lib.hid hra
  have HS4 := Lib.hid HS3
  clear hra hra2 HS3 hcd
  go_wp2_with fail
  refine hsy3.mono ?_
  clear hsy3 a0 a1 a2 a3 a4 a5
  rintro e w4 ⟨rfl, hS4, hK4⟩
  have hnF : ∀ j, w.heap.size ≤ j → ¬ F j := fun j hj hf => by have := HP.out.cap j hf; omega
  have hk4 := hk3.kept hK4 (hnF _ (Nat.le_refl _))
  have hk04 := hk03.kept hK4 (hnF _ (by omega))
  have hK04 : Kept F w w3 := (Kept.of_below (F := F) hbw3)
  have x0 := hk4.cell 0
  have x1 := hk4.cell 1
  have x2 := hk4.cell 2
  simp only [List.getElem?_toArray, List.getElem?_cons_zero, List.getElem?_cons_succ] at x0 x1 x2
  have z0 := hk04.cell 0
  have z1 := hk04.cell 1
  have z2 := hk04.cell 2
  simp only [List.getElem?_toArray, List.getElem?_cons_zero, List.getElem?_cons_succ] at z0 z1 z2
  have y0 := hk04.frozen 0
  have y1 := hk04.frozen 1
  have y2 := hk04.frozen 2
  have hnum := num_errV code w4.drew
  obtain ⟨ev, hev⟩ : ∃ ev, ev = errV code := ⟨_, rfl⟩
  rw [← hev] at hnum ⊢
  have HEV := Lib.hid hev
  clear hev
  go_upto_region 25 with (fail)
  have hne9 : ¬ (w.heap.size = w.heap.size + 1 + 1) := by omega
  have hne8 : ¬ (w.heap.size + 1 + 1 = w.heap.size) := by omega
  go_region_held3 (fun w' => w'.cell? ⟨w.heap.size, 0, none⟩ = some (.slice A2 l2.length c2) ∧ w'.cell? ⟨w.heap.size, 1, none⟩ = some (.int .i64 le2) ∧ w'.cell? ⟨w.heap.size, 2, none⟩ = some (.bool of2))
    (first | go_keep | assumption)
    (first | (go_at_call 32; refine hnum.mono ?_; rintro e w5 ⟨rfl, rfl⟩))
  obtain ⟨wF, hwF⟩ : ∃ wF, wF = (set3 w4 (w.heap.size + 2) (.slice A2 l2.length c2) (.int .i64 le2) (.bool of2)).drew := ⟨_, rfl⟩
  have hkF : Blk wF (w.heap.size + 2) 52 #[(.slice A2 l2.length c2 : Value), (.int .i64 le2 : Value), (.bool of2 : Value)] := by rw [hwF]; exact (set3_blk hk04 _ _ _).drew
  have hKF : Kept (fun i => i = w.heap.size + 2) w4 wF := by
    rw [hwF]
    exact (set3_kept w4 (w.heap.size + 2) _ _ _).trans (Kept.of_below (Below.refl _ _).drew)
  have f0 := hkF.cell 0
  have f1 := hkF.cell 1
  have f2 := hkF.cell 2
  simp only [List.getElem?_toArray, List.getElem?_cons_zero, List.getElem?_cons_succ] at f0 f1 f2
  unfold set3 at hwF
  rw [← hwF]
  clear hwF x0 x1 x2 z0 z1 z2 y0 y1 y2 hnum
  go_wp2_with fail
  have hRR := HR.out
  have HSR : Op2 (stepA st ⟨0, x, nm, ot, data, keep⟩) (⟨fs2, le2, of2⟩, code) := by rw [hRR]; exact HST.out
  have hend := step_end (y' := ⟨fs2, le2, of2⟩) (n := n) (st' := (stepA st ⟨0, x, nm, ot, data, keep⟩).1) HP.out.cap HP.out.gF hK04 hsk (Nat.le_trans hs2' hs3) hF3 HL2.out (by rw [← HRA.out]; exact hS4) (by omega) hK4 hKF HSR.2 HINV.out
  refine bodyPost_ret (v := .tuple #[.agg #[(.slice A2 l2.length c2 : Value), (.int .i64 le2 : Value), (.bool of2 : Value)], .bool true]) (by simp [results, Try.results25, go_sem, f0, f1, f2]) rfl ?_
  obtain ⟨hKK, F', G', hP', h1, h2⟩ := hend
  refine ⟨_, rfl, hKK, F', G', ?_, h1, h2⟩
  rw [← hRR]
  exact hP'
set_option maxRecDepth 100000 in
set_option maxHeartbeats 4000000 in
theorem step_1 {w : World} {base : Nat} {F : Nat → Prop} {sb mb n : Nat} {G : Nat → Prop} {st : AS} {v : Value} {y : RY} (h : PlS w base F sb mb n G st v y) (hn9 : n ≤ 800000) (k x : Int) (nm ot : ByteArray) (Ad : Option Addr) (nd cd : Nat) (Ak : Option Addr) (mk ck B : Nat) (data : List UInt8) (keep : List Int)
    (hk : kindI k = 1) (hx : -9223372036854775808 ≤ x ∧ x ≤ 9223372036854775807) (hs : nm.size ≤ maxLen) (hs2 : ot.size ≤ maxLen) (hrd : Reads w B 1 Ad nd (data.map byteV)) (hdl : data.length = nd) (hnd : nd ≤ 1000000) (hrk : Reads w B 1 Ak mk (keep.map (Value.int .i64))) (hkl : keep.length = mk) (hmk : mk ≤ 1000000) (hmc : mk ≤ ck) (hkb : ∀ k ∈ keep, -9223372036854775808 ≤ k ∧ k ≤ 9223372036854775807) (hB : B ≤ base) :
    Calls Try.prog 25 #[.pointer (some ⟨sb, 0, none⟩), v, actV k x nm ot Ad nd cd Ak mk ck] w (StE w base F G sb mb n st y ⟨1, x, nm, ot, data, keep⟩) := by
  have hbs := h.sys.base_le
  have hstep := step_law h.str ⟨1, x, nm, ot, data, keep⟩ hx.2
  have hinv := inv_step h.inv ⟨1, x, nm, ot, data, keep⟩
  obtain ⟨hris, hsy⟩ := h.sys.files_ok
  have hlen : st.files.length ≤ 800000 := Nat.le_trans h.inv.1 hn9
  rw [h.str.files] at hris hsy
  have hyl : y.files.length ≤ 800000 := by rw [← h.str.files]; exact hlen
  obtain ⟨fv, l, rfl, hF, hl⟩ := h.ry
  have hll : l.length ≤ 800000 := by rw [← List.length_map (f := Prod.fst), hl]; exact hyl
  obtain ⟨hka, hkact, hkb0, hba⟩ := tri_blk w fv (.int .i64 y.left) (.bool y.off) (.int .i64 k) (.int .i64 x) (.string nm) (.string ot) (.slice Ad nd cd) (.slice Ak mk ck)
  obtain ⟨wa, hwa⟩ : ∃ wa, wa = tri w fv (.int .i64 y.left) (.bool y.off) (.int .i64 k) (.int .i64 x) (.string nm) (.string ot) (.slice Ad nd cd) (.slice Ak mk ck) := ⟨_, rfl⟩
  rw [← hwa] at hka hkact hkb0 hba
  have hsa : w.heap.size + 3 ≤ wa.heap.size := by rw [hwa]; simp [tri]
  have hkd := kind_any k x nm ot Ad nd cd Ak mk ck wa
  obtain ⟨A, c, rfl, hc⟩ := hF.slice
  have hlo := h.str.lo
  have hhi := h.str.hi
  unfold tri at hwa
  have HWA := Lib.hid hwa
  have HST := Lib.hid hstep
  have HINV := Lib.hid hinv
  have HRIS := Lib.hid hris
  have HSY := Lib.hid hsy
  have HB := Lib.hid hba
  have HKA := Lib.hid hka
  have HKC := Lib.hid hkact
  have HK0 := Lib.hid hkb0
  have HSA := Lib.hid hsa
  have HP := Lib.hid h
  have HL := Lib.hid hl
  have HDL := Lib.hid hdl
  have HKL := Lib.hid hkl
  have HKBD := Lib.hid hkb
  have HF0 := Lib.hid (show FsM (fun i => G i ∧ i < w.heap.size) w (.slice A l.length c) l from hF.mono fun i hi hg => ⟨hg, hi⟩)
  have HRD := Lib.hid (show ∀ w', Below w.heap.size w w' → Reads w' B 1 Ad nd (data.map byteV) from fun w' hb => hrd.below (hb.mono (by omega)))
  have HRK := Lib.hid (show ∀ w', Below w.heap.size w w' → Reads w' B 1 Ak mk (keep.map (Value.int .i64)) from fun w' hb => hrk.below (hb.mono (by omega)))
  have a0 := hkact.cell 0
  have a1 := hkact.cell 1
  have a2 := hkact.cell 2
  have a3 := hkact.cell 3
  have a4 := hkact.cell 4
  have a5 := hkact.cell 5
  simp only [List.getElem?_toArray, List.getElem?_cons_zero, List.getElem?_cons_succ] at a0 a1 a2 a3 a4 a5
  unfold actV at hkd ⊢
  rw [hk] at hkd
  have HKK := Lib.hid hk
  clear hwa hstep hinv hris hsy hba hka hkact hkb0 h hl hdl hkl hkb hF hrd hrk hk
  go_enter Try.func25, Try.ntmps25
  go_upto_region 3 with (fail)
  rw [← HWA.out]
  go_wp2_with fail
  refine hkd.mono ?_
  clear hkd a0 a1 a2 a3 a4 a5
  rintro e wk ⟨rfl, hbk⟩
  have hk1 := HKA.out.below hbk HKA.out.lt
  have hkc := HKC.out.below hbk HKC.out.lt
  have hk0 := HK0.out.below hbk HK0.out.lt
  have hbwk := HB.out.trans (hbk.mono HB.out.size)
  have hsk : w.heap.size + 2 < wk.heap.size := by have := HSA.out; have := hbk.size; omega
  have hFk := HF0.out.below hbwk
  have x0 := hk1.cell 0
  have x1 := hk1.cell 1
  have x2 := hk1.cell 2
  simp only [List.getElem?_toArray, List.getElem?_cons_zero, List.getElem?_cons_succ] at x0 x1 x2
  have a0 := hkc.cell 0
  have a1 := hkc.cell 1
  have a2 := hkc.cell 2
  have a3 := hkc.cell 3
  have a4 := hkc.cell 4
  have a5 := hkc.cell 5
  simp only [List.getElem?_toArray, List.getElem?_cons_zero, List.getElem?_cons_succ] at a0 a1 a2 a3 a4 a5
  have hrf := rappend_any _ _ l y nm Ad nd cd B data wk hFk HL.out HRIS.out (by omega) hs (HRD.out wk hbwk) (by omega) HDL.out (by omega) hlo hhi HSY.out
  have hst2 := HST.out
  have hstep2 : Op2 (stepA st ⟨1, x, nm, ot, data, keep⟩) (stepY y ⟨1, x, nm, ot, data, keep⟩) := hst2
  clear hst2
  obtain ⟨r, hr⟩ : ∃ r, r = stepY y ⟨1, x, nm, ot, data, keep⟩ := ⟨_, rfl⟩
  have hr2 : rAppend y nm data = r := hr.symm
  rw [hr2] at hrf
  rw [← hr] at hstep2
  have HR := Lib.hid hr
  have HS2 := Lib.hid hstep2
  clear hr hr2 hstep2
  go_wp2_with fail
  refine hrf.mono ?_
  clear hrf x0 x1 x2
  rintro e w2 ⟨v2, rfl, ⟨fv2, l2, rfl, hF2, hl2⟩, hb2⟩
  obtain ⟨A2, c2, rfl, hc2⟩ := hF2.slice
  have hk2 := hk1.below hb2 hk1.lt
  have hkc2 := hkc.below hb2 hkc.lt
  have hk02 := hk0.below hb2 hk0.lt
  have hbw2 := hbwk.trans (hb2.mono hbwk.size)
  have hs2' := hb2.size
  obtain ⟨⟨fs2, le2, of2⟩, code⟩ := r
  simp only at hl2
  have HL2 := Lib.hid hl2
  clear hl2 a0 a1 a2 a3 a4 a5 hk1 hkc hk0 hFk
  have x0 := hk2.cell 0
  have x1 := hk2.cell 1
  have x2 := hk2.cell 2
  simp only [List.getElem?_toArray, List.getElem?_cons_zero, List.getElem?_cons_succ] at x0 x1 x2
  have u0 := hk2.frozen 0
  have u1 := hk2.frozen 1
  have u2 := hk2.frozen 2
  go_upto_region 9 with (fail)
  obtain ⟨w3, hw3⟩ : ∃ w3, w3 = set3 w2 w.heap.size (.slice A2 l2.length c2) (.int .i64 le2) (.bool of2) := ⟨_, rfl⟩
  have hk3 : Blk w3 w.heap.size 52 #[.slice A2 l2.length c2, .int .i64 le2, .bool of2] := by rw [hw3]; exact set3_blk hk2 _ _ _
  have hq3 : Kept (fun i => i = w.heap.size) w2 w3 := by rw [hw3]; exact set3_kept _ _ _ _ _
  have hkc3 := hkc2.kept hq3 (show ¬ (w.heap.size + 1 = w.heap.size) by omega)
  have hk03 := hk02.kept hq3 (show ¬ (w.heap.size + 2 = w.heap.size) by omega)
  have hbw3 : Below w.heap.size w w3 := hq3.below hbw2 hbw2.size fun i hi => by have : i = w.heap.size := hi; omega
  have hF3 := hF2.keptF hq3 fun i _ hi e => by
    have e : i = w.heap.size := e
    rcases hi with hi | hi <;> omega
  have hs3 := hq3.size
  have hS3 := HP.out.sys.below hbw3
  have HNF := Lib.hid (show ∀ (A : Option Addr) (m : Nat) (xs : List Value), Reads w3 B 1 A m xs → ∀ ad, A = some ad → 0 < m → ¬ F ad.block from fun A m xs hr ad e hm hf => by
    obtain ⟨ad', e', hb', _⟩ := hr.2 hm
    rw [e] at e'; injection e' with e'
    have h1 : base ≤ ad.block := by obtain ⟨_, _, _, _, h4, _⟩ := HP.out.sys; exact h4 _ hf
    rw [e'] at h1; omega)
  have HNF := Lib.hid (HNF.out Ad nd _ (HRD.out w3 hbw3))
  have hsy3 := append_any base sb mb n F st Ad nd cd B data nm w3 hS3 (HRD.out w3 hbw3) (by omega) HDL.out HNF.out (by omega) hs (by unfold maxLen; omega)
  unfold set3 at hw3
  rw [← hw3]
  clear hw3 u0 u1 u2 x0 x1 x2 hk2 hkc2 hk02 hq3 hF2
  have a0 := hkc3.cell 0
  have a1 := hkc3.cell 1
  have a2 := hkc3.cell 2
  have a3 := hkc3.cell 3
  have a4 := hkc3.cell 4
  have a5 := hkc3.cell 5
  simp only [List.getElem?_toArray, List.getElem?_cons_zero, List.getElem?_cons_succ] at a0 a1 a2 a3 a4 a5
  obtain ⟨ra, hra⟩ : ∃ ra, ra = stepA st ⟨1, x, nm, ot, data, keep⟩ := ⟨_, rfl⟩
  have hra2 : appendA st nm data = ra := hra.symm
  rw [hra2] at hsy3
  have HS3 := HS2.out
  rw [← hra] at HS3
  have hcd : ra.2 = code := HS3.1
  rw [hcd] at hsy3
  have HRA := Lib.hid hra
  have HS4 := Lib.hid HS3
  clear hra hra2 HS3 hcd
  go_wp2_with fail
  refine hsy3.mono ?_
  clear hsy3 a0 a1 a2 a3 a4 a5
  rintro e w4 ⟨rfl, hS4, hK4⟩
  have hnF : ∀ j, w.heap.size ≤ j → ¬ F j := fun j hj hf => by have := HP.out.cap j hf; omega
  have hk4 := hk3.kept hK4 (hnF _ (Nat.le_refl _))
  have hk04 := hk03.kept hK4 (hnF _ (by omega))
  have hK04 : Kept F w w3 := (Kept.of_below (F := F) hbw3)
  have x0 := hk4.cell 0
  have x1 := hk4.cell 1
  have x2 := hk4.cell 2
  simp only [List.getElem?_toArray, List.getElem?_cons_zero, List.getElem?_cons_succ] at x0 x1 x2
  have z0 := hk04.cell 0
  have z1 := hk04.cell 1
  have z2 := hk04.cell 2
  simp only [List.getElem?_toArray, List.getElem?_cons_zero, List.getElem?_cons_succ] at z0 z1 z2
  have y0 := hk04.frozen 0
  have y1 := hk04.frozen 1
  have y2 := hk04.frozen 2
  have hnum := num_errV code w4.drew
  obtain ⟨ev, hev⟩ : ∃ ev, ev = errV code := ⟨_, rfl⟩
  rw [← hev] at hnum ⊢
  have HEV := Lib.hid hev
  clear hev
  go_upto_region 25 with (fail)
  have hne9 : ¬ (w.heap.size = w.heap.size + 1 + 1) := by omega
  have hne8 : ¬ (w.heap.size + 1 + 1 = w.heap.size) := by omega
  go_region_held3 (fun w' => w'.cell? ⟨w.heap.size, 0, none⟩ = some (.slice A2 l2.length c2) ∧ w'.cell? ⟨w.heap.size, 1, none⟩ = some (.int .i64 le2) ∧ w'.cell? ⟨w.heap.size, 2, none⟩ = some (.bool of2))
    (first | go_keep | assumption)
    (first | (go_at_call 32; refine hnum.mono ?_; rintro e w5 ⟨rfl, rfl⟩))
  obtain ⟨wF, hwF⟩ : ∃ wF, wF = (set3 w4 (w.heap.size + 2) (.slice A2 l2.length c2) (.int .i64 le2) (.bool of2)).drew := ⟨_, rfl⟩
  have hkF : Blk wF (w.heap.size + 2) 52 #[(.slice A2 l2.length c2 : Value), (.int .i64 le2 : Value), (.bool of2 : Value)] := by rw [hwF]; exact (set3_blk hk04 _ _ _).drew
  have hKF : Kept (fun i => i = w.heap.size + 2) w4 wF := by
    rw [hwF]
    exact (set3_kept w4 (w.heap.size + 2) _ _ _).trans (Kept.of_below (Below.refl _ _).drew)
  have f0 := hkF.cell 0
  have f1 := hkF.cell 1
  have f2 := hkF.cell 2
  simp only [List.getElem?_toArray, List.getElem?_cons_zero, List.getElem?_cons_succ] at f0 f1 f2
  unfold set3 at hwF
  rw [← hwF]
  clear hwF x0 x1 x2 z0 z1 z2 y0 y1 y2 hnum
  go_wp2_with fail
  have hRR := HR.out
  have HSR : Op2 (stepA st ⟨1, x, nm, ot, data, keep⟩) (⟨fs2, le2, of2⟩, code) := by rw [hRR]; exact HST.out
  have hend := step_end (y' := ⟨fs2, le2, of2⟩) (n := n) (st' := (stepA st ⟨1, x, nm, ot, data, keep⟩).1) HP.out.cap HP.out.gF hK04 hsk (Nat.le_trans hs2' hs3) hF3 HL2.out (by rw [← HRA.out]; exact hS4) (by omega) hK4 hKF HSR.2 HINV.out
  refine bodyPost_ret (v := .tuple #[.agg #[(.slice A2 l2.length c2 : Value), (.int .i64 le2 : Value), (.bool of2 : Value)], .bool true]) (by simp [results, Try.results25, go_sem, f0, f1, f2]) rfl ?_
  obtain ⟨hKK, F', G', hP', h1, h2⟩ := hend
  refine ⟨_, rfl, hKK, F', G', ?_, h1, h2⟩
  rw [← hRR]
  exact hP'
set_option maxRecDepth 100000 in
set_option maxHeartbeats 4000000 in
theorem step_2 {w : World} {base : Nat} {F : Nat → Prop} {sb mb n : Nat} {G : Nat → Prop} {st : AS} {v : Value} {y : RY} (h : PlS w base F sb mb n G st v y) (hn9 : n ≤ 800000) (k x : Int) (nm ot : ByteArray) (Ad : Option Addr) (nd cd : Nat) (Ak : Option Addr) (mk ck B : Nat) (data : List UInt8) (keep : List Int)
    (hk : kindI k = 2) (hx : -9223372036854775808 ≤ x ∧ x ≤ 9223372036854775807) (hs : nm.size ≤ maxLen) (hs2 : ot.size ≤ maxLen) (hrd : Reads w B 1 Ad nd (data.map byteV)) (hdl : data.length = nd) (hnd : nd ≤ 1000000) (hrk : Reads w B 1 Ak mk (keep.map (Value.int .i64))) (hkl : keep.length = mk) (hmk : mk ≤ 1000000) (hmc : mk ≤ ck) (hkb : ∀ k ∈ keep, -9223372036854775808 ≤ k ∧ k ≤ 9223372036854775807) (hB : B ≤ base) :
    Calls Try.prog 25 #[.pointer (some ⟨sb, 0, none⟩), v, actV k x nm ot Ad nd cd Ak mk ck] w (StE w base F G sb mb n st y ⟨2, x, nm, ot, data, keep⟩) := by
  have hbs := h.sys.base_le
  have hstep := step_law h.str ⟨2, x, nm, ot, data, keep⟩ hx.2
  have hinv := inv_step h.inv ⟨2, x, nm, ot, data, keep⟩
  obtain ⟨hris, hsy⟩ := h.sys.files_ok
  have hlen : st.files.length ≤ 800000 := Nat.le_trans h.inv.1 hn9
  rw [h.str.files] at hris hsy
  have hyl : y.files.length ≤ 800000 := by rw [← h.str.files]; exact hlen
  obtain ⟨fv, l, rfl, hF, hl⟩ := h.ry
  have hll : l.length ≤ 800000 := by rw [← List.length_map (f := Prod.fst), hl]; exact hyl
  obtain ⟨hka, hkact, hkb0, hba⟩ := tri_blk w fv (.int .i64 y.left) (.bool y.off) (.int .i64 k) (.int .i64 x) (.string nm) (.string ot) (.slice Ad nd cd) (.slice Ak mk ck)
  obtain ⟨wa, hwa⟩ : ∃ wa, wa = tri w fv (.int .i64 y.left) (.bool y.off) (.int .i64 k) (.int .i64 x) (.string nm) (.string ot) (.slice Ad nd cd) (.slice Ak mk ck) := ⟨_, rfl⟩
  rw [← hwa] at hka hkact hkb0 hba
  have hsa : w.heap.size + 3 ≤ wa.heap.size := by rw [hwa]; simp [tri]
  have hkd := kind_any k x nm ot Ad nd cd Ak mk ck wa
  obtain ⟨A, c, rfl, hc⟩ := hF.slice
  have hlo := h.str.lo
  have hhi := h.str.hi
  unfold tri at hwa
  have HWA := Lib.hid hwa
  have HST := Lib.hid hstep
  have HINV := Lib.hid hinv
  have HRIS := Lib.hid hris
  have HSY := Lib.hid hsy
  have HB := Lib.hid hba
  have HKA := Lib.hid hka
  have HKC := Lib.hid hkact
  have HK0 := Lib.hid hkb0
  have HSA := Lib.hid hsa
  have HP := Lib.hid h
  have HL := Lib.hid hl
  have HDL := Lib.hid hdl
  have HKL := Lib.hid hkl
  have HKBD := Lib.hid hkb
  have HF0 := Lib.hid (show FsM (fun i => G i ∧ i < w.heap.size) w (.slice A l.length c) l from hF.mono fun i hi hg => ⟨hg, hi⟩)
  have HRD := Lib.hid (show ∀ w', Below w.heap.size w w' → Reads w' B 1 Ad nd (data.map byteV) from fun w' hb => hrd.below (hb.mono (by omega)))
  have HRK := Lib.hid (show ∀ w', Below w.heap.size w w' → Reads w' B 1 Ak mk (keep.map (Value.int .i64)) from fun w' hb => hrk.below (hb.mono (by omega)))
  have a0 := hkact.cell 0
  have a1 := hkact.cell 1
  have a2 := hkact.cell 2
  have a3 := hkact.cell 3
  have a4 := hkact.cell 4
  have a5 := hkact.cell 5
  simp only [List.getElem?_toArray, List.getElem?_cons_zero, List.getElem?_cons_succ] at a0 a1 a2 a3 a4 a5
  unfold actV at hkd ⊢
  rw [hk] at hkd
  have HKK := Lib.hid hk
  clear hwa hstep hinv hris hsy hba hka hkact hkb0 h hl hdl hkl hkb hF hrd hrk hk
  go_enter Try.func25, Try.ntmps25
  go_upto_region 3 with (fail)
  rw [← HWA.out]
  go_wp2_with fail
  refine hkd.mono ?_
  clear hkd a0 a1 a2 a3 a4 a5
  rintro e wk ⟨rfl, hbk⟩
  have hk1 := HKA.out.below hbk HKA.out.lt
  have hkc := HKC.out.below hbk HKC.out.lt
  have hk0 := HK0.out.below hbk HK0.out.lt
  have hbwk := HB.out.trans (hbk.mono HB.out.size)
  have hsk : w.heap.size + 2 < wk.heap.size := by have := HSA.out; have := hbk.size; omega
  have hFk := HF0.out.below hbwk
  have x0 := hk1.cell 0
  have x1 := hk1.cell 1
  have x2 := hk1.cell 2
  simp only [List.getElem?_toArray, List.getElem?_cons_zero, List.getElem?_cons_succ] at x0 x1 x2
  have a0 := hkc.cell 0
  have a1 := hkc.cell 1
  have a2 := hkc.cell 2
  have a3 := hkc.cell 3
  have a4 := hkc.cell 4
  have a5 := hkc.cell 5
  simp only [List.getElem?_toArray, List.getElem?_cons_zero, List.getElem?_cons_succ] at a0 a1 a2 a3 a4 a5
  have hrf := rsync_any _ _ l y nm wk hFk HL.out HRIS.out (by omega) hs hlo hhi HSY.out
  have hst2 := HST.out
  have hstep2 : Op2 (stepA st ⟨2, x, nm, ot, data, keep⟩) (stepY y ⟨2, x, nm, ot, data, keep⟩) := hst2
  clear hst2
  obtain ⟨r, hr⟩ : ∃ r, r = stepY y ⟨2, x, nm, ot, data, keep⟩ := ⟨_, rfl⟩
  have hr2 : rSync y nm = r := hr.symm
  rw [hr2] at hrf
  rw [← hr] at hstep2
  have HR := Lib.hid hr
  have HS2 := Lib.hid hstep2
  clear hr hr2 hstep2
  go_wp2_with fail
  refine hrf.mono ?_
  clear hrf x0 x1 x2
  rintro e w2 ⟨v2, rfl, ⟨fv2, l2, rfl, hF2, hl2⟩, hb2⟩
  obtain ⟨A2, c2, rfl, hc2⟩ := hF2.slice
  have hk2 := hk1.below hb2 hk1.lt
  have hkc2 := hkc.below hb2 hkc.lt
  have hk02 := hk0.below hb2 hk0.lt
  have hbw2 := hbwk.trans (hb2.mono hbwk.size)
  have hs2' := hb2.size
  obtain ⟨⟨fs2, le2, of2⟩, code⟩ := r
  simp only at hl2
  have HL2 := Lib.hid hl2
  clear hl2 a0 a1 a2 a3 a4 a5 hk1 hkc hk0 hFk
  have x0 := hk2.cell 0
  have x1 := hk2.cell 1
  have x2 := hk2.cell 2
  simp only [List.getElem?_toArray, List.getElem?_cons_zero, List.getElem?_cons_succ] at x0 x1 x2
  have u0 := hk2.frozen 0
  have u1 := hk2.frozen 1
  have u2 := hk2.frozen 2
  go_upto_region 12 with (fail)
  obtain ⟨w3, hw3⟩ : ∃ w3, w3 = set3 w2 w.heap.size (.slice A2 l2.length c2) (.int .i64 le2) (.bool of2) := ⟨_, rfl⟩
  have hk3 : Blk w3 w.heap.size 52 #[.slice A2 l2.length c2, .int .i64 le2, .bool of2] := by rw [hw3]; exact set3_blk hk2 _ _ _
  have hq3 : Kept (fun i => i = w.heap.size) w2 w3 := by rw [hw3]; exact set3_kept _ _ _ _ _
  have hkc3 := hkc2.kept hq3 (show ¬ (w.heap.size + 1 = w.heap.size) by omega)
  have hk03 := hk02.kept hq3 (show ¬ (w.heap.size + 2 = w.heap.size) by omega)
  have hbw3 : Below w.heap.size w w3 := hq3.below hbw2 hbw2.size fun i hi => by have : i = w.heap.size := hi; omega
  have hF3 := hF2.keptF hq3 fun i _ hi e => by
    have e : i = w.heap.size := e
    rcases hi with hi | hi <;> omega
  have hs3 := hq3.size
  have hS3 := HP.out.sys.below hbw3
  have HNF := Lib.hid (show ∀ (A : Option Addr) (m : Nat) (xs : List Value), Reads w3 B 1 A m xs → ∀ ad, A = some ad → 0 < m → ¬ F ad.block from fun A m xs hr ad e hm hf => by
    obtain ⟨ad', e', hb', _⟩ := hr.2 hm
    rw [e] at e'; injection e' with e'
    have h1 : base ≤ ad.block := by obtain ⟨_, _, _, _, h4, _⟩ := HP.out.sys; exact h4 _ hf
    rw [e'] at h1; omega)
  have hsy3 := sync_any base sb mb n F st nm w3 hS3 hs
  unfold set3 at hw3
  rw [← hw3]
  clear hw3 u0 u1 u2 x0 x1 x2 hk2 hkc2 hk02 hq3 hF2
  have a0 := hkc3.cell 0
  have a1 := hkc3.cell 1
  have a2 := hkc3.cell 2
  have a3 := hkc3.cell 3
  have a4 := hkc3.cell 4
  have a5 := hkc3.cell 5
  simp only [List.getElem?_toArray, List.getElem?_cons_zero, List.getElem?_cons_succ] at a0 a1 a2 a3 a4 a5
  obtain ⟨ra, hra⟩ : ∃ ra, ra = stepA st ⟨2, x, nm, ot, data, keep⟩ := ⟨_, rfl⟩
  have hra2 : syncA st nm = ra := hra.symm
  rw [hra2] at hsy3
  have HS3 := HS2.out
  rw [← hra] at HS3
  have hcd : ra.2 = code := HS3.1
  rw [hcd] at hsy3
  have HRA := Lib.hid hra
  have HS4 := Lib.hid HS3
  clear hra hra2 HS3 hcd
  go_wp2_with fail
  refine hsy3.mono ?_
  clear hsy3 a0 a1 a2 a3 a4 a5
  rintro e w4 ⟨rfl, hS4, hK4⟩
  have hnF : ∀ j, w.heap.size ≤ j → ¬ F j := fun j hj hf => by have := HP.out.cap j hf; omega
  have hk4 := hk3.kept hK4 (hnF _ (Nat.le_refl _))
  have hk04 := hk03.kept hK4 (hnF _ (by omega))
  have hK04 : Kept F w w3 := (Kept.of_below (F := F) hbw3)
  have x0 := hk4.cell 0
  have x1 := hk4.cell 1
  have x2 := hk4.cell 2
  simp only [List.getElem?_toArray, List.getElem?_cons_zero, List.getElem?_cons_succ] at x0 x1 x2
  have z0 := hk04.cell 0
  have z1 := hk04.cell 1
  have z2 := hk04.cell 2
  simp only [List.getElem?_toArray, List.getElem?_cons_zero, List.getElem?_cons_succ] at z0 z1 z2
  have y0 := hk04.frozen 0
  have y1 := hk04.frozen 1
  have y2 := hk04.frozen 2
  have hnum := num_errV code w4.drew
  obtain ⟨ev, hev⟩ : ∃ ev, ev = errV code := ⟨_, rfl⟩
  rw [← hev] at hnum ⊢
  have HEV := Lib.hid hev
  clear hev
  go_upto_region 25 with (fail)
  have hne9 : ¬ (w.heap.size = w.heap.size + 1 + 1) := by omega
  have hne8 : ¬ (w.heap.size + 1 + 1 = w.heap.size) := by omega
  go_region_held3 (fun w' => w'.cell? ⟨w.heap.size, 0, none⟩ = some (.slice A2 l2.length c2) ∧ w'.cell? ⟨w.heap.size, 1, none⟩ = some (.int .i64 le2) ∧ w'.cell? ⟨w.heap.size, 2, none⟩ = some (.bool of2))
    (first | go_keep | assumption)
    (first | (go_at_call 32; refine hnum.mono ?_; rintro e w5 ⟨rfl, rfl⟩))
  obtain ⟨wF, hwF⟩ : ∃ wF, wF = (set3 w4 (w.heap.size + 2) (.slice A2 l2.length c2) (.int .i64 le2) (.bool of2)).drew := ⟨_, rfl⟩
  have hkF : Blk wF (w.heap.size + 2) 52 #[(.slice A2 l2.length c2 : Value), (.int .i64 le2 : Value), (.bool of2 : Value)] := by rw [hwF]; exact (set3_blk hk04 _ _ _).drew
  have hKF : Kept (fun i => i = w.heap.size + 2) w4 wF := by
    rw [hwF]
    exact (set3_kept w4 (w.heap.size + 2) _ _ _).trans (Kept.of_below (Below.refl _ _).drew)
  have f0 := hkF.cell 0
  have f1 := hkF.cell 1
  have f2 := hkF.cell 2
  simp only [List.getElem?_toArray, List.getElem?_cons_zero, List.getElem?_cons_succ] at f0 f1 f2
  unfold set3 at hwF
  rw [← hwF]
  clear hwF x0 x1 x2 z0 z1 z2 y0 y1 y2 hnum
  go_wp2_with fail
  have hRR := HR.out
  have HSR : Op2 (stepA st ⟨2, x, nm, ot, data, keep⟩) (⟨fs2, le2, of2⟩, code) := by rw [hRR]; exact HST.out
  have hend := step_end (y' := ⟨fs2, le2, of2⟩) (n := n) (st' := (stepA st ⟨2, x, nm, ot, data, keep⟩).1) HP.out.cap HP.out.gF hK04 hsk (Nat.le_trans hs2' hs3) hF3 HL2.out (by rw [← HRA.out]; exact hS4) (by omega) hK4 hKF HSR.2 HINV.out
  refine bodyPost_ret (v := .tuple #[.agg #[(.slice A2 l2.length c2 : Value), (.int .i64 le2 : Value), (.bool of2 : Value)], .bool true]) (by simp [results, Try.results25, go_sem, f0, f1, f2]) rfl ?_
  obtain ⟨hKK, F', G', hP', h1, h2⟩ := hend
  refine ⟨_, rfl, hKK, F', G', ?_, h1, h2⟩
  rw [← hRR]
  exact hP'
set_option maxRecDepth 100000 in
set_option maxHeartbeats 4000000 in
theorem step_3 {w : World} {base : Nat} {F : Nat → Prop} {sb mb n : Nat} {G : Nat → Prop} {st : AS} {v : Value} {y : RY} (h : PlS w base F sb mb n G st v y) (hn9 : n ≤ 800000) (k x : Int) (nm ot : ByteArray) (Ad : Option Addr) (nd cd : Nat) (Ak : Option Addr) (mk ck B : Nat) (data : List UInt8) (keep : List Int)
    (hk : kindI k = 3) (hx : -9223372036854775808 ≤ x ∧ x ≤ 9223372036854775807) (hs : nm.size ≤ maxLen) (hs2 : ot.size ≤ maxLen) (hrd : Reads w B 1 Ad nd (data.map byteV)) (hdl : data.length = nd) (hnd : nd ≤ 1000000) (hrk : Reads w B 1 Ak mk (keep.map (Value.int .i64))) (hkl : keep.length = mk) (hmk : mk ≤ 1000000) (hmc : mk ≤ ck) (hkb : ∀ k ∈ keep, -9223372036854775808 ≤ k ∧ k ≤ 9223372036854775807) (hB : B ≤ base) :
    Calls Try.prog 25 #[.pointer (some ⟨sb, 0, none⟩), v, actV k x nm ot Ad nd cd Ak mk ck] w (StE w base F G sb mb n st y ⟨3, x, nm, ot, data, keep⟩) := by
  have hbs := h.sys.base_le
  have hstep := step_law h.str ⟨3, x, nm, ot, data, keep⟩ hx.2
  have hinv := inv_step h.inv ⟨3, x, nm, ot, data, keep⟩
  obtain ⟨hris, hsy⟩ := h.sys.files_ok
  have hlen : st.files.length ≤ 800000 := Nat.le_trans h.inv.1 hn9
  rw [h.str.files] at hris hsy
  have hyl : y.files.length ≤ 800000 := by rw [← h.str.files]; exact hlen
  obtain ⟨fv, l, rfl, hF, hl⟩ := h.ry
  have hll : l.length ≤ 800000 := by rw [← List.length_map (f := Prod.fst), hl]; exact hyl
  obtain ⟨hka, hkact, hkb0, hba⟩ := tri_blk w fv (.int .i64 y.left) (.bool y.off) (.int .i64 k) (.int .i64 x) (.string nm) (.string ot) (.slice Ad nd cd) (.slice Ak mk ck)
  obtain ⟨wa, hwa⟩ : ∃ wa, wa = tri w fv (.int .i64 y.left) (.bool y.off) (.int .i64 k) (.int .i64 x) (.string nm) (.string ot) (.slice Ad nd cd) (.slice Ak mk ck) := ⟨_, rfl⟩
  rw [← hwa] at hka hkact hkb0 hba
  have hsa : w.heap.size + 3 ≤ wa.heap.size := by rw [hwa]; simp [tri]
  have hkd := kind_any k x nm ot Ad nd cd Ak mk ck wa
  obtain ⟨A, c, rfl, hc⟩ := hF.slice
  have hlo := h.str.lo
  have hhi := h.str.hi
  unfold tri at hwa
  have HWA := Lib.hid hwa
  have HST := Lib.hid hstep
  have HINV := Lib.hid hinv
  have HRIS := Lib.hid hris
  have HSY := Lib.hid hsy
  have HB := Lib.hid hba
  have HKA := Lib.hid hka
  have HKC := Lib.hid hkact
  have HK0 := Lib.hid hkb0
  have HSA := Lib.hid hsa
  have HP := Lib.hid h
  have HL := Lib.hid hl
  have HDL := Lib.hid hdl
  have HKL := Lib.hid hkl
  have HKBD := Lib.hid hkb
  have HF0 := Lib.hid (show FsM (fun i => G i ∧ i < w.heap.size) w (.slice A l.length c) l from hF.mono fun i hi hg => ⟨hg, hi⟩)
  have HRD := Lib.hid (show ∀ w', Below w.heap.size w w' → Reads w' B 1 Ad nd (data.map byteV) from fun w' hb => hrd.below (hb.mono (by omega)))
  have HRK := Lib.hid (show ∀ w', Below w.heap.size w w' → Reads w' B 1 Ak mk (keep.map (Value.int .i64)) from fun w' hb => hrk.below (hb.mono (by omega)))
  have a0 := hkact.cell 0
  have a1 := hkact.cell 1
  have a2 := hkact.cell 2
  have a3 := hkact.cell 3
  have a4 := hkact.cell 4
  have a5 := hkact.cell 5
  simp only [List.getElem?_toArray, List.getElem?_cons_zero, List.getElem?_cons_succ] at a0 a1 a2 a3 a4 a5
  unfold actV at hkd ⊢
  rw [hk] at hkd
  have HKK := Lib.hid hk
  clear hwa hstep hinv hris hsy hba hka hkact hkb0 h hl hdl hkl hkb hF hrd hrk hk
  go_enter Try.func25, Try.ntmps25
  go_upto_region 3 with (fail)
  rw [← HWA.out]
  go_wp2_with fail
  refine hkd.mono ?_
  clear hkd a0 a1 a2 a3 a4 a5
  rintro e wk ⟨rfl, hbk⟩
  have hk1 := HKA.out.below hbk HKA.out.lt
  have hkc := HKC.out.below hbk HKC.out.lt
  have hk0 := HK0.out.below hbk HK0.out.lt
  have hbwk := HB.out.trans (hbk.mono HB.out.size)
  have hsk : w.heap.size + 2 < wk.heap.size := by have := HSA.out; have := hbk.size; omega
  have hFk := HF0.out.below hbwk
  have x0 := hk1.cell 0
  have x1 := hk1.cell 1
  have x2 := hk1.cell 2
  simp only [List.getElem?_toArray, List.getElem?_cons_zero, List.getElem?_cons_succ] at x0 x1 x2
  have a0 := hkc.cell 0
  have a1 := hkc.cell 1
  have a2 := hkc.cell 2
  have a3 := hkc.cell 3
  have a4 := hkc.cell 4
  have a5 := hkc.cell 5
  simp only [List.getElem?_toArray, List.getElem?_cons_zero, List.getElem?_cons_succ] at a0 a1 a2 a3 a4 a5
  have hrf := rtrunc_any _ _ l y nm x wk hFk HL.out HRIS.out (by omega) hs hx hlo hhi HSY.out
  have hst2 := HST.out
  have hstep2 : Op2 (stepA st ⟨3, x, nm, ot, data, keep⟩) (stepY y ⟨3, x, nm, ot, data, keep⟩) := hst2
  clear hst2
  obtain ⟨r, hr⟩ : ∃ r, r = stepY y ⟨3, x, nm, ot, data, keep⟩ := ⟨_, rfl⟩
  have hr2 : rTrunc y nm x = r := hr.symm
  rw [hr2] at hrf
  rw [← hr] at hstep2
  have HR := Lib.hid hr
  have HS2 := Lib.hid hstep2
  clear hr hr2 hstep2
  go_wp2_with fail
  refine hrf.mono ?_
  clear hrf x0 x1 x2
  rintro e w2 ⟨v2, rfl, ⟨fv2, l2, rfl, hF2, hl2⟩, hb2⟩
  obtain ⟨A2, c2, rfl, hc2⟩ := hF2.slice
  have hk2 := hk1.below hb2 hk1.lt
  have hkc2 := hkc.below hb2 hkc.lt
  have hk02 := hk0.below hb2 hk0.lt
  have hbw2 := hbwk.trans (hb2.mono hbwk.size)
  have hs2' := hb2.size
  obtain ⟨⟨fs2, le2, of2⟩, code⟩ := r
  simp only at hl2
  have HL2 := Lib.hid hl2
  clear hl2 a0 a1 a2 a3 a4 a5 hk1 hkc hk0 hFk
  have x0 := hk2.cell 0
  have x1 := hk2.cell 1
  have x2 := hk2.cell 2
  simp only [List.getElem?_toArray, List.getElem?_cons_zero, List.getElem?_cons_succ] at x0 x1 x2
  have u0 := hk2.frozen 0
  have u1 := hk2.frozen 1
  have u2 := hk2.frozen 2
  go_upto_region 15 with (fail)
  obtain ⟨w3, hw3⟩ : ∃ w3, w3 = set3 w2 w.heap.size (.slice A2 l2.length c2) (.int .i64 le2) (.bool of2) := ⟨_, rfl⟩
  have hk3 : Blk w3 w.heap.size 52 #[.slice A2 l2.length c2, .int .i64 le2, .bool of2] := by rw [hw3]; exact set3_blk hk2 _ _ _
  have hq3 : Kept (fun i => i = w.heap.size) w2 w3 := by rw [hw3]; exact set3_kept _ _ _ _ _
  have hkc3 := hkc2.kept hq3 (show ¬ (w.heap.size + 1 = w.heap.size) by omega)
  have hk03 := hk02.kept hq3 (show ¬ (w.heap.size + 2 = w.heap.size) by omega)
  have hbw3 : Below w.heap.size w w3 := hq3.below hbw2 hbw2.size fun i hi => by have : i = w.heap.size := hi; omega
  have hF3 := hF2.keptF hq3 fun i _ hi e => by
    have e : i = w.heap.size := e
    rcases hi with hi | hi <;> omega
  have hs3 := hq3.size
  have hS3 := HP.out.sys.below hbw3
  have HNF := Lib.hid (show ∀ (A : Option Addr) (m : Nat) (xs : List Value), Reads w3 B 1 A m xs → ∀ ad, A = some ad → 0 < m → ¬ F ad.block from fun A m xs hr ad e hm hf => by
    obtain ⟨ad', e', hb', _⟩ := hr.2 hm
    rw [e] at e'; injection e' with e'
    have h1 : base ≤ ad.block := by obtain ⟨_, _, _, _, h4, _⟩ := HP.out.sys; exact h4 _ hf
    rw [e'] at h1; omega)
  have hsy3 := trunc_any base sb mb n F st nm x w3 hS3 hs
  unfold set3 at hw3
  rw [← hw3]
  clear hw3 u0 u1 u2 x0 x1 x2 hk2 hkc2 hk02 hq3 hF2
  have a0 := hkc3.cell 0
  have a1 := hkc3.cell 1
  have a2 := hkc3.cell 2
  have a3 := hkc3.cell 3
  have a4 := hkc3.cell 4
  have a5 := hkc3.cell 5
  simp only [List.getElem?_toArray, List.getElem?_cons_zero, List.getElem?_cons_succ] at a0 a1 a2 a3 a4 a5
  obtain ⟨ra, hra⟩ : ∃ ra, ra = stepA st ⟨3, x, nm, ot, data, keep⟩ := ⟨_, rfl⟩
  have hra2 : truncA st nm x = ra := hra.symm
  rw [hra2] at hsy3
  have HS3 := HS2.out
  rw [← hra] at HS3
  have hcd : ra.2 = code := HS3.1
  rw [hcd] at hsy3
  have HRA := Lib.hid hra
  have HS4 := Lib.hid HS3
  clear hra hra2 HS3 hcd
  go_wp2_with fail
  refine hsy3.mono ?_
  clear hsy3 a0 a1 a2 a3 a4 a5
  rintro e w4 ⟨rfl, hS4, hK4⟩
  have hnF : ∀ j, w.heap.size ≤ j → ¬ F j := fun j hj hf => by have := HP.out.cap j hf; omega
  have hk4 := hk3.kept hK4 (hnF _ (Nat.le_refl _))
  have hk04 := hk03.kept hK4 (hnF _ (by omega))
  have hK04 : Kept F w w3 := (Kept.of_below (F := F) hbw3)
  have x0 := hk4.cell 0
  have x1 := hk4.cell 1
  have x2 := hk4.cell 2
  simp only [List.getElem?_toArray, List.getElem?_cons_zero, List.getElem?_cons_succ] at x0 x1 x2
  have z0 := hk04.cell 0
  have z1 := hk04.cell 1
  have z2 := hk04.cell 2
  simp only [List.getElem?_toArray, List.getElem?_cons_zero, List.getElem?_cons_succ] at z0 z1 z2
  have y0 := hk04.frozen 0
  have y1 := hk04.frozen 1
  have y2 := hk04.frozen 2
  have hnum := num_errV code w4.drew
  obtain ⟨ev, hev⟩ : ∃ ev, ev = errV code := ⟨_, rfl⟩
  rw [← hev] at hnum ⊢
  have HEV := Lib.hid hev
  clear hev
  go_upto_region 25 with (fail)
  have hne9 : ¬ (w.heap.size = w.heap.size + 1 + 1) := by omega
  have hne8 : ¬ (w.heap.size + 1 + 1 = w.heap.size) := by omega
  go_region_held3 (fun w' => w'.cell? ⟨w.heap.size, 0, none⟩ = some (.slice A2 l2.length c2) ∧ w'.cell? ⟨w.heap.size, 1, none⟩ = some (.int .i64 le2) ∧ w'.cell? ⟨w.heap.size, 2, none⟩ = some (.bool of2))
    (first | go_keep | assumption)
    (first | (go_at_call 32; refine hnum.mono ?_; rintro e w5 ⟨rfl, rfl⟩))
  obtain ⟨wF, hwF⟩ : ∃ wF, wF = (set3 w4 (w.heap.size + 2) (.slice A2 l2.length c2) (.int .i64 le2) (.bool of2)).drew := ⟨_, rfl⟩
  have hkF : Blk wF (w.heap.size + 2) 52 #[(.slice A2 l2.length c2 : Value), (.int .i64 le2 : Value), (.bool of2 : Value)] := by rw [hwF]; exact (set3_blk hk04 _ _ _).drew
  have hKF : Kept (fun i => i = w.heap.size + 2) w4 wF := by
    rw [hwF]
    exact (set3_kept w4 (w.heap.size + 2) _ _ _).trans (Kept.of_below (Below.refl _ _).drew)
  have f0 := hkF.cell 0
  have f1 := hkF.cell 1
  have f2 := hkF.cell 2
  simp only [List.getElem?_toArray, List.getElem?_cons_zero, List.getElem?_cons_succ] at f0 f1 f2
  unfold set3 at hwF
  rw [← hwF]
  clear hwF x0 x1 x2 z0 z1 z2 y0 y1 y2 hnum
  go_wp2_with fail
  have hRR := HR.out
  have HSR : Op2 (stepA st ⟨3, x, nm, ot, data, keep⟩) (⟨fs2, le2, of2⟩, code) := by rw [hRR]; exact HST.out
  have hend := step_end (y' := ⟨fs2, le2, of2⟩) (n := n) (st' := (stepA st ⟨3, x, nm, ot, data, keep⟩).1) HP.out.cap HP.out.gF hK04 hsk (Nat.le_trans hs2' hs3) hF3 HL2.out (by rw [← HRA.out]; exact hS4) (by omega) hK4 hKF HSR.2 HINV.out
  refine bodyPost_ret (v := .tuple #[.agg #[(.slice A2 l2.length c2 : Value), (.int .i64 le2 : Value), (.bool of2 : Value)], .bool true]) (by simp [results, Try.results25, go_sem, f0, f1, f2]) rfl ?_
  obtain ⟨hKK, F', G', hP', h1, h2⟩ := hend
  refine ⟨_, rfl, hKK, F', G', ?_, h1, h2⟩
  rw [← hRR]
  exact hP'
set_option maxRecDepth 100000 in
set_option maxHeartbeats 4000000 in
theorem step_4 {w : World} {base : Nat} {F : Nat → Prop} {sb mb n : Nat} {G : Nat → Prop} {st : AS} {v : Value} {y : RY} (h : PlS w base F sb mb n G st v y) (hn9 : n ≤ 800000) (k x : Int) (nm ot : ByteArray) (Ad : Option Addr) (nd cd : Nat) (Ak : Option Addr) (mk ck B : Nat) (data : List UInt8) (keep : List Int)
    (hk : kindI k = 4) (hx : -9223372036854775808 ≤ x ∧ x ≤ 9223372036854775807) (hs : nm.size ≤ maxLen) (hs2 : ot.size ≤ maxLen) (hrd : Reads w B 1 Ad nd (data.map byteV)) (hdl : data.length = nd) (hnd : nd ≤ 1000000) (hrk : Reads w B 1 Ak mk (keep.map (Value.int .i64))) (hkl : keep.length = mk) (hmk : mk ≤ 1000000) (hmc : mk ≤ ck) (hkb : ∀ k ∈ keep, -9223372036854775808 ≤ k ∧ k ≤ 9223372036854775807) (hB : B ≤ base) :
    Calls Try.prog 25 #[.pointer (some ⟨sb, 0, none⟩), v, actV k x nm ot Ad nd cd Ak mk ck] w (StE w base F G sb mb n st y ⟨4, x, nm, ot, data, keep⟩) := by
  have hbs := h.sys.base_le
  have hstep := step_law h.str ⟨4, x, nm, ot, data, keep⟩ hx.2
  have hinv := inv_step h.inv ⟨4, x, nm, ot, data, keep⟩
  obtain ⟨hris, hsy⟩ := h.sys.files_ok
  have hlen : st.files.length ≤ 800000 := Nat.le_trans h.inv.1 hn9
  rw [h.str.files] at hris hsy
  have hyl : y.files.length ≤ 800000 := by rw [← h.str.files]; exact hlen
  obtain ⟨fv, l, rfl, hF, hl⟩ := h.ry
  have hll : l.length ≤ 800000 := by rw [← List.length_map (f := Prod.fst), hl]; exact hyl
  obtain ⟨hka, hkact, hkb0, hba⟩ := tri_blk w fv (.int .i64 y.left) (.bool y.off) (.int .i64 k) (.int .i64 x) (.string nm) (.string ot) (.slice Ad nd cd) (.slice Ak mk ck)
  obtain ⟨wa, hwa⟩ : ∃ wa, wa = tri w fv (.int .i64 y.left) (.bool y.off) (.int .i64 k) (.int .i64 x) (.string nm) (.string ot) (.slice Ad nd cd) (.slice Ak mk ck) := ⟨_, rfl⟩
  rw [← hwa] at hka hkact hkb0 hba
  have hsa : w.heap.size + 3 ≤ wa.heap.size := by rw [hwa]; simp [tri]
  have hkd := kind_any k x nm ot Ad nd cd Ak mk ck wa
  obtain ⟨A, c, rfl, hc⟩ := hF.slice
  have hlo := h.str.lo
  have hhi := h.str.hi
  unfold tri at hwa
  have HWA := Lib.hid hwa
  have HST := Lib.hid hstep
  have HINV := Lib.hid hinv
  have HRIS := Lib.hid hris
  have HSY := Lib.hid hsy
  have HB := Lib.hid hba
  have HKA := Lib.hid hka
  have HKC := Lib.hid hkact
  have HK0 := Lib.hid hkb0
  have HSA := Lib.hid hsa
  have HP := Lib.hid h
  have HL := Lib.hid hl
  have HDL := Lib.hid hdl
  have HKL := Lib.hid hkl
  have HKBD := Lib.hid hkb
  have HF0 := Lib.hid (show FsM (fun i => G i ∧ i < w.heap.size) w (.slice A l.length c) l from hF.mono fun i hi hg => ⟨hg, hi⟩)
  have HRD := Lib.hid (show ∀ w', Below w.heap.size w w' → Reads w' B 1 Ad nd (data.map byteV) from fun w' hb => hrd.below (hb.mono (by omega)))
  have HRK := Lib.hid (show ∀ w', Below w.heap.size w w' → Reads w' B 1 Ak mk (keep.map (Value.int .i64)) from fun w' hb => hrk.below (hb.mono (by omega)))
  have a0 := hkact.cell 0
  have a1 := hkact.cell 1
  have a2 := hkact.cell 2
  have a3 := hkact.cell 3
  have a4 := hkact.cell 4
  have a5 := hkact.cell 5
  simp only [List.getElem?_toArray, List.getElem?_cons_zero, List.getElem?_cons_succ] at a0 a1 a2 a3 a4 a5
  unfold actV at hkd ⊢
  rw [hk] at hkd
  have HKK := Lib.hid hk
  clear hwa hstep hinv hris hsy hba hka hkact hkb0 h hl hdl hkl hkb hF hrd hrk hk
  go_enter Try.func25, Try.ntmps25
  go_upto_region 3 with (fail)
  rw [← HWA.out]
  go_wp2_with fail
  refine hkd.mono ?_
  clear hkd a0 a1 a2 a3 a4 a5
  rintro e wk ⟨rfl, hbk⟩
  have hk1 := HKA.out.below hbk HKA.out.lt
  have hkc := HKC.out.below hbk HKC.out.lt
  have hk0 := HK0.out.below hbk HK0.out.lt
  have hbwk := HB.out.trans (hbk.mono HB.out.size)
  have hsk : w.heap.size + 2 < wk.heap.size := by have := HSA.out; have := hbk.size; omega
  have hFk := HF0.out.below hbwk
  have x0 := hk1.cell 0
  have x1 := hk1.cell 1
  have x2 := hk1.cell 2
  simp only [List.getElem?_toArray, List.getElem?_cons_zero, List.getElem?_cons_succ] at x0 x1 x2
  have a0 := hkc.cell 0
  have a1 := hkc.cell 1
  have a2 := hkc.cell 2
  have a3 := hkc.cell 3
  have a4 := hkc.cell 4
  have a5 := hkc.cell 5
  simp only [List.getElem?_toArray, List.getElem?_cons_zero, List.getElem?_cons_succ] at a0 a1 a2 a3 a4 a5
  have hrf := rrename_any _ _ l y nm ot wk hFk HL.out HRIS.out (by omega) hs hs2 hlo hhi HSY.out
  have hst2 := HST.out
  have hstep2 : Op2 (stepA st ⟨4, x, nm, ot, data, keep⟩) (stepY y ⟨4, x, nm, ot, data, keep⟩) := hst2
  clear hst2
  obtain ⟨r, hr⟩ : ∃ r, r = stepY y ⟨4, x, nm, ot, data, keep⟩ := ⟨_, rfl⟩
  have hr2 : rRename y nm ot = r := hr.symm
  rw [hr2] at hrf
  rw [← hr] at hstep2
  have HR := Lib.hid hr
  have HS2 := Lib.hid hstep2
  clear hr hr2 hstep2
  go_wp2_with fail
  refine hrf.mono ?_
  clear hrf x0 x1 x2
  rintro e w2 ⟨v2, rfl, ⟨fv2, l2, rfl, hF2, hl2⟩, hb2⟩
  obtain ⟨A2, c2, rfl, hc2⟩ := hF2.slice
  have hk2 := hk1.below hb2 hk1.lt
  have hkc2 := hkc.below hb2 hkc.lt
  have hk02 := hk0.below hb2 hk0.lt
  have hbw2 := hbwk.trans (hb2.mono hbwk.size)
  have hs2' := hb2.size
  obtain ⟨⟨fs2, le2, of2⟩, code⟩ := r
  simp only at hl2
  have HL2 := Lib.hid hl2
  clear hl2 a0 a1 a2 a3 a4 a5 hk1 hkc hk0 hFk
  have x0 := hk2.cell 0
  have x1 := hk2.cell 1
  have x2 := hk2.cell 2
  simp only [List.getElem?_toArray, List.getElem?_cons_zero, List.getElem?_cons_succ] at x0 x1 x2
  have u0 := hk2.frozen 0
  have u1 := hk2.frozen 1
  have u2 := hk2.frozen 2
  go_upto_region 18 with (fail)
  obtain ⟨w3, hw3⟩ : ∃ w3, w3 = set3 w2 w.heap.size (.slice A2 l2.length c2) (.int .i64 le2) (.bool of2) := ⟨_, rfl⟩
  have hk3 : Blk w3 w.heap.size 52 #[.slice A2 l2.length c2, .int .i64 le2, .bool of2] := by rw [hw3]; exact set3_blk hk2 _ _ _
  have hq3 : Kept (fun i => i = w.heap.size) w2 w3 := by rw [hw3]; exact set3_kept _ _ _ _ _
  have hkc3 := hkc2.kept hq3 (show ¬ (w.heap.size + 1 = w.heap.size) by omega)
  have hk03 := hk02.kept hq3 (show ¬ (w.heap.size + 2 = w.heap.size) by omega)
  have hbw3 : Below w.heap.size w w3 := hq3.below hbw2 hbw2.size fun i hi => by have : i = w.heap.size := hi; omega
  have hF3 := hF2.keptF hq3 fun i _ hi e => by
    have e : i = w.heap.size := e
    rcases hi with hi | hi <;> omega
  have hs3 := hq3.size
  have hS3 := HP.out.sys.below hbw3
  have HNF := Lib.hid (show ∀ (A : Option Addr) (m : Nat) (xs : List Value), Reads w3 B 1 A m xs → ∀ ad, A = some ad → 0 < m → ¬ F ad.block from fun A m xs hr ad e hm hf => by
    obtain ⟨ad', e', hb', _⟩ := hr.2 hm
    rw [e] at e'; injection e' with e'
    have h1 : base ≤ ad.block := by obtain ⟨_, _, _, _, h4, _⟩ := HP.out.sys; exact h4 _ hf
    rw [e'] at h1; omega)
  have hsy3 := rename_any base sb mb n F st nm ot w3 hS3 hs hs2 (by unfold maxLen; omega)
  unfold set3 at hw3
  rw [← hw3]
  clear hw3 u0 u1 u2 x0 x1 x2 hk2 hkc2 hk02 hq3 hF2
  have a0 := hkc3.cell 0
  have a1 := hkc3.cell 1
  have a2 := hkc3.cell 2
  have a3 := hkc3.cell 3
  have a4 := hkc3.cell 4
  have a5 := hkc3.cell 5
  simp only [List.getElem?_toArray, List.getElem?_cons_zero, List.getElem?_cons_succ] at a0 a1 a2 a3 a4 a5
  obtain ⟨ra, hra⟩ : ∃ ra, ra = stepA st ⟨4, x, nm, ot, data, keep⟩ := ⟨_, rfl⟩
  have hra2 : renameA st nm ot = ra := hra.symm
  rw [hra2] at hsy3
  have HS3 := HS2.out
  rw [← hra] at HS3
  have hcd : ra.2 = code := HS3.1
  rw [hcd] at hsy3
  have HRA := Lib.hid hra
  have HS4 := Lib.hid HS3
  clear hra hra2 HS3 hcd
  go_wp2_with fail
  refine hsy3.mono ?_
  clear hsy3 a0 a1 a2 a3 a4 a5
  rintro e w4 ⟨rfl, hS4, hK4⟩
  have hnF : ∀ j, w.heap.size ≤ j → ¬ F j := fun j hj hf => by have := HP.out.cap j hf; omega
  have hk4 := hk3.kept hK4 (hnF _ (Nat.le_refl _))
  have hk04 := hk03.kept hK4 (hnF _ (by omega))
  have hK04 : Kept F w w3 := (Kept.of_below (F := F) hbw3)
  have x0 := hk4.cell 0
  have x1 := hk4.cell 1
  have x2 := hk4.cell 2
  simp only [List.getElem?_toArray, List.getElem?_cons_zero, List.getElem?_cons_succ] at x0 x1 x2
  have z0 := hk04.cell 0
  have z1 := hk04.cell 1
  have z2 := hk04.cell 2
  simp only [List.getElem?_toArray, List.getElem?_cons_zero, List.getElem?_cons_succ] at z0 z1 z2
  have y0 := hk04.frozen 0
  have y1 := hk04.frozen 1
  have y2 := hk04.frozen 2
  have hnum := num_errV code w4.drew
  obtain ⟨ev, hev⟩ : ∃ ev, ev = errV code := ⟨_, rfl⟩
  rw [← hev] at hnum ⊢
  have HEV := Lib.hid hev
  clear hev
  go_upto_region 25 with (fail)
  have hne9 : ¬ (w.heap.size = w.heap.size + 1 + 1) := by omega
  have hne8 : ¬ (w.heap.size + 1 + 1 = w.heap.size) := by omega
  go_region_held3 (fun w' => w'.cell? ⟨w.heap.size, 0, none⟩ = some (.slice A2 l2.length c2) ∧ w'.cell? ⟨w.heap.size, 1, none⟩ = some (.int .i64 le2) ∧ w'.cell? ⟨w.heap.size, 2, none⟩ = some (.bool of2))
    (first | go_keep | assumption)
    (first | (go_at_call 32; refine hnum.mono ?_; rintro e w5 ⟨rfl, rfl⟩))
  obtain ⟨wF, hwF⟩ : ∃ wF, wF = (set3 w4 (w.heap.size + 2) (.slice A2 l2.length c2) (.int .i64 le2) (.bool of2)).drew := ⟨_, rfl⟩
  have hkF : Blk wF (w.heap.size + 2) 52 #[(.slice A2 l2.length c2 : Value), (.int .i64 le2 : Value), (.bool of2 : Value)] := by rw [hwF]; exact (set3_blk hk04 _ _ _).drew
  have hKF : Kept (fun i => i = w.heap.size + 2) w4 wF := by
    rw [hwF]
    exact (set3_kept w4 (w.heap.size + 2) _ _ _).trans (Kept.of_below (Below.refl _ _).drew)
  have f0 := hkF.cell 0
  have f1 := hkF.cell 1
  have f2 := hkF.cell 2
  simp only [List.getElem?_toArray, List.getElem?_cons_zero, List.getElem?_cons_succ] at f0 f1 f2
  unfold set3 at hwF
  rw [← hwF]
  clear hwF x0 x1 x2 z0 z1 z2 y0 y1 y2 hnum
  go_wp2_with fail
  have hRR := HR.out
  have HSR : Op2 (stepA st ⟨4, x, nm, ot, data, keep⟩) (⟨fs2, le2, of2⟩, code) := by rw [hRR]; exact HST.out
  have hend := step_end (y' := ⟨fs2, le2, of2⟩) (n := n) (st' := (stepA st ⟨4, x, nm, ot, data, keep⟩).1) HP.out.cap HP.out.gF hK04 hsk (Nat.le_trans hs2' hs3) hF3 HL2.out (by rw [← HRA.out]; exact hS4) (by omega) hK4 hKF HSR.2 HINV.out
  refine bodyPost_ret (v := .tuple #[.agg #[(.slice A2 l2.length c2 : Value), (.int .i64 le2 : Value), (.bool of2 : Value)], .bool true]) (by simp [results, Try.results25, go_sem, f0, f1, f2]) rfl ?_
  obtain ⟨hKK, F', G', hP', h1, h2⟩ := hend
  refine ⟨_, rfl, hKK, F', G', ?_, h1, h2⟩
  rw [← hRR]
  exact hP'
set_option maxRecDepth 100000 in
set_option maxHeartbeats 4000000 in
theorem step_5 {w : World} {base : Nat} {F : Nat → Prop} {sb mb n : Nat} {G : Nat → Prop} {st : AS} {v : Value} {y : RY} (h : PlS w base F sb mb n G st v y) (hn9 : n ≤ 800000) (k x : Int) (nm ot : ByteArray) (Ad : Option Addr) (nd cd : Nat) (Ak : Option Addr) (mk ck B : Nat) (data : List UInt8) (keep : List Int)
    (hk : kindI k = 5) (hx : -9223372036854775808 ≤ x ∧ x ≤ 9223372036854775807) (hs : nm.size ≤ maxLen) (hs2 : ot.size ≤ maxLen) (hrd : Reads w B 1 Ad nd (data.map byteV)) (hdl : data.length = nd) (hnd : nd ≤ 1000000) (hrk : Reads w B 1 Ak mk (keep.map (Value.int .i64))) (hkl : keep.length = mk) (hmk : mk ≤ 1000000) (hmc : mk ≤ ck) (hkb : ∀ k ∈ keep, -9223372036854775808 ≤ k ∧ k ≤ 9223372036854775807) (hB : B ≤ base) :
    Calls Try.prog 25 #[.pointer (some ⟨sb, 0, none⟩), v, actV k x nm ot Ad nd cd Ak mk ck] w (StE w base F G sb mb n st y ⟨5, x, nm, ot, data, keep⟩) := by
  have hbs := h.sys.base_le
  have hstep := step_law h.str ⟨5, x, nm, ot, data, keep⟩ hx.2
  have hinv := inv_step h.inv ⟨5, x, nm, ot, data, keep⟩
  obtain ⟨hris, hsy⟩ := h.sys.files_ok
  have hlen : st.files.length ≤ 800000 := Nat.le_trans h.inv.1 hn9
  rw [h.str.files] at hris hsy
  have hyl : y.files.length ≤ 800000 := by rw [← h.str.files]; exact hlen
  obtain ⟨fv, l, rfl, hF, hl⟩ := h.ry
  have hll : l.length ≤ 800000 := by rw [← List.length_map (f := Prod.fst), hl]; exact hyl
  obtain ⟨hka, hkact, hkb0, hba⟩ := tri_blk w fv (.int .i64 y.left) (.bool y.off) (.int .i64 k) (.int .i64 x) (.string nm) (.string ot) (.slice Ad nd cd) (.slice Ak mk ck)
  obtain ⟨wa, hwa⟩ : ∃ wa, wa = tri w fv (.int .i64 y.left) (.bool y.off) (.int .i64 k) (.int .i64 x) (.string nm) (.string ot) (.slice Ad nd cd) (.slice Ak mk ck) := ⟨_, rfl⟩
  rw [← hwa] at hka hkact hkb0 hba
  have hsa : w.heap.size + 3 ≤ wa.heap.size := by rw [hwa]; simp [tri]
  have hkd := kind_any k x nm ot Ad nd cd Ak mk ck wa
  obtain ⟨A, c, rfl, hc⟩ := hF.slice
  have hlo := h.str.lo
  have hhi := h.str.hi
  unfold tri at hwa
  have HWA := Lib.hid hwa
  have HST := Lib.hid hstep
  have HINV := Lib.hid hinv
  have HRIS := Lib.hid hris
  have HSY := Lib.hid hsy
  have HB := Lib.hid hba
  have HKA := Lib.hid hka
  have HKC := Lib.hid hkact
  have HK0 := Lib.hid hkb0
  have HSA := Lib.hid hsa
  have HP := Lib.hid h
  have HL := Lib.hid hl
  have HDL := Lib.hid hdl
  have HKL := Lib.hid hkl
  have HKBD := Lib.hid hkb
  have HF0 := Lib.hid (show FsM (fun i => G i ∧ i < w.heap.size) w (.slice A l.length c) l from hF.mono fun i hi hg => ⟨hg, hi⟩)
  have HRD := Lib.hid (show ∀ w', Below w.heap.size w w' → Reads w' B 1 Ad nd (data.map byteV) from fun w' hb => hrd.below (hb.mono (by omega)))
  have HRK := Lib.hid (show ∀ w', Below w.heap.size w w' → Reads w' B 1 Ak mk (keep.map (Value.int .i64)) from fun w' hb => hrk.below (hb.mono (by omega)))
  have a0 := hkact.cell 0
  have a1 := hkact.cell 1
  have a2 := hkact.cell 2
  have a3 := hkact.cell 3
  have a4 := hkact.cell 4
  have a5 := hkact.cell 5
  simp only [List.getElem?_toArray, List.getElem?_cons_zero, List.getElem?_cons_succ] at a0 a1 a2 a3 a4 a5
  unfold actV at hkd ⊢
  rw [hk] at hkd
  have HKK := Lib.hid hk
  clear hwa hstep hinv hris hsy hba hka hkact hkb0 h hl hdl hkl hkb hF hrd hrk hk
  go_enter Try.func25, Try.ntmps25
  go_upto_region 3 with (fail)
  rw [← HWA.out]
  go_wp2_with fail
  refine hkd.mono ?_
  clear hkd a0 a1 a2 a3 a4 a5
  rintro e wk ⟨rfl, hbk⟩
  have hk1 := HKA.out.below hbk HKA.out.lt
  have hkc := HKC.out.below hbk HKC.out.lt
  have hk0 := HK0.out.below hbk HK0.out.lt
  have hbwk := HB.out.trans (hbk.mono HB.out.size)
  have hsk : w.heap.size + 2 < wk.heap.size := by have := HSA.out; have := hbk.size; omega
  have hFk := HF0.out.below hbwk
  have x0 := hk1.cell 0
  have x1 := hk1.cell 1
  have x2 := hk1.cell 2
  simp only [List.getElem?_toArray, List.getElem?_cons_zero, List.getElem?_cons_succ] at x0 x1 x2
  have a0 := hkc.cell 0
  have a1 := hkc.cell 1
  have a2 := hkc.cell 2
  have a3 := hkc.cell 3
  have a4 := hkc.cell 4
  have a5 := hkc.cell 5
  simp only [List.getElem?_toArray, List.getElem?_cons_zero, List.getElem?_cons_succ] at a0 a1 a2 a3 a4 a5
  have hrf := rremove_any _ _ l y nm wk hFk HL.out HRIS.out (by omega) hs hlo hhi HSY.out
  have hst2 := HST.out
  have hstep2 : Op2 (stepA st ⟨5, x, nm, ot, data, keep⟩) (stepY y ⟨5, x, nm, ot, data, keep⟩) := hst2
  clear hst2
  obtain ⟨r, hr⟩ : ∃ r, r = stepY y ⟨5, x, nm, ot, data, keep⟩ := ⟨_, rfl⟩
  have hr2 : rRemove y nm = r := hr.symm
  rw [hr2] at hrf
  rw [← hr] at hstep2
  have HR := Lib.hid hr
  have HS2 := Lib.hid hstep2
  clear hr hr2 hstep2
  go_wp2_with fail
  refine hrf.mono ?_
  clear hrf x0 x1 x2
  rintro e w2 ⟨v2, rfl, ⟨fv2, l2, rfl, hF2, hl2⟩, hb2⟩
  obtain ⟨A2, c2, rfl, hc2⟩ := hF2.slice
  have hk2 := hk1.below hb2 hk1.lt
  have hkc2 := hkc.below hb2 hkc.lt
  have hk02 := hk0.below hb2 hk0.lt
  have hbw2 := hbwk.trans (hb2.mono hbwk.size)
  have hs2' := hb2.size
  obtain ⟨⟨fs2, le2, of2⟩, code⟩ := r
  simp only at hl2
  have HL2 := Lib.hid hl2
  clear hl2 a0 a1 a2 a3 a4 a5 hk1 hkc hk0 hFk
  have x0 := hk2.cell 0
  have x1 := hk2.cell 1
  have x2 := hk2.cell 2
  simp only [List.getElem?_toArray, List.getElem?_cons_zero, List.getElem?_cons_succ] at x0 x1 x2
  have u0 := hk2.frozen 0
  have u1 := hk2.frozen 1
  have u2 := hk2.frozen 2
  go_upto_region 21 with (fail)
  obtain ⟨w3, hw3⟩ : ∃ w3, w3 = set3 w2 w.heap.size (.slice A2 l2.length c2) (.int .i64 le2) (.bool of2) := ⟨_, rfl⟩
  have hk3 : Blk w3 w.heap.size 52 #[.slice A2 l2.length c2, .int .i64 le2, .bool of2] := by rw [hw3]; exact set3_blk hk2 _ _ _
  have hq3 : Kept (fun i => i = w.heap.size) w2 w3 := by rw [hw3]; exact set3_kept _ _ _ _ _
  have hkc3 := hkc2.kept hq3 (show ¬ (w.heap.size + 1 = w.heap.size) by omega)
  have hk03 := hk02.kept hq3 (show ¬ (w.heap.size + 2 = w.heap.size) by omega)
  have hbw3 : Below w.heap.size w w3 := hq3.below hbw2 hbw2.size fun i hi => by have : i = w.heap.size := hi; omega
  have hF3 := hF2.keptF hq3 fun i _ hi e => by
    have e : i = w.heap.size := e
    rcases hi with hi | hi <;> omega
  have hs3 := hq3.size
  have hS3 := HP.out.sys.below hbw3
  have HNF := Lib.hid (show ∀ (A : Option Addr) (m : Nat) (xs : List Value), Reads w3 B 1 A m xs → ∀ ad, A = some ad → 0 < m → ¬ F ad.block from fun A m xs hr ad e hm hf => by
    obtain ⟨ad', e', hb', _⟩ := hr.2 hm
    rw [e] at e'; injection e' with e'
    have h1 : base ≤ ad.block := by obtain ⟨_, _, _, _, h4, _⟩ := HP.out.sys; exact h4 _ hf
    rw [e'] at h1; omega)
  have hsy3 := remove_any base sb mb n F st nm w3 hS3 hs
  unfold set3 at hw3
  rw [← hw3]
  clear hw3 u0 u1 u2 x0 x1 x2 hk2 hkc2 hk02 hq3 hF2
  have a0 := hkc3.cell 0
  have a1 := hkc3.cell 1
  have a2 := hkc3.cell 2
  have a3 := hkc3.cell 3
  have a4 := hkc3.cell 4
  have a5 := hkc3.cell 5
  simp only [List.getElem?_toArray, List.getElem?_cons_zero, List.getElem?_cons_succ] at a0 a1 a2 a3 a4 a5
  obtain ⟨ra, hra⟩ : ∃ ra, ra = stepA st ⟨5, x, nm, ot, data, keep⟩ := ⟨_, rfl⟩
  have hra2 : removeA st nm = ra := hra.symm
  rw [hra2] at hsy3
  have HS3 := HS2.out
  rw [← hra] at HS3
  have hcd : ra.2 = code := HS3.1
  rw [hcd] at hsy3
  have HRA := Lib.hid hra
  have HS4 := Lib.hid HS3
  clear hra hra2 HS3 hcd
  go_wp2_with fail
  refine hsy3.mono ?_
  clear hsy3 a0 a1 a2 a3 a4 a5
  rintro e w4 ⟨rfl, hS4, hK4⟩
  have hnF : ∀ j, w.heap.size ≤ j → ¬ F j := fun j hj hf => by have := HP.out.cap j hf; omega
  have hk4 := hk3.kept hK4 (hnF _ (Nat.le_refl _))
  have hk04 := hk03.kept hK4 (hnF _ (by omega))
  have hK04 : Kept F w w3 := (Kept.of_below (F := F) hbw3)
  have x0 := hk4.cell 0
  have x1 := hk4.cell 1
  have x2 := hk4.cell 2
  simp only [List.getElem?_toArray, List.getElem?_cons_zero, List.getElem?_cons_succ] at x0 x1 x2
  have z0 := hk04.cell 0
  have z1 := hk04.cell 1
  have z2 := hk04.cell 2
  simp only [List.getElem?_toArray, List.getElem?_cons_zero, List.getElem?_cons_succ] at z0 z1 z2
  have y0 := hk04.frozen 0
  have y1 := hk04.frozen 1
  have y2 := hk04.frozen 2
  have hnum := num_errV code w4.drew
  obtain ⟨ev, hev⟩ : ∃ ev, ev = errV code := ⟨_, rfl⟩
  rw [← hev] at hnum ⊢
  have HEV := Lib.hid hev
  clear hev
  go_upto_region 25 with (fail)
  have hne9 : ¬ (w.heap.size = w.heap.size + 1 + 1) := by omega
  have hne8 : ¬ (w.heap.size + 1 + 1 = w.heap.size) := by omega
  go_region_held3 (fun w' => w'.cell? ⟨w.heap.size, 0, none⟩ = some (.slice A2 l2.length c2) ∧ w'.cell? ⟨w.heap.size, 1, none⟩ = some (.int .i64 le2) ∧ w'.cell? ⟨w.heap.size, 2, none⟩ = some (.bool of2))
    (first | go_keep | assumption)
    (first | (go_at_call 32; refine hnum.mono ?_; rintro e w5 ⟨rfl, rfl⟩))
  obtain ⟨wF, hwF⟩ : ∃ wF, wF = (set3 w4 (w.heap.size + 2) (.slice A2 l2.length c2) (.int .i64 le2) (.bool of2)).drew := ⟨_, rfl⟩
  have hkF : Blk wF (w.heap.size + 2) 52 #[(.slice A2 l2.length c2 : Value), (.int .i64 le2 : Value), (.bool of2 : Value)] := by rw [hwF]; exact (set3_blk hk04 _ _ _).drew
  have hKF : Kept (fun i => i = w.heap.size + 2) w4 wF := by
    rw [hwF]
    exact (set3_kept w4 (w.heap.size + 2) _ _ _).trans (Kept.of_below (Below.refl _ _).drew)
  have f0 := hkF.cell 0
  have f1 := hkF.cell 1
  have f2 := hkF.cell 2
  simp only [List.getElem?_toArray, List.getElem?_cons_zero, List.getElem?_cons_succ] at f0 f1 f2
  unfold set3 at hwF
  rw [← hwF]
  clear hwF x0 x1 x2 z0 z1 z2 y0 y1 y2 hnum
  go_wp2_with fail
  have hRR := HR.out
  have HSR : Op2 (stepA st ⟨5, x, nm, ot, data, keep⟩) (⟨fs2, le2, of2⟩, code) := by rw [hRR]; exact HST.out
  have hend := step_end (y' := ⟨fs2, le2, of2⟩) (n := n) (st' := (stepA st ⟨5, x, nm, ot, data, keep⟩).1) HP.out.cap HP.out.gF hK04 hsk (Nat.le_trans hs2' hs3) hF3 HL2.out (by rw [← HRA.out]; exact hS4) (by omega) hK4 hKF HSR.2 HINV.out
  refine bodyPost_ret (v := .tuple #[.agg #[(.slice A2 l2.length c2 : Value), (.int .i64 le2 : Value), (.bool of2 : Value)], .bool true]) (by simp [results, Try.results25, go_sem, f0, f1, f2]) rfl ?_
  obtain ⟨hKK, F', G', hP', h1, h2⟩ := hend
  refine ⟨_, rfl, hKK, F', G', ?_, h1, h2⟩
  rw [← hRR]
  exact hP'
set_option maxRecDepth 100000 in
set_option maxHeartbeats 4000000 in
theorem step_6 {w : World} {base : Nat} {F : Nat → Prop} {sb mb n : Nat} {G : Nat → Prop} {st : AS} {v : Value} {y : RY} (h : PlS w base F sb mb n G st v y) (hn9 : n ≤ 800000) (k x : Int) (nm ot : ByteArray) (Ad : Option Addr) (nd cd : Nat) (Ak : Option Addr) (mk ck B : Nat) (data : List UInt8) (keep : List Int)
    (hk : kindI k = 6) (hx : -9223372036854775808 ≤ x ∧ x ≤ 9223372036854775807) (hs : nm.size ≤ maxLen) (hs2 : ot.size ≤ maxLen) (hrd : Reads w B 1 Ad nd (data.map byteV)) (hdl : data.length = nd) (hnd : nd ≤ 1000000) (hrk : Reads w B 1 Ak mk (keep.map (Value.int .i64))) (hkl : keep.length = mk) (hmk : mk ≤ 1000000) (hmc : mk ≤ ck) (hkb : ∀ k ∈ keep, -9223372036854775808 ≤ k ∧ k ≤ 9223372036854775807) (hB : B ≤ base) :
    Calls Try.prog 25 #[.pointer (some ⟨sb, 0, none⟩), v, actV k x nm ot Ad nd cd Ak mk ck] w (StE w base F G sb mb n st y ⟨6, x, nm, ot, data, keep⟩) := by
  have hbs := h.sys.base_le
  have hstep := step_law h.str ⟨6, x, nm, ot, data, keep⟩ hx.2
  have hinv := inv_step h.inv ⟨6, x, nm, ot, data, keep⟩
  obtain ⟨hris, hsy⟩ := h.sys.files_ok
  have hlen : st.files.length ≤ 800000 := Nat.le_trans h.inv.1 hn9
  rw [h.str.files] at hris hsy
  have hyl : y.files.length ≤ 800000 := by rw [← h.str.files]; exact hlen
  obtain ⟨fv, l, rfl, hF, hl⟩ := h.ry
  have hll : l.length ≤ 800000 := by rw [← List.length_map (f := Prod.fst), hl]; exact hyl
  obtain ⟨hka, hkact, hkb0, hba⟩ := tri_blk w fv (.int .i64 y.left) (.bool y.off) (.int .i64 k) (.int .i64 x) (.string nm) (.string ot) (.slice Ad nd cd) (.slice Ak mk ck)
  obtain ⟨wa, hwa⟩ : ∃ wa, wa = tri w fv (.int .i64 y.left) (.bool y.off) (.int .i64 k) (.int .i64 x) (.string nm) (.string ot) (.slice Ad nd cd) (.slice Ak mk ck) := ⟨_, rfl⟩
  rw [← hwa] at hka hkact hkb0 hba
  have hsa : w.heap.size + 3 ≤ wa.heap.size := by rw [hwa]; simp [tri]
  have hkd := kind_any k x nm ot Ad nd cd Ak mk ck wa
  obtain ⟨A, c, rfl, hc⟩ := hF.slice
  have hlo := h.str.lo
  have hhi := h.str.hi
  unfold tri at hwa
  have HWA := Lib.hid hwa
  have HST := Lib.hid hstep
  have HINV := Lib.hid hinv
  have HRIS := Lib.hid hris
  have HSY := Lib.hid hsy
  have HB := Lib.hid hba
  have HKA := Lib.hid hka
  have HKC := Lib.hid hkact
  have HK0 := Lib.hid hkb0
  have HSA := Lib.hid hsa
  have HP := Lib.hid h
  have HL := Lib.hid hl
  have HDL := Lib.hid hdl
  have HKL := Lib.hid hkl
  have HKBD := Lib.hid hkb
  have HF0 := Lib.hid (show FsM (fun i => G i ∧ i < w.heap.size) w (.slice A l.length c) l from hF.mono fun i hi hg => ⟨hg, hi⟩)
  have HRD := Lib.hid (show ∀ w', Below w.heap.size w w' → Reads w' B 1 Ad nd (data.map byteV) from fun w' hb => hrd.below (hb.mono (by omega)))
  have HRK := Lib.hid (show ∀ w', Below w.heap.size w w' → Reads w' B 1 Ak mk (keep.map (Value.int .i64)) from fun w' hb => hrk.below (hb.mono (by omega)))
  have a0 := hkact.cell 0
  have a1 := hkact.cell 1
  have a2 := hkact.cell 2
  have a3 := hkact.cell 3
  have a4 := hkact.cell 4
  have a5 := hkact.cell 5
  simp only [List.getElem?_toArray, List.getElem?_cons_zero, List.getElem?_cons_succ] at a0 a1 a2 a3 a4 a5
  unfold actV at hkd ⊢
  rw [hk] at hkd
  have HKK := Lib.hid hk
  clear hwa hstep hinv hris hsy hba hka hkact hkb0 h hl hdl hkl hkb hF hrd hrk hk
  go_enter Try.func25, Try.ntmps25
  go_upto_region 3 with (fail)
  rw [← HWA.out]
  go_wp2_with fail
  refine hkd.mono ?_
  clear hkd a0 a1 a2 a3 a4 a5
  rintro e wk ⟨rfl, hbk⟩
  have hk1 := HKA.out.below hbk HKA.out.lt
  have hkc := HKC.out.below hbk HKC.out.lt
  have hk0 := HK0.out.below hbk HK0.out.lt
  have hbwk := HB.out.trans (hbk.mono HB.out.size)
  have hsk : w.heap.size + 2 < wk.heap.size := by have := HSA.out; have := hbk.size; omega
  have hFk := HF0.out.below hbwk
  have x0 := hk1.cell 0
  have x1 := hk1.cell 1
  have x2 := hk1.cell 2
  simp only [List.getElem?_toArray, List.getElem?_cons_zero, List.getElem?_cons_succ] at x0 x1 x2
  have a0 := hkc.cell 0
  have a1 := hkc.cell 1
  have a2 := hkc.cell 2
  have a3 := hkc.cell 3
  have a4 := hkc.cell 4
  have a5 := hkc.cell 5
  simp only [List.getElem?_toArray, List.getElem?_cons_zero, List.getElem?_cons_succ] at a0 a1 a2 a3 a4 a5
  have hyl2 : y.left ≤ 9223372036854775807 := hhi
  obtain ⟨w2, rfl⟩ : ∃ w2, w2 = wk := ⟨_, rfl⟩
  have hk2 := hk1
  have hkc2 := hkc
  have hk02 := hk0
  have hbw2 := hbwk
  have hF2 : FsM (UpG (fun i => G i ∧ i < w.heap.size) w2.heap.size) w2 (.slice A l.length c) l := hFk.mono fun _ _ h => .inl h
  have hs2' : w2.heap.size ≤ w2.heap.size := Nat.le_refl _
  have u0 := hk2.frozen 0
  have u1 := hk2.frozen 1
  have u2 := hk2.frozen 2
  go_upto_region 24 with (fail)
  obtain ⟨le2, hle2⟩ : ∃ le2, le2 = max x (-1) := ⟨_, rfl⟩
  obtain ⟨w3, hw3⟩ : ∃ w3, w3 = w2.setCell ⟨w.heap.size, 1, none⟩ (.int .i64 (max x (-1))) := ⟨_, rfl⟩
  have hk3 := hk2.set_ 1 (.int .i64 (max x (-1)))
  rw [← hw3] at hk3
  simp only [List.setIfInBounds_toArray, List.set_cons_succ, List.set_cons_zero] at hk3
  rw [← hle2] at hk3
  have HLE := Lib.hid hle2
  have hq3 : Kept (fun i => i = w.heap.size) w2 w3 := by rw [hw3]; exact kept_set w2 w.heap.size 1 _
  clear hle2
  have hkc3 := hkc2.kept hq3 (show ¬ (w.heap.size + 1 = w.heap.size) by omega)
  have hk03 := hk02.kept hq3 (show ¬ (w.heap.size + 2 = w.heap.size) by omega)
  have hbw3 : Below w.heap.size w w3 := hq3.below hbw2 hbw2.size fun i hi => by have : i = w.heap.size := hi; omega
  have hF3 := hF2.keptF hq3 fun i _ hi e => by
    have e : i = w.heap.size := e
    rcases hi with hi | hi <;> omega
  have hs3 := hq3.size
  have hS3 := HP.out.sys.below hbw3
  have HNF := Lib.hid (show ∀ (A : Option Addr) (m : Nat) (xs : List Value), Reads w3 B 1 A m xs → ∀ ad, A = some ad → 0 < m → ¬ F ad.block from fun A m xs hr ad e hm hf => by
    obtain ⟨ad', e', hb', _⟩ := hr.2 hm
    rw [e] at e'; injection e' with e'
    have h1 : base ≤ ad.block := by obtain ⟨_, _, _, _, h4, _⟩ := HP.out.sys; exact h4 _ hf
    rw [e'] at h1; omega)
  have hsy3 := fail_any base sb mb n F st x w3 hS3 hx.2
  rw [← hw3]
  clear hw3 u0 u1 u2 x0 x1 x2 a0 a1 a2 a3 a4 a5 hk2 hkc2 hk02 hq3 hk1 hkc hk0 hF2
  have a0 := hkc3.cell 0
  have a1 := hkc3.cell 1
  have a2 := hkc3.cell 2
  have a3 := hkc3.cell 3
  have a4 := hkc3.cell 4
  have a5 := hkc3.cell 5
  simp only [List.getElem?_toArray, List.getElem?_cons_zero, List.getElem?_cons_succ] at a0 a1 a2 a3 a4 a5
  go_wp2_with fail
  refine hsy3.mono ?_
  clear hsy3 a0 a1 a2 a3 a4 a5
  rintro e w4 ⟨rfl, hS4, hK4⟩
  have hnF : ∀ j, w.heap.size ≤ j → ¬ F j := fun j hj hf => by have := HP.out.cap j hf; omega
  have hk4 := hk3.kept hK4 (hnF _ (Nat.le_refl _))
  have hk04 := hk03.kept hK4 (hnF _ (by omega))
  have hK04 : Kept F w w3 := (Kept.of_below (F := F) hbw3)
  have x0 := hk4.cell 0
  have x1 := hk4.cell 1
  have x2 := hk4.cell 2
  simp only [List.getElem?_toArray, List.getElem?_cons_zero, List.getElem?_cons_succ] at x0 x1 x2
  have z0 := hk04.cell 0
  have z1 := hk04.cell 1
  have z2 := hk04.cell 2
  simp only [List.getElem?_toArray, List.getElem?_cons_zero, List.getElem?_cons_succ] at z0 z1 z2
  have y0 := hk04.frozen 0
  have y1 := hk04.frozen 1
  have y2 := hk04.frozen 2
  have hnum := num_errV 0 w4.drew
  rw [errV_zero] at hnum
  go_upto_region 25 with (fail)
  have hne9 : ¬ (w.heap.size = w.heap.size + 1 + 1) := by omega
  have hne8 : ¬ (w.heap.size + 1 + 1 = w.heap.size) := by omega
  go_region_held3 (fun w' => w'.cell? ⟨w.heap.size, 0, none⟩ = some (.slice A l.length c) ∧ w'.cell? ⟨w.heap.size, 1, none⟩ = some (.int .i64 le2) ∧ w'.cell? ⟨w.heap.size, 2, none⟩ = some (.bool y.off))
    (first | go_keep | assumption)
    (first | (go_at_call 32; refine hnum.mono ?_; rintro e w5 ⟨rfl, rfl⟩))
  obtain ⟨wF, hwF⟩ : ∃ wF, wF = (set3 w4 (w.heap.size + 2) (.slice A l.length c) (.int .i64 le2) (.bool y.off)).drew := ⟨_, rfl⟩
  have hkF : Blk wF (w.heap.size + 2) 52 #[(.slice A l.length c : Value), (.int .i64 le2 : Value), (.bool y.off : Value)] := by rw [hwF]; exact (set3_blk hk04 _ _ _).drew
  have hKF : Kept (fun i => i = w.heap.size + 2) w4 wF := by
    rw [hwF]
    exact (set3_kept w4 (w.heap.size + 2) _ _ _).trans (Kept.of_below (Below.refl _ _).drew)
  have f0 := hkF.cell 0
  have f1 := hkF.cell 1
  have f2 := hkF.cell 2
  simp only [List.getElem?_toArray, List.getElem?_cons_zero, List.getElem?_cons_succ] at f0 f1 f2
  unfold set3 at hwF
  rw [← hwF]
  clear hwF x0 x1 x2 z0 z1 z2 y0 y1 y2 hnum
  go_wp2_with fail
  have hend := step_end (y' := ⟨y.files, le2, y.off⟩) (n := n) (st' := failA st x) HP.out.cap HP.out.gF hK04 hsk (Nat.le_trans hs2' hs3) hF3 HL.out (hS4.grow (fun i hi => .inl hi) (fun i hi => by
    rcases hi with h | h
    · obtain ⟨_, _, _, _, h4, _⟩ := hS4; exact h4 _ h
    · have := hbw3.size; omega)) (by omega) hK4 hKF (by rw [HLE.out]; exact fail_law HP.out.str x hx.2) HINV.out
  refine bodyPost_ret (v := .tuple #[.agg #[(.slice A l.length c : Value), (.int .i64 le2 : Value), (.bool y.off : Value)], .bool true]) (by simp [results, Try.results25, go_sem, f0, f1, f2]) rfl ?_
  obtain ⟨hKK, F', G', hP', h1, h2⟩ := hend
  refine ⟨_, rfl, hKK, F', G', ?_, h1, h2⟩
  have e : (stepY y ⟨6, x, nm, ot, data, keep⟩).1 = ⟨y.files, le2, y.off⟩ := by rw [HLE.out]; rfl
  rw [e]
  exact hP'
set_option maxRecDepth 100000 in
set_option maxHeartbeats 4000000 in
theorem step_7 {w : World} {base : Nat} {F : Nat → Prop} {sb mb n : Nat} {G : Nat → Prop} {st : AS} {v : Value} {y : RY} (h : PlS w base F sb mb n G st v y) (hn9 : n ≤ 800000) (k x : Int) (nm ot : ByteArray) (Ad : Option Addr) (nd cd : Nat) (Ak : Option Addr) (mk ck B : Nat) (data : List UInt8) (keep : List Int)
    (hk : kindI k = 7) (hx : -9223372036854775808 ≤ x ∧ x ≤ 9223372036854775807) (hs : nm.size ≤ maxLen) (hs2 : ot.size ≤ maxLen) (hrd : Reads w B 1 Ad nd (data.map byteV)) (hdl : data.length = nd) (hnd : nd ≤ 1000000) (hrk : Reads w B 1 Ak mk (keep.map (Value.int .i64))) (hkl : keep.length = mk) (hmk : mk ≤ 1000000) (hmc : mk ≤ ck) (hkb : ∀ k ∈ keep, -9223372036854775808 ≤ k ∧ k ≤ 9223372036854775807) (hB : B ≤ base) :
    Calls Try.prog 25 #[.pointer (some ⟨sb, 0, none⟩), v, actV k x nm ot Ad nd cd Ak mk ck] w (StE w base F G sb mb n st y ⟨7, x, nm, ot, data, keep⟩) := by
  have hbs := h.sys.base_le
  have hstep := step_law h.str ⟨7, x, nm, ot, data, keep⟩ hx.2
  have hinv := inv_step h.inv ⟨7, x, nm, ot, data, keep⟩
  obtain ⟨hris, hsy⟩ := h.sys.files_ok
  have hlen : st.files.length ≤ 800000 := Nat.le_trans h.inv.1 hn9
  rw [h.str.files] at hris hsy
  have hyl : y.files.length ≤ 800000 := by rw [← h.str.files]; exact hlen
  obtain ⟨fv, l, rfl, hF, hl⟩ := h.ry
  have hll : l.length ≤ 800000 := by rw [← List.length_map (f := Prod.fst), hl]; exact hyl
  obtain ⟨hka, hkact, hkb0, hba⟩ := tri_blk w fv (.int .i64 y.left) (.bool y.off) (.int .i64 k) (.int .i64 x) (.string nm) (.string ot) (.slice Ad nd cd) (.slice Ak mk ck)
  obtain ⟨wa, hwa⟩ : ∃ wa, wa = tri w fv (.int .i64 y.left) (.bool y.off) (.int .i64 k) (.int .i64 x) (.string nm) (.string ot) (.slice Ad nd cd) (.slice Ak mk ck) := ⟨_, rfl⟩
  rw [← hwa] at hka hkact hkb0 hba
  have hsa : w.heap.size + 3 ≤ wa.heap.size := by rw [hwa]; simp [tri]
  have hkd := kind_any k x nm ot Ad nd cd Ak mk ck wa
  obtain ⟨A, c, rfl, hc⟩ := hF.slice
  have hlo := h.str.lo
  have hhi := h.str.hi
  unfold tri at hwa
  have HWA := Lib.hid hwa
  have HST := Lib.hid hstep
  have HINV := Lib.hid hinv
  have HRIS := Lib.hid hris
  have HSY := Lib.hid hsy
  have HB := Lib.hid hba
  have HKA := Lib.hid hka
  have HKC := Lib.hid hkact
  have HK0 := Lib.hid hkb0
  have HSA := Lib.hid hsa
  have HP := Lib.hid h
  have HL := Lib.hid hl
  have HDL := Lib.hid hdl
  have HKL := Lib.hid hkl
  have HKBD := Lib.hid hkb
  have HF0 := Lib.hid (show FsM (fun i => G i ∧ i < w.heap.size) w (.slice A l.length c) l from hF.mono fun i hi hg => ⟨hg, hi⟩)
  have HRD := Lib.hid (show ∀ w', Below w.heap.size w w' → Reads w' B 1 Ad nd (data.map byteV) from fun w' hb => hrd.below (hb.mono (by omega)))
  have HRK := Lib.hid (show ∀ w', Below w.heap.size w w' → Reads w' B 1 Ak mk (keep.map (Value.int .i64)) from fun w' hb => hrk.below (hb.mono (by omega)))
  have a0 := hkact.cell 0
  have a1 := hkact.cell 1
  have a2 := hkact.cell 2
  have a3 := hkact.cell 3
  have a4 := hkact.cell 4
  have a5 := hkact.cell 5
  simp only [List.getElem?_toArray, List.getElem?_cons_zero, List.getElem?_cons_succ] at a0 a1 a2 a3 a4 a5
  unfold actV at hkd ⊢
  rw [hk] at hkd
  have HKK := Lib.hid hk
  clear hwa hstep hinv hris hsy hba hka hkact hkb0 h hl hdl hkl hkb hF hrd hrk hk
  go_enter Try.func25, Try.ntmps25
  go_upto_region 3 with (fail)
  rw [← HWA.out]
  go_wp2_with fail
  refine hkd.mono ?_
  clear hkd a0 a1 a2 a3 a4 a5
  rintro e wk ⟨rfl, hbk⟩
  have hk1 := HKA.out.below hbk HKA.out.lt
  have hkc := HKC.out.below hbk HKC.out.lt
  have hk0 := HK0.out.below hbk HK0.out.lt
  have hbwk := HB.out.trans (hbk.mono HB.out.size)
  have hsk : w.heap.size + 2 < wk.heap.size := by have := HSA.out; have := hbk.size; omega
  have hFk := HF0.out.below hbwk
  have x0 := hk1.cell 0
  have x1 := hk1.cell 1
  have x2 := hk1.cell 2
  simp only [List.getElem?_toArray, List.getElem?_cons_zero, List.getElem?_cons_succ] at x0 x1 x2
  have a0 := hkc.cell 0
  have a1 := hkc.cell 1
  have a2 := hkc.cell 2
  have a3 := hkc.cell 3
  have a4 := hkc.cell 4
  have a5 := hkc.cell 5
  simp only [List.getElem?_toArray, List.getElem?_cons_zero, List.getElem?_cons_succ] at a0 a1 a2 a3 a4 a5
  have hrf := rcrash_any _ _ l y Ak mk ck B keep wk hFk HL.out (by omega) (HRK.out wk hbwk) (by omega) HKL.out hmk HKBD.out HSY.out
  go_wp2_with fail
  refine hrf.mono ?_
  clear hrf x0 x1 x2
  rintro e w2 ⟨v2, rfl, ⟨fv2, l2, rfl, hF2, hl2⟩, hb2⟩
  obtain ⟨A2, c2, rfl, hc2⟩ := hF2.slice
  have hk2 := hk1.below hb2 hk1.lt
  have hkc2 := hkc.below hb2 hkc.lt
  have hk02 := hk0.below hb2 hk0.lt
  have hbw2 := hbwk.trans (hb2.mono hbwk.size)
  have hs2' := hb2.size
  have HL2 := Lib.hid hl2
  clear hl2 a0 a1 a2 a3 a4 a5 hk1 hkc hk0 hFk
  unfold rCrash
  have x0 := hk2.cell 0
  have x1 := hk2.cell 1
  have x2 := hk2.cell 2
  simp only [List.getElem?_toArray, List.getElem?_cons_zero, List.getElem?_cons_succ] at x0 x1 x2
  have u0 := hk2.frozen 0
  have u1 := hk2.frozen 1
  have u2 := hk2.frozen 2
  go_upto_region 5 with (fail)
  obtain ⟨w3, hw3⟩ : ∃ w3, w3 = set3 w2 w.heap.size (.slice A2 l2.length c2) (.int .i64 (-1)) (.bool false) := ⟨_, rfl⟩
  have hk3 : Blk w3 w.heap.size 52 #[.slice A2 l2.length c2, .int .i64 (-1), .bool false] := by rw [hw3]; exact set3_blk hk2 _ _ _
  have hq3 : Kept (fun i => i = w.heap.size) w2 w3 := by rw [hw3]; exact set3_kept _ _ _ _ _
  have hkc3 := hkc2.kept hq3 (show ¬ (w.heap.size + 1 = w.heap.size) by omega)
  have hk03 := hk02.kept hq3 (show ¬ (w.heap.size + 2 = w.heap.size) by omega)
  have hbw3 : Below w.heap.size w w3 := hq3.below hbw2 hbw2.size fun i hi => by have : i = w.heap.size := hi; omega
  have hF3 := hF2.keptF hq3 fun i _ hi e => by
    have e : i = w.heap.size := e
    rcases hi with hi | hi <;> omega
  have hs3 := hq3.size
  have hS3 := HP.out.sys.below hbw3
  have HNF := Lib.hid (show ∀ (A : Option Addr) (m : Nat) (xs : List Value), Reads w3 B 1 A m xs → ∀ ad, A = some ad → 0 < m → ¬ F ad.block from fun A m xs hr ad e hm hf => by
    obtain ⟨ad', e', hb', _⟩ := hr.2 hm
    rw [e] at e'; injection e' with e'
    have h1 : base ≤ ad.block := by obtain ⟨_, _, _, _, h4, _⟩ := HP.out.sys; exact h4 _ hf
    rw [e'] at h1; omega)
  have HNF := Lib.hid (HNF.out Ak mk _ (HRK.out w3 hbw3))
  have hsy3 := crash_any base sb mb n F st Ak mk ck B keep w3 hS3 (HRK.out w3 hbw3) (by omega) HNF.out hmc (by omega) (fun f hf => by have := HP.out.inv.2 f hf; omega) HKBD.out (fun i hi => by have := HP.out.cap i hi; omega)
  unfold set3 at hw3
  rw [← hw3]
  clear hw3 u0 u1 u2 x0 x1 x2 hk2 hkc2 hk02 hq3 hF2
  have a0 := hkc3.cell 0
  have a1 := hkc3.cell 1
  have a2 := hkc3.cell 2
  have a3 := hkc3.cell 3
  have a4 := hkc3.cell 4
  have a5 := hkc3.cell 5
  simp only [List.getElem?_toArray, List.getElem?_cons_zero, List.getElem?_cons_succ] at a0 a1 a2 a3 a4 a5
  go_wp2_with fail
  refine hsy3.mono ?_
  clear hsy3 a0 a1 a2 a3 a4 a5
  rintro e w4 ⟨rfl, hS4, hK4⟩
  have hnF : ∀ j, w.heap.size ≤ j → ¬ F j := fun j hj hf => by have := HP.out.cap j hf; omega
  have hk4 := hk3.kept hK4 (hnF _ (Nat.le_refl _))
  have hk04 := hk03.kept hK4 (hnF _ (by omega))
  have hK04 : Kept F w w3 := (Kept.of_below (F := F) hbw3)
  have x0 := hk4.cell 0
  have x1 := hk4.cell 1
  have x2 := hk4.cell 2
  simp only [List.getElem?_toArray, List.getElem?_cons_zero, List.getElem?_cons_succ] at x0 x1 x2
  have z0 := hk04.cell 0
  have z1 := hk04.cell 1
  have z2 := hk04.cell 2
  simp only [List.getElem?_toArray, List.getElem?_cons_zero, List.getElem?_cons_succ] at z0 z1 z2
  have y0 := hk04.frozen 0
  have y1 := hk04.frozen 1
  have y2 := hk04.frozen 2
  have hnum := num_errV 0 w4.drew
  rw [errV_zero] at hnum
  go_upto_region 25 with (fail)
  have hne9 : ¬ (w.heap.size = w.heap.size + 1 + 1) := by omega
  have hne8 : ¬ (w.heap.size + 1 + 1 = w.heap.size) := by omega
  go_region_held3 (fun w' => w'.cell? ⟨w.heap.size, 0, none⟩ = some (.slice A2 l2.length c2) ∧ w'.cell? ⟨w.heap.size, 1, none⟩ = some (.int .i64 (-1)) ∧ w'.cell? ⟨w.heap.size, 2, none⟩ = some (.bool false))
    (first | go_keep | assumption)
    (first | (go_at_call 32; refine hnum.mono ?_; rintro e w5 ⟨rfl, rfl⟩))
  obtain ⟨wF, hwF⟩ : ∃ wF, wF = (set3 w4 (w.heap.size + 2) (.slice A2 l2.length c2) (.int .i64 (-1)) (.bool false)).drew := ⟨_, rfl⟩
  have hkF : Blk wF (w.heap.size + 2) 52 #[(.slice A2 l2.length c2 : Value), (.int .i64 (-1) : Value), (.bool false : Value)] := by rw [hwF]; exact (set3_blk hk04 _ _ _).drew
  have hKF : Kept (fun i => i = w.heap.size + 2) w4 wF := by
    rw [hwF]
    exact (set3_kept w4 (w.heap.size + 2) _ _ _).trans (Kept.of_below (Below.refl _ _).drew)
  have f0 := hkF.cell 0
  have f1 := hkF.cell 1
  have f2 := hkF.cell 2
  simp only [List.getElem?_toArray, List.getElem?_cons_zero, List.getElem?_cons_succ] at f0 f1 f2
  unfold set3 at hwF
  rw [← hwF]
  clear hwF x0 x1 x2 z0 z1 z2 y0 y1 y2 hnum
  go_wp2_with fail
  have hend := step_end (y' := rCrash y keep) (n := n) (st' := ⟨crashL st.files keep, false, false, 0⟩) HP.out.cap HP.out.gF hK04 hsk (Nat.le_trans hs2' hs3) hF3 HL2.out (hS4.grow (fun i hi => .inl hi) (fun i hi => by
    rcases hi with h | h
    · obtain ⟨_, _, _, _, h4, _⟩ := hS4; exact h4 _ h
    · have := hbw3.size; omega)) (by omega) hK4 hKF (crash_law HP.out.str keep) HINV.out
  refine bodyPost_ret (v := .tuple #[.agg #[(.slice A2 l2.length c2 : Value), (.int .i64 (-1) : Value), (.bool false : Value)], .bool true]) (by simp [results, Try.results25, go_sem, f0, f1, f2]) rfl ?_
  obtain ⟨hKK, F', G', hP', h1, h2⟩ := hend
  exact ⟨_, rfl, hKK, F', G', hP', h1, h2⟩
end Go.Proofs.Ythmbmecodddkeaa
