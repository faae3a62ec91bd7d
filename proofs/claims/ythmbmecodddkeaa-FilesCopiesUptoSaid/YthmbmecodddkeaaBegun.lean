/- The walks of the law's begun: a script on a new system, beside the reference; every act in one contract. -/
import Derived.Test.YthmbmecodddkeaaActs
import Derived.Test.YthmbmecodddkeaaAlive
namespace Go.Proofs.Ythmbmecodddkeaa
open Go.RowKit Go.WideMaps
def ActR.d (a : ActR) : ActD := ⟨(kindI a.k).toNat, a.x, a.nm, a.ot, a.data, a.keep⟩
def ActR.v (a : ActR) : Value := actV a.k a.x a.nm a.ot a.Ad a.nd a.cd a.Ak a.mm a.ck
theorem step_any {w w0 : World} {base : Nat} {F : Nat → Prop} {sb mb n : Nat} {G : Nat → Prop} {st : AS} {v : Value} {y : RY} (h : PlS w base F sb mb n G st v y) (hn9 : n ≤ 800000) (a : ActR) (ha : a.ok w0) (hb : Below w0.heap.size w0 w) (hB : w0.heap.size ≤ base) (hnd : a.nd ≤ 1000000) (hmk : a.mm ≤ 1000000) :
    Calls Try.prog 25 #[.pointer (some ⟨sb, 0, none⟩), v, a.v] w (StE w base F G sb mb n st y a.d) := by
  obtain ⟨k0, k8⟩ := kindI_lt a.k
  have hk := show kindI a.k = 0 ∨ kindI a.k = 1 ∨ kindI a.k = 2 ∨ kindI a.k = 3 ∨ kindI a.k = 4 ∨ kindI a.k = 5 ∨ kindI a.k = 6 ∨ kindI a.k = 7 by omega
  unfold ActR.d ActR.v
  rcases hk with hk | hk | hk | hk | hk | hk | hk | hk <;> rw [show (kindI a.k).toNat = _ from congrArg Int.toNat hk]
  · exact step_0 h hn9 a.k a.x a.nm a.ot a.Ad a.nd a.cd a.Ak a.mm a.ck _ a.data a.keep hk ha.x ha.nm ha.ot (ha.rd.below hb) ha.dl hnd (ha.rk.below hb) ha.kl hmk ha.kc ha.kb hB
  · exact step_1 h hn9 a.k a.x a.nm a.ot a.Ad a.nd a.cd a.Ak a.mm a.ck _ a.data a.keep hk ha.x ha.nm ha.ot (ha.rd.below hb) ha.dl hnd (ha.rk.below hb) ha.kl hmk ha.kc ha.kb hB
  · exact step_2 h hn9 a.k a.x a.nm a.ot a.Ad a.nd a.cd a.Ak a.mm a.ck _ a.data a.keep hk ha.x ha.nm ha.ot (ha.rd.below hb) ha.dl hnd (ha.rk.below hb) ha.kl hmk ha.kc ha.kb hB
  · exact step_3 h hn9 a.k a.x a.nm a.ot a.Ad a.nd a.cd a.Ak a.mm a.ck _ a.data a.keep hk ha.x ha.nm ha.ot (ha.rd.below hb) ha.dl hnd (ha.rk.below hb) ha.kl hmk ha.kc ha.kb hB
  · exact step_4 h hn9 a.k a.x a.nm a.ot a.Ad a.nd a.cd a.Ak a.mm a.ck _ a.data a.keep hk ha.x ha.nm ha.ot (ha.rd.below hb) ha.dl hnd (ha.rk.below hb) ha.kl hmk ha.kc ha.kb hB
  · exact step_5 h hn9 a.k a.x a.nm a.ot a.Ad a.nd a.cd a.Ak a.mm a.ck _ a.data a.keep hk ha.x ha.nm ha.ot (ha.rd.below hb) ha.dl hnd (ha.rk.below hb) ha.kl hmk ha.kc ha.kb hB
  · exact step_6 h hn9 a.k a.x a.nm a.ot a.Ad a.nd a.cd a.Ak a.mm a.ck _ a.data a.keep hk ha.x ha.nm ha.ot (ha.rd.below hb) ha.dl hnd (ha.rk.below hb) ha.kl hmk ha.kc ha.kb hB
  · exact step_7 h hn9 a.k a.x a.nm a.ot a.Ad a.nd a.cd a.Ak a.mm a.ck _ a.data a.keep hk ha.x ha.nm ha.ot (ha.rd.below hb) ha.dl hnd (ha.rk.below hb) ha.kl hmk ha.kc ha.kb hB
/-! ### how long the files can be -/
def InvD (D : Nat) (fs : List AF) : Prop := ∀ f ∈ fs, f.data.length ≤ D
theorem InvD.more {D E : Nat} {fs : List AF} (h : InvD D fs) (hE : D ≤ E) : InvD E fs := fun f hf => Nat.le_trans (h f hf) hE
theorem InvD.put {D E : Nat} {fs : List AF} (h : InvD D fs) (hE : D ≤ E) {f : AF} (hf : f.data.length ≤ E) : InvD E (putG AF.name f fs) := fun g hg => by
  rcases mem_putG f fs g hg with rfl | ⟨hg, _⟩
  · exact hf
  · exact Nat.le_trans (h g hg) hE
theorem InvD.drop {D : Nat} {fs : List AF} (h : InvD D fs) (s : List UInt8) : InvD D (dropG AF.name s fs) := fun g hg => h g (List.mem_filter.1 hg).1
theorem InvD.find {D : Nat} {fs : List AF} (h : InvD D fs) {s : List UInt8} {f : AF} (hf : findA s fs = some f) : f.data.length ≤ D := h f (findG_name hf).2
section
variable {st : AS} {D : Nat}
theorem invD_app (h : InvD D st.files) (nm : ByteArray) (b : List UInt8) : InvD (D + b.length) (appendA st nm b).1.files := by
  by_cases h0 : (beginA st (validN nm)).2 = 0
  · rw [appendA_ok h0]
    split
    · exact h.more (Nat.le_add_right _ _)
    · refine h.put (Nat.le_add_right _ _) ?_
      simp only [List.length_append]
      cases hf : findA nm.data.toList st.files with
      | none => simp
      | some f => have := h.find hf; simp; omega
  · unfold appendA; rw [if_pos h0, begin_files]; exact h.more (Nat.le_add_right _ _)
theorem invD_sync (h : InvD D st.files) (nm : ByteArray) : InvD D (syncA st nm).1.files := by
  by_cases h0 : (beginA st (validN nm)).2 = 0
  · rw [syncA_ok h0]
    cases hf : findA nm.data.toList st.files with
    | none => exact h
    | some f => exact h.put (Nat.le_refl _) (show f.data.length ≤ D from h.find hf)
  · unfold syncA; rw [if_pos h0, begin_files]; exact h
theorem invD_trunc (h : InvD D st.files) (nm : ByteArray) (k : Int) : InvD D (truncA st nm k).1.files := by
  by_cases h0 : (beginA st (validN nm)).2 = 0
  · rw [truncA_ok h0]
    cases hf : findA nm.data.toList st.files with
    | none => exact h
    | some f =>
      simp only
      split
      · exact h
      · exact h.put (Nat.le_refl _) (Nat.le_trans (by simp only [List.length_take]; omega) (h.find hf))
  · unfold truncA; rw [if_pos h0, begin_files]; exact h
theorem invD_rename (h : InvD D st.files) (nm nw : ByteArray) : InvD D (renameA st nm nw).1.files := by
  by_cases h0 : (beginA st (validN nm && validN nw)).2 = 0
  · rw [renameA_ok h0]
    cases hf : findA nm.data.toList st.files with
    | none => exact h
    | some f => exact (h.drop _).put (Nat.le_refl _) (show f.data.length ≤ D from h.find hf)
  · unfold renameA; rw [if_pos h0, begin_files]; exact h
theorem invD_remove (h : InvD D st.files) (nm : ByteArray) : InvD D (removeA st nm).1.files := by
  by_cases h0 : (beginA st (validN nm)).2 = 0
  · rw [removeA_ok h0]
    cases hf : findA nm.data.toList st.files with
    | none => exact h
    | some f => exact h.drop _
  · unfold removeA; rw [if_pos h0, begin_files]; exact h
theorem crash1_len (f : AF) (ks : List Int) : (crash1 f ks).1.data.length ≤ f.data.length := by
  unfold crash1
  split
  · exact Nat.le_refl _
  · split <;> (simp only [cutF, List.length_take]; omega)
theorem invD_crash : ∀ (fs : List AF) (ks : List Int), InvD D fs → InvD D (crashL fs ks)
  | [], _, h => h
  | f :: t, ks, h => fun g hg => by
    simp only [crashL, List.mem_cons] at hg
    rcases hg with rfl | hg
    · exact Nat.le_trans (crash1_len f ks) (h f (by simp))
    · exact invD_crash t _ (fun x hx => h x (by simp [hx])) g hg
theorem invD_step (h : InvD D st.files) (a : ActD) : InvD (D + a.data.length) (stepA st a).1.files := by
  unfold stepA
  split
  · exact invD_app h _ _
  · exact invD_app h _ _
  · exact (invD_sync h _).more (Nat.le_add_right _ _)
  · exact (invD_trunc h _ _).more (Nat.le_add_right _ _)
  · exact (invD_rename h _ _).more (Nat.le_add_right _ _)
  · exact (invD_remove h _).more (Nat.le_add_right _ _)
  · exact h.more (Nat.le_add_right _ _)
  · exact (invD_crash _ _ h).more (Nat.le_add_right _ _)
end
/-! ### the loop over a script -/
def dataSum (l : List ActR) (k : Nat) : Nat := ((l.take k).map fun a => a.nd).sum
theorem dataSum_succ (l : List ActR) (k : Nat) (hk : k < l.length) : dataSum l (k + 1) = dataSum l k + l[k].nd := by
  unfold dataSum
  rw [List.take_succ_eq_append_getElem hk, List.map_append, List.sum_append]
  simp
/-- The system, the variable that holds the reference, and how far the script is done. -/
structure LoopM (w0 : World) (w : World) (base : Nat) (F : Nat → Prop) (sb mb n mo D : Nat) (G : Nat → Prop) (st : AS) (y : RY) : Prop where
  pl : ∃ fv, PlS w base F sb mb n G st (.agg #[fv, .int .i64 y.left, .bool y.off]) y ∧ Blk w mo 52 #[fv, .int .i64 y.left, .bool y.off]
  moF : ¬ F mo
  moG : ¬ G mo
  mob : w0.heap.size ≤ mo
  bw : Below w0.heap.size w0 w
  inv : InvD D st.files
theorem PlS.below {w w' : World} {base : Nat} {F : Nat → Prop} {sb mb n : Nat} {G : Nat → Prop} {st : AS} {v : Value} {y : RY} (h : PlS w base F sb mb n G st v y) (hb : Below w.heap.size w w') : PlS w' base F sb mb n G st v y :=
  ⟨h.sys.below hb, fun i hi => Nat.lt_of_lt_of_le (h.cap i hi) hb.size, h.str, h.ry.below hb, h.gF, h.inv⟩
theorem PlS.kept {w w' : World} {base : Nat} {F K : Nat → Prop} {sb mb n : Nat} {G : Nat → Prop} {st : AS} {v : Value} {y : RY} (h : PlS w base F sb mb n G st v y) (hk : Kept K w w') (h1 : ∀ i, F i → ¬ K i) (h2 : ∀ i, G i → ¬ K i) : PlS w' base F sb mb n G st v y :=
  ⟨h.sys.kept hk h1, fun i hi => Nat.lt_of_lt_of_le (h.cap i hi) hk.size, h.str, h.ry.keptF hk fun i _ hi => h2 i hi, h.gF, h.inv⟩
def BgRel (w0 : World) (base sb mb mo n : Nat) (l : List ActR) (s13 : Value) (wr : World) : Prop :=
  ∃ j F G st y, j ≤ n ∧ s13 = .int .i64 (j : Nat) ∧ LoopM w0 wr base F sb mb j mo (dataSum l j) G st y
def BgEnd (w : World) (n D : Nat) (e : Ending) (w' : World) : Prop :=
  ∃ base F sb mb st, e = .returned (.pointer (some ⟨sb, 0, none⟩)) ∧ Below w.heap.size w w' ∧ w.heap.size ≤ base ∧ SysM w' base F sb mb n st ∧ (∀ i, F i → i < w'.heap.size) ∧ InvF n st.files ∧ InvD D st.files
theorem PlS.first {w : World} {base sb mb : Nat} {F : Nat → Prop} (h : SysM w base F sb mb 0 emptyA) (hc : ∀ i, F i → i < w.heap.size) (G : Nat → Prop) (hG : ∀ i, G i → ¬ F i) : PlS w base F sb mb 0 G emptyA (.agg #[.slice none 0 0, .int .i64 y0.left, .bool y0.off]) y0 :=
  ⟨h, hc, ⟨rfl, rfl, rfl, fun e => Bool.noConfusion (show false = true from e), by show (-1 : Int) ≤ -1; omega, by show (-1 : Int) ≤ _; omega⟩, ⟨_, [], rfl, FsM.nil _ _, rfl⟩, hG, ⟨Nat.le_refl _, fun f hf => by cases hf⟩⟩
set_option maxRecDepth 100000 in
set_option maxHeartbeats 4000000 in
theorem begun_any (A : Option Addr) (n c : Nat) (l : List ActR) (w : World) (hA : ActsM w A n l) (hn : n ≤ 800000) (hnd : ∀ a ∈ l, a.nd ≤ 1000000 ∧ a.mm ≤ 1000000) :
    Calls Try.prog 20 #[.slice A n c] w (BgEnd w n (dataSum l n)) := by
  have HA := Lib.hid hA
  have HND := Lib.hid hnd
  clear hA hnd
  go_enter Try.func20, Try.ntmps20
  go_wp2_with fail
  refine (alive_any w).mono ?_
  rintro e w1 ⟨rfl, hb1⟩
  go_wp2_with fail
  refine (newS_any w1).mono ?_
  rintro e w2 ⟨rfl, hS2, hq⟩
  have hb2 := hb1.trans (hq.mono hb1.size)
  have hS2 := hS2.cap
  obtain ⟨F2, hF2, hS2⟩ : ∃ F2, Hid (∀ i, F2 i → w1.heap.size ≤ i ∧ i < w2.heap.size) ∧ SysM w2 w1.heap.size F2 (w1.heap.size + 1) w1.heap.size 0 emptyA := ⟨_, fun i hi => hi, hS2⟩
  have hnw := rnew2_any w2
  go_wp2_with fail
  refine hnw.mono ?_
  clear hnw
  rintro e w3 ⟨rfl, hb3⟩
  obtain ⟨w4, hw4⟩ : ∃ w4, w4 = w3.alloc (.cells #[.slice none 0 0, .int .i64 (-1), .bool false] 52) := ⟨_, rfl⟩
  have hk4 : Blk w4 w3.heap.size 52 #[.slice none 0 0, .int .i64 (-1), .bool false] := by rw [hw4]; exact Blk.new _ _ _
  have hq4 : Below w3.heap.size w3 w4 := by rw [hw4]; exact (Below.refl _ _).alloc (Nat.le_refl _) _
  have hq24 := hb3.trans (hq4.mono hb3.size)
  have hb4 := hb2.trans (hq24.mono hb2.size)
  have hS4 := hS2.below hq24
  have hbase : w.heap.size ≤ w1.heap.size := hb1.size
  have hmo : w2.heap.size ≤ w3.heap.size := hb3.size
  have hL0 : LoopM w w4 w1.heap.size F2 (w1.heap.size + 1) w1.heap.size 0 w3.heap.size 0 (fun _ => False) emptyA y0 :=
    ⟨⟨_, PlS.first hS4 (fun i hi => Nat.lt_of_lt_of_le (hF2.out i hi).2 hq24.size) _ (fun _ h => h.elim), hk4⟩, fun hf => by have := (hF2.out _ hf).2; omega, fun h => h, by have := hq.size; omega, hb4, fun f hf => by cases hf⟩
  have HL0 := Lib.hid hL0
  go_upto_region 5 with (fail)
  rw [← hw4]
  clear hw4 hk4 hq4 hq24 hb4 hS4 hS2 hL0 hb3 hb2 hq hb1
  generalize w1.heap.size = base at *
  generalize w3.heap.size = mo at *
  clear hF2 hmo
  go_wp2_with fail
  go_loopw [13] (fun s13 wr => BgRel w base (base + 1) base mo n l s13 wr) (fun s13 _ => n - (intOf s13).toNat)
  case atStart => exact ⟨0, F2, _, _, _, Nat.zero_le _, rfl, HL0.out⟩
  case round =>
    obtain ⟨j, F, G, st, y, hj, rfl, hL⟩ := hrel
    by_cases hlt : j < n
    · have hjl : j < l.length := by rw [HA.out.len]; exact hlt
      obtain ⟨b, o, e1, hat⟩ := HA.out.at_ j hjl
      obtain ⟨hnd1, hmk1⟩ := HND.out _ (List.getElem_mem hjl)
      have hds := dataSum_succ l j hjl
      obtain ⟨fv, hP, hkm⟩ := hL.pl
      obtain ⟨Af, nf, cf, rfl⟩ : ∃ A n c, fv = .slice A n c := by
        obtain ⟨fv', l', e, hF, _⟩ := hP.ry
        obtain ⟨A, c, e2, _⟩ := hF.slice
        injection e with e
        have e3 : fv = fv' := by
          have := congrArg (fun a : Array Value => a[0]?) e
          simpa using this
        exact ⟨A, _, c, e3.trans e2⟩
      generalize l[j] = a at *
      have hbr := hL.bw
      have c0 := (hbr.cell (p := ⟨b, o + j * 6, none⟩) hat.blt).trans hat.c0
      have c1 := (hbr.cell (p := ⟨b, o + j * 6 + 1, none⟩) hat.blt).trans hat.c1
      have c2 := (hbr.cell (p := ⟨b, o + j * 6 + 2, none⟩) hat.blt).trans hat.c2
      have c3 := (hbr.cell (p := ⟨b, o + j * 6 + 3, none⟩) hat.blt).trans hat.c3
      have c4 := (hbr.cell (p := ⟨b, o + j * 6 + 4, none⟩) hat.blt).trans hat.c4
      have c5 := (hbr.cell (p := ⟨b, o + j * 6 + 5, none⟩) hat.blt).trans hat.c5
      obtain ⟨wa, hwa⟩ : ∃ wa, wa = wr.alloc (.cells #[.int .i64 a.k, .int .i64 a.x, .string a.nm, .string a.ot, .slice a.Ad a.nd a.cd, .slice a.Ak a.mm a.ck] 56) := ⟨_, rfl⟩
      have hba : Below wr.heap.size wr wa := by rw [hwa]; exact (Below.refl _ _).alloc (Nat.le_refl _) _
      have hka : Blk wa wr.heap.size 56 #[.int .i64 a.k, .int .i64 a.x, .string a.nm, .string a.ot, .slice a.Ad a.nd a.cd, .slice a.Ak a.mm a.ck] := by rw [hwa]; exact Blk.new _ _ _
      have hPa := hP.below hba
      have hkma := hkm.below hba hkm.lt
      have hbra := hbr.trans (hba.mono hbr.size)
      have hst := step_any hPa (by omega) a hat.ok hbra hbase hnd1 hmk1
      have hmlt := hkm.lt
      have E1 := Lib.hid e1
      have HAT := Lib.hid hat
      have HL := Lib.hid hL
      have HDS := Lib.hid hds
      have HPA := Lib.hid hPa
      have HKM := Lib.hid hkma
      have HBR := Lib.hid hbra
      have HDL := Lib.hid hat.ok.dl
      have hsa := hba.size
      unfold ActR.v actV at hst
      have hq1 := E1.out
      subst hq1
      clear hP hkm hbr hat hL hds hPa hba hbra
      go_upto_region 8 with (fail)
      rw [← hwa]
      clear hwa c0 c1 c2 c3 c4 c5
      have x0 := hkma.cell 0
      have x1 := hkma.cell 1
      have x2 := hkma.cell 2
      have a0 := hka.cell 0
      have a1 := hka.cell 1
      have a2 := hka.cell 2
      have a3 := hka.cell 3
      have a4 := hka.cell 4
      have a5 := hka.cell 5
      simp only [List.getElem?_toArray, List.getElem?_cons_zero, List.getElem?_cons_succ] at x0 x1 x2 a0 a1 a2 a3 a4 a5
      clear hkma hka
      go_wp2_with fail
      refine hst.mono ?_
      clear hst x0 x1 x2 a0 a1 a2 a3 a4 a5
      rintro e w5 ⟨v5, rfl, hK5, F5, G5, hP5, hF5, hG5⟩
      obtain ⟨fv5, l5, rfl, hFs5, hl5⟩ := hP5.ry
      obtain ⟨A5, c5, rfl, hc5⟩ := hFs5.slice
      have hkm5 := HKM.out.kept hK5 HL.out.moF
      have z0 := hkm5.cell 0
      have z1 := hkm5.cell 1
      have z2 := hkm5.cell 2
      have q0 := hkm5.frozen 0
      have q1 := hkm5.frozen 1
      have q2 := hkm5.frozen 2
      simp only [List.getElem?_toArray, List.getElem?_cons_zero, List.getElem?_cons_succ] at z0 z1 z2
      clear hFs5 hl5
      generalize hst5 : (stepA st a.d).1 = st5 at *
      generalize hyy5 : (stepY y a.d).1 = y5 at *
      have HST5 := Lib.hid hst5
      clear hst5 hyy5
      go_upto_region 9 with (fail)
      obtain ⟨w6, hw6⟩ : ∃ w6, w6 = set3 w5 mo (.slice A5 l5.length c5) (.int .i64 y5.left) (.bool y5.off) := ⟨_, rfl⟩
      have hk6 : Blk w6 mo 52 #[.slice A5 l5.length c5, .int .i64 y5.left, .bool y5.off] := by rw [hw6]; exact set3_blk hkm5 _ _ _
      have hq6 : Kept (fun i => i = mo) w5 w6 := by rw [hw6]; exact set3_kept _ _ _ _ _
      have hmoF5 : ¬ F5 mo := fun h => by
        rcases hF5 mo h with h | h
        · exact HL.out.moF h
        · omega
      have hmoG5 : ¬ G5 mo := fun h => by
        rcases (hG5 mo h).1 with h | h
        · exact HL.out.moG h
        · omega
      have hFB : ∀ i, F i → w.heap.size ≤ i := fun i hi => by
        obtain ⟨_, _, _, _, h4, _⟩ := HPA.out.sys
        have := h4 i hi
        omega
      have hb6 : Below w.heap.size w w6 := hq6.below (hK5.below HBR.out HBR.out.size hFB) (Nat.le_trans HBR.out.size hK5.size) fun i hi => by have : i = mo := hi; have := HL.out.mob; omega
      have hL6 : LoopM w w6 base F5 (base + 1) base (j + 1) mo (dataSum l (j + 1)) G5 st5 y5 := by
        refine ⟨⟨_, hP5.kept hq6 (fun i hi e => ?_) (fun i hi e => ?_), hk6⟩, hmoF5, hmoG5, HL.out.mob, hb6, ?_⟩
        · have e : i = mo := e
          exact hmoF5 (e ▸ hi)
        · have e : i = mo := e
          exact hmoG5 (e ▸ hi)
        · rw [HDS.out, ← HST5.out, ← HDL.out]
          exact invD_step HL.out.inv a.d
      have HL6 := Lib.hid hL6
      unfold set3 at hw6
      rw [← hw6]
      clear hw6 z0 z1 z2 q0 q1 q2 hkm5 hL6 hP5 hb6 hk6
      go_wp2_with fail
      go_roundw
      · exact ⟨j + 1, F5, G5, st5, y5, hlt, by go_num, HL6.out⟩
      · simp [intOf]; omega
    · have hjn : j = n := by omega
      have HJ := Lib.hid hjn
      have hjd : decide ((j : Int) < (n : Int)) = false := by simp; omega
      clear hjn
      go_wp2_with fail
      go_ret
      obtain ⟨fv, hP, hkm⟩ := hL.pl
      have hinv := hL.inv
      have hinf := hP.inv
      have hsys := hP.sys
      rw [HJ.out] at hinv hinf hsys
      exact ⟨base, F, base + 1, base, st, rfl, hL.bw, hbase, hsys, hP.cap, hinf, hinv⟩
end Go.Proofs.Ythmbmecodddkeaa
