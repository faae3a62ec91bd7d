/- The walk of the law's alike: the system has the files of the reference. -/
import Derived.Test.YthmbmecodddkeaaGreat
import Derived.Test.YthmbmecodddkeaaWCopy
namespace Go.Proofs.Ythmbmecodddkeaa
open Go.RowKit Go.WideMaps Go.Sort
theorem find_at : ∀ (l : List AF), RisingG AF.name l → ∀ (j : Nat) (hj : j < l.length), findA l[j].name l = some l[j]
  | [], _, j, hj => by simp at hj
  | y :: t, h, 0, _ => by unfold findA; simp [findG]
  | y :: t, h, j + 1, hj => by
    have hy := (List.pairwise_cons.1 h).1
    have hjt : j < t.length := by simpa using hj
    have hne : ¬ y.name = t[j].name := fun e => by
      have := hy t[j] (List.getElem_mem hjt)
      rw [e, WideAt.bytes_irrefl] at this; cases this
    unfold findA
    simp only [List.getElem_cons_succ, findG, hne, if_false]
    exact find_at t (List.pairwise_cons.1 h).2 j hjt
theorem quietZ {f : FuncId} {args : Array Value} {w : World} {n : Nat} {v : Value} (h : Calls Try.prog f args (w.drewN n) fun e w' => e = .returned v ∧ w.drewN n = w') : Calls Try.prog f args (w.drewN n) fun e w'' => e = .returned v ∧ ∃ m, w'' = w.drewN m :=
  h.mono fun _ _ ⟨he, hm⟩ => ⟨he, n, hm.symm⟩
def AlRel (w1 : World) (n : Nat) (s30 : Value) (wr : World) : Prop := ∃ j, j ≤ n ∧ s30 = .int .i64 (j : Nat) ∧ Below w1.heap.size w1 wr
set_option maxRecDepth 100000 in
set_option maxHeartbeats 4000000 in
theorem alike_any {w : World} {base : Nat} {F : Nat → Prop} {sb mb n : Nat} {G : Nat → Prop} {st : AS} {v : Value} {y : RY} (h : PlS w base F sb mb n G st v y) (hn9 : n ≤ 800000) :
    Calls Try.prog 27 #[.pointer (some ⟨sb, 0, none⟩), v] w (GrE w true) := by
  obtain ⟨fv, l, rfl, hF, hl⟩ := h.ry
  obtain ⟨A, c, rfl, hc⟩ := hF.slice
  obtain ⟨hris, hsy⟩ := h.sys.files_ok
  have hlen : st.files.length = l.length := by rw [h.str.files, ← hl, List.length_map]
  have hll : l.length ≤ 800000 := by rw [← hlen]; exact Nat.le_trans h.inv.1 hn9
  have hoffe : st.off = y.off := h.str.off
  obtain ⟨wa, hwa⟩ : ∃ wa, wa = w.alloc (.cells #[.slice A l.length c, .int .i64 y.left, .bool y.off] 52) := ⟨_, rfl⟩
  have hba : Below w.heap.size w wa := by rw [hwa]; exact (Below.refl _ _).alloc (Nat.le_refl _) _
  have hka : Blk wa w.heap.size 52 #[.slice A l.length c, .int .i64 y.left, .bool y.off] := by rw [hwa]; exact Blk.new _ _ _
  have hnm := namesS_any base sb mb n F st wa (h.sys.below hba) (by omega)
  have HWA := Lib.hid hwa
  have HS := Lib.hid h.sys
  have HF := Lib.hid hF
  have HL := Lib.hid hl
  have HLEN := Lib.hid hlen
  have HRIS := Lib.hid hris
  have HSY := Lib.hid hsy
  have HFI := Lib.hid h.str.files
  have HINV := Lib.hid h.inv
  have HOFF := Lib.hid hoffe
  have HBA := Lib.hid hba
  have HKA := Lib.hid hka
  clear hwa h hF hl hlen hris hsy hoffe hba hka
  go_enter Try.func27, Try.ntmps27
  go_upto_region 1 with (fail)
  rw [← HWA.out]
  go_wp2_with fail
  refine hnm.mono ?_
  clear hnm
  rintro e w1 ⟨A1, c1, rfl, hown1, hb1⟩
  rw [HLEN.out] at hown1 ⊢
  obtain ⟨m, hm⟩ : ∃ m, l.length = m := ⟨_, rfl⟩
  rw [hm] at hown1 hll ⊢
  have HM := Lib.hid hm
  have hk1 := HKA.out.below hb1 HKA.out.lt
  have hbw1 := HBA.out.trans (hb1.mono HBA.out.size)
  have x0 := hk1.cell 0
  have x2 := hk1.cell 2
  simp only [List.getElem?_toArray, List.getElem?_cons_zero, List.getElem?_cons_succ] at x0 x2
  rw [HM.out] at x0
  have hoff := fun (nq : Nat) => off_any base sb mb n F st (w1.drewN nq) ((HS.out.below hbw1).below (by exact ⟨rfl, rfl, rfl, Nat.le_refl _, fun _ _ => rfl⟩))
  rw [HOFF.out] at hoff
  have hyo : (y.off != y.off) = false := by simp
  clear hm
  go_wp2_with fail
  go_quiet ((go_at_call 22; exact quietZ (hoff _)))
  go_upto_region 4 with (fail)
  have hbq : Below w1.heap.size w1 (w1.drewN nq) := ⟨rfl, rfl, rfl, Nat.le_refl _, fun _ _ => rfl⟩
  have hs1 : (w1.drewN nq).heap.size = w1.heap.size := rfl
  have HQ := Lib.hid hbq
  clear hoff x0 x2 hs1
  have hkq := hk1.below hbq hk1.lt
  have x0 := hkq.cell 0
  simp only [List.getElem?_toArray, List.getElem?_cons_zero] at x0
  rw [HM.out] at x0
  generalize w1.drewN nq = w2 at *
  have hr1 := Reads.of_own hown1
  have HR1 := Lib.hid hr1
  have HBW1 := Lib.hid hbw1
  clear hown1 hr1 hbw1 hk1 hkq hb1 hbq
  go_wp2_with fail
  go_loopw [30] (fun s30 wr => AlRel w1 m s30 wr) (fun s30 _ => m - (intOf s30).toNat)
  case atStart => exact ⟨0, Nat.zero_le _, rfl, HQ.out⟩
  case round =>
    obtain ⟨j, hj, rfl, hbr⟩ := hrel
    by_cases hlt : j < m
    · have hjl : j < l.length := by have := HM.out; omega
      have hjf : j < st.files.length := by rw [HLEN.out]; exact hjl
      have hfj : st.files[j] = l[j].1 := by
        have h : (l.map Prod.fst)[j]? = st.files[j]? := by rw [HL.out, HFI.out]
        rw [List.getElem?_map, List.getElem?_eq_getElem hjl, List.getElem?_eq_getElem hjf] at h
        injection h with h; exact h.symm
      have hfd := find_at st.files HRIS.out j hjf
      have hnl := HINV.out.2 _ (List.getElem_mem hjf)
      have hdl := (HSY.out _ (List.getElem_mem hjf)).2
      have hb := HBW1.out.trans (hbr.mono HBW1.out.size)
      obtain ⟨bb, oo, e1, hbb, hcc⟩ := (HR1.out.below hbr).form (by omega)
      have n0 := hcc j (encStr st.files[j].name) (by rw [List.getElem?_map, List.getElem?_eq_getElem hjf]; rfl)
      obtain ⟨b, o, e2, hbl, c0, c1', c3⟩ := (HF.out.below hb).at_ hjl
      have hpay := (HF.out.below hb).pay _ (List.getElem_mem hjl)
      rw [hfj] at hfd hnl hdl n0
      clear hcc hfj
      generalize l[j] = p at *
      obtain ⟨⟨pnm, pdata, psync⟩, pdv⟩ := p
      simp only at c0 c1' c3 hpay hfd hnl hdl n0
      obtain ⟨A5, c5, rfl, hc5⟩ := hpay.form
      unfold encStr at n0
      obtain ⟨wf, hwf⟩ : ∃ wf, wf = wr.alloc (.cells #[.string ⟨pnm.toArray⟩, .slice A5 pdata.length c5, .int .i64 (psync : Int)] 86) := ⟨_, rfl⟩
      have hbf : Below wr.heap.size wr wf := by rw [hwf]; exact (Below.refl _ _).alloc (Nat.le_refl _) _
      have hkf : Blk wf wr.heap.size 86 #[.string ⟨pnm.toArray⟩, .slice A5 pdata.length c5, .int .i64 (psync : Int)] := by rw [hwf]; exact Blk.new _ _ _
      have hbwf := hb.trans (hbf.mono hb.size)
      have hsz9 : (ByteArray.mk pnm.toArray).size ≤ maxLen := by
        have : (ByteArray.mk pnm.toArray).size = pnm.length := by simp [ByteArray.size]
        unfold maxLen; omega
      have hrd := read_any base sb mb n F st ⟨pnm.toArray⟩ wf (HS.out.below hbwf) hsz9
      have hfd2 : findA (ByteArray.mk pnm.toArray).data.toList st.files = some ⟨pnm, pdata, psync⟩ := by simpa using hfd
      rw [hfd2] at hrd
      have E1 := Lib.hid e1
      have E2 := Lib.hid e2
      have HPAY := Lib.hid hpay
      have HFD := Lib.hid hfd2
      have HSZ9 := Lib.hid hsz9
      have HBF := Lib.hid hbf
      have HBWF := Lib.hid hbwf
      have HBR := Lib.hid hbr
      have hq1 := E1.out
      have hq2 := E2.out
      subst hq1 hq2
      clear hfd hfd2 hbf hb hpay
      go_upto_region 7 with (fail)
      rw [← hwf]
      clear hwf c0 c1' c3 x0
      have f0 := hkf.cell 0
      simp only [List.getElem?_toArray, List.getElem?_cons_zero] at f0
      go_wp2_with fail
      refine hrd.mono ?_
      clear hrd f0
      rintro e w5 ⟨hb5, A6, c6, rfl, hown6⟩
      simp only at hown6
      have hk5 := hkf.below hb5 hkf.lt
      have hbw5 := hbwf.trans (hb5.mono hbwf.size)
      have hsd := size_any base sb mb n F st ⟨pnm.toArray⟩ w5 (HS.out.below hbw5) HSZ9.out
      rw [HFD.out] at hsd
      simp only [sizeR] at hsd
      have f0 := hk5.cell 0
      simp only [List.getElem?_toArray, List.getElem?_cons_zero] at f0
      go_wp2_with fail
      refine hsd.mono ?_
      rintro e w' ⟨rfl, rfl⟩
      clear hsd f0
      have hbr5 := HBR.out.trans ((HBF.out.mono HBR.out.size).trans (hb5.mono (Nat.le_trans HBR.out.size HBF.out.size)))
      have n1 : w5.cell? ⟨bb, oo + j, none⟩ = some (.string ⟨pnm.toArray⟩) := by
        have h1 := (HBF.out.trans (hb5.mono HBF.out.size)).cell (p := ⟨bb, oo + j, none⟩) (Nat.lt_of_lt_of_le hbb HBR.out.size)
        exact h1.trans n0
      have f0 := hk5.cell 0
      have f1 := hk5.cell 1
      simp only [List.getElem?_toArray, List.getElem?_cons_zero, List.getElem?_cons_succ] at f0 f1
      have hpay5 := (HPAY.out.keptF (F := fun _ => False) (Kept.of_below (HBF.out.trans (hb5.mono HBF.out.size))) fun _ _ _ h => h).reads.2.2
      have hbe := fun (nq : Nat) => bytes_eq A6 A5 pdata.length pdata.length c6 c5 _ _ pdata pdata (w5.drewN nq) ((Reads.of_own hown6).drewN nq) (hpay5.drewN nq)
      simp only [beq_self_eq_true] at hbe
      have hpn : (pnm != pnm) = false := by simp
      have hjI : (0 : Int) ≤ (j : Int) := by omega
      have hjI2 : (j : Int) < (m : Int) := by omega
      have HBR5 := Lib.hid hbr5
      clear n0 hown6 hpay5 hb5 hbr5 hk5 hbwf hkf hbr
      go_wp2_with fail
      go_quiet ((go_at_call 23; exact quietZ (hbe _)))
      go_wp2_with fail
      go_roundw
      · exact ⟨j + 1, hlt, by go_num, below_drewN' HBR5.out _⟩
      · simp [intOf]; omega
    · have hjd : decide ((j : Int) < (m : Int)) = false := by simp; omega
      go_wp2_with fail
      go_ret
      exact ⟨rfl, HBW1.out.trans (hbr.mono HBW1.out.size)⟩
end Go.Proofs.Ythmbmecodddkeaa
