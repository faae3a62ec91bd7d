/- The walk of RefsOrder. -/
import Derived.Test.YtmondfckpgjikaaOpenW
import Derived.Deep.RegionHeld3
import Derived.Test.YtmondfckpgjikaaWCopies
namespace Go.Proofs.Ytmondfckpgjikaa
open Go.RowKit Go.WideMaps
def sameT (l m : List Row) (k : Nat) : Bool := decide (l.length = m.length) && decide (l.take k = m.take k)
theorem sameT_zero (l m : List Row) : sameT l m 0 = decide (l.length = m.length) := by simp [sameT]
theorem sameT_full (l m : List Row) : sameT l m l.length = decide (l = m) := by
  unfold sameT
  rw [Bool.eq_iff_iff]
  simp only [Bool.and_eq_true, decide_eq_true_eq, List.take_length]
  constructor
  · rintro ⟨h1, h2⟩
    rw [h2, h1, List.take_length]
  · rintro rfl
    simp
theorem sameT_false {l m : List Row} {k : Nat} (h : sameT l m k = false) : decide (l = m) = false := by
  simp only [decide_eq_false_iff_not]
  rintro rfl
  simp [sameT] at h
theorem sameT_next {l m : List Row} {k : Nat} (h : sameT l m k = true) (hk : k < l.length) (hm : k < m.length) : sameT l m (k + 1) = decide (l[k] = m[k]) := by
  unfold sameT at h ⊢
  simp only [Bool.and_eq_true, decide_eq_true_eq] at h
  have e : (l.take (k + 1) = m.take (k + 1)) ↔ l[k] = m[k] := by
    rw [List.take_succ_eq_append_getElem hk, List.take_succ_eq_append_getElem hm, h.2, List.append_cancel_left_eq, List.cons.injEq]
    exact ⟨fun h => h.1, fun h => ⟨h, rfl⟩⟩
  rw [h.1]
  simp only [decide_true, Bool.true_and, e]
theorem step_back {l : List Row} (h : Rising l) (hv : AllV l) (hb : AllB l) (j : Nat) (hj : j < l.length) :
    stepR (l.drop (j + 1)) ⟨if l[j].tag then 1 else 0, ⟨l[j].name.toArray⟩, -1, l[j].n⟩ = (l.drop j, 0) := by
  have hd : l.drop j = l[j] :: l.drop (j + 1) := List.drop_eq_getElem_cons hj
  have hr : Rising (l.drop j) := List.Pairwise.sublist (List.drop_sublist j l) h
  rw [hd] at hr ⊢
  have hlt := (List.pairwise_cons.1 hr).1
  have hval := hv _ (List.getElem_mem hj)
  have hn := hb _ (List.getElem_mem hj)
  generalize l[j] = r at *
  generalize l.drop (j + 1) = t at *
  obtain ⟨nm, n, tg⟩ := r
  simp only at hlt hval hn
  have hf : findR nm t = none := by
    clear hd hr
    induction t with
    | nil => rfl
    | cons y t ih =>
      have hy := hlt y (by simp)
      have hne : ¬ y.name = nm := fun e => by rw [e, WideAt.bytes_irrefl] at hy; cases hy
      simp only [findR, hne, if_false]
      exact ih fun z hz => hlt z (by simp [hz])
  have hp : ∀ x : Row, x.name = nm → putR x t = x :: t := fun x hx => by
    cases t with
    | nil => rfl
    | cons y t =>
      have hy := hlt y (by simp)
      have hne : ¬ y.name = x.name := fun e => by rw [e, hx, WideAt.bytes_irrefl] at hy; cases hy
      rw [← hx] at hy
      simp only [putR, hne, if_false, hy, if_true]
  cases tg
  · simp only [stepR, branchR, Bool.false_eq_true, if_false, Nat.zero_mod, if_true, hval, hf, show ¬ (n < 0 ∨ (-1 : Int) < -1) by omega]
    simp [hp]
  · simp only [stepR, tagR, if_true, hval, hf, show ¬ (1 % 3 = 0) by decide, if_false, show ¬ n < 0 by omega]
    simp [hp]
def OdRel (w2 : World) (l m : List Row) (s11 s12 : Value) (wr : World) : Prop :=
  ∃ k : Nat, k ≤ l.length ∧ s12 = .int .i64 k ∧ s11 = .bool (sameT l m k) ∧ Below w2.heap.size w2 wr
def BackRel (w5 w : World) (tb mb : Nat) (l : List Row) (s14 : Value) (wr : World) : Prop :=
  ∃ k : Nat, k ≤ l.length ∧ s14 = .int .i64 ((k : Int) - 1) ∧ Tab wr tb mb (l.length - k) (l.drop k) ∧ Below w.heap.size w wr ∧ w5.grownBy wr (some mb)
set_option maxRecDepth 100000 in
set_option maxHeartbeats 2000000 in
theorem order_any (A B : Option Addr) (n c n2 c2 : Nat) (sts oth : List St) (w : World) (hr : Reads w w.heap.size 4 A n (cellsS sts)) (hl : sts.length = n) (hok : ∀ st ∈ sts, st.okW)
    (hr2 : Reads w w.heap.size 4 B n2 (cellsS oth)) (hl2 : oth.length = n2) (hok2 : ∀ st ∈ oth, st.okW) :
    Calls Try.prog 9 #[.slice A n c, .slice B n2 c2] w (AwEnd w) := by
  have hfacts := rowsOf_facts _ (sts.take 40) rfl
  have hlen : (rowsOf (sts.take 40)).length ≤ 40 := by have := hfacts.2; simp at this; omega
  have HR1 := Lib.hid hfacts.1
  have HV1 := Lib.hid (allV_rows (sts.take 40))
  have HB1 := Lib.hid (allB_rows (sts.take 40) fun st hs => (hok st (List.mem_of_mem_take hs)).2)
  clear hfacts
  have hfacts := rowsOf_facts _ (oth.take 40) rfl
  have hlen2 : (rowsOf (oth.take 40)).length ≤ 40 := by have := hfacts.2; simp at this; omega
  have HV2 := Lib.hid (allV_rows (oth.take 40))
  have HB2 := Lib.hid (allB_rows (oth.take 40) fun st hs => (hok2 st (List.mem_of_mem_take hs)).2)
  clear hfacts
  have hplay := play_any A n c sts w hr hl fun st hs => (hok st hs).1
  have hplay2 := fun w' (hb : Below w.heap.size w w') => play_any B n2 c2 oth w' ((hr2.below hb).more hb.size) hl2 fun st hs => (hok2 st hs).1
  have HP2 := Lib.hid hplay2
  generalize rowsOf (sts.take 40) = l at *
  generalize rowsOf (oth.take 40) = m at *
  clear hr hl hok hr2 hl2 hok2 hplay2
  go_enter Try.func9, Try.ntmps9
  go_wp2_with fail
  refine hplay.mono ?_
  rintro e w1 ⟨v1, rfl, hR1, hT1, hb1⟩
  go_wp2_with fail
  refine (HP2.out w1 hb1).mono ?_
  rintro e w2 ⟨v2, rfl, hR2, hT2, hb2⟩
  have hT0 := hT1
  have hR1 := hR1.below hb2
  have hT1 := hT1.below hb2
  have hW2 := hb1.trans (hb2.mono hb1.size)
  have hs12 : w.heap.size + 1 < w1.heap.size := hT0.lt.1
  obtain ⟨A1, c1, rfl, hc1, hr1⟩ := hR1
  obtain ⟨A2, c2, rfl, hc2, hr2⟩ := hR2
  have hs22 := hb2.size
  clear hplay HP2 hb1 hb2
  have hsz := sameT_zero l m
  have hel : ((l.length : Int) == (m.length : Int)) = sameT l m 0 := by
    rw [hsz, Bool.eq_iff_iff]
    simp
    omega
  have HF := Lib.hid (sameT_full l m)
  have HFF := Lib.hid (fun (k : Nat) (h : sameT l m k = false) => sameT_false h)
  have HNX := Lib.hid (fun (k : Nat) (h : sameT l m k = true) (hk : k < l.length) (hm : k < m.length) => sameT_next h hk hm)
  have HLE := Lib.hid (fun (k : Nat) (h : sameT l m k = true) => (by
    unfold sameT at h
    simp only [Bool.and_eq_true, decide_eq_true_eq] at h
    exact h.1 : l.length = m.length))
  clear hsz hT0
  go_wp2_with fail
  clear hel
  go_loopw [11, 12] (fun s11 s12 wr => OdRel w2 l m s11 s12 wr) (fun _ s12 _ => l.length - (intOf s12).toNat)
  case atStart => exact ⟨0, by omega, rfl, rfl, Below.refl _ _⟩
  case round =>
    obtain ⟨k, hk, rfl, rfl, hb⟩ := hrel
    have hgo : k < l.length ∧ sameT l m k = true ∨ (sameT l m k = decide (l = m) ∧ (sameT l m k = false ∨ k = l.length)) := by
      cases hs : sameT l m k with
      | false => exact .inr ⟨(HFF.out k hs).symm, .inl rfl⟩
      | true =>
        rcases Nat.lt_or_ge k l.length with h | h
        · exact .inl ⟨h, rfl⟩
        · obtain rfl : k = l.length := by omega
          exact .inr ⟨by rw [← hs]; exact HF.out, .inr rfl⟩
    rcases hgo with ⟨hlt, hsame⟩ | ⟨hdec, hwhy⟩
    · have hll := HLE.out k hsame
      have hkm : k < m.length := by omega
      have HN := Lib.hid (HNX.out k hsame hlt hkm)
      have HS := Lib.hid hsame
      clear hll hsame
      rw [HS.out]
      obtain ⟨b1, o1, rfl, hbl1, hq1⟩ := hr1.formN (by omega) (by decide)
      obtain ⟨b2, o2, rfl, hbl2, hq2⟩ := hr2.formN (by omega) (by decide)
      obtain ⟨x0, x1, x2⟩ := cellsR_at l k hlt
      obtain ⟨y0, y1, y2⟩ := cellsR_at m k hkm
      have d0 := (hb.cell (p := ⟨b1, o1 + k * 3, none⟩) hbl1).trans (hq1 _ _ x0)
      have d1 := (hb.cell (p := ⟨b1, o1 + (k * 3 + 1), none⟩) hbl1).trans (hq1 _ _ x1)
      have d2 := (hb.cell (p := ⟨b1, o1 + (k * 3 + 2), none⟩) hbl1).trans (hq1 _ _ x2)
      have f0 := (hb.cell (p := ⟨b2, o2 + k * 3, none⟩) hbl2).trans (hq2 _ _ y0)
      have f1 := (hb.cell (p := ⟨b2, o2 + (k * 3 + 1), none⟩) hbl2).trans (hq2 _ _ y1)
      have f2 := (hb.cell (p := ⟨b2, o2 + (k * 3 + 2), none⟩) hbl2).trans (hq2 _ _ y2)
      rw [← Nat.add_assoc] at d1 d2 f1 f2
      have q0 : (0 : Int) ≤ (k : Int) := by omega
      have q1 : (k : Int) < (l.length : Int) := by omega
      have q2 : (k : Int) < (m.length : Int) := by omega
      have HB := Lib.hid hb
      clear x0 x1 x2 y0 y1 y2 hq1 hq2 hb
      generalize l[k] = r at *
      generalize m[k] = s at *
      obtain ⟨nm, rn, rt⟩ := r
      obtain ⟨sm, sn, st⟩ := s
      unfold strV at d0 f0
      simp only at d0 d1 d2 f0 f1 f2
      have fin : ∀ (nq : Nat) (bb : Bool), bb = decide ((⟨nm, rn, rt⟩ : Row) = ⟨sm, sn, st⟩) → OdRel w2 l m (.bool bb) (.int .i64 ((k : Int) + 1)) (wr.drewN nq) := fun nq bb hbb =>
        ⟨k + 1, by omega, by go_num, by rw [HN.out, hbb], below_drewN HB.out nq⟩
      have FIN := Lib.hid fin
      clear fin
      by_cases h1 : nm = sm
      · subst h1
        by_cases h2 : rn = sn
        · subst h2
          cases rt <;> cases st
          all_goals
            go_wp2_with fail
            go_quiet (fail)
            go_wp2_with fail
            go_roundw
            case rel => exact FIN.out _ _ (by simp)
            case measure => simp [intOf]; omega
        · have g2 : (rn == sn) = false := by simpa using h2
          have H2 := Lib.hid h2
          clear h2
          go_wp2_with fail
          go_quiet (fail)
          go_wp2_with fail
          go_roundw
          case rel => exact FIN.out _ _ (by simp [H2.out])
          case measure => simp [intOf]; omega
      · have g1 : (nm == sm) = false := by simpa using h1
        have H1 := Lib.hid h1
        clear h1
        go_wp2_with fail
        go_quiet (fail)
        go_wp2_with fail
        go_roundw
        case rel => exact FIN.out _ _ (by simp [H1.out])
        case measure => simp [intOf]; omega
    · have hbe : (encT l == encT m) = sameT l m k := by
        rw [hdec, Bool.eq_iff_iff]
        simp only [beq_iff_eq, decide_eq_true_eq]
        exact ⟨fun h => encT_inj (fun r hr => (HB1.out r hr).1) (fun r hr => (HB2.out r hr).1) h, fun h => by rw [h]⟩
      have HBE := Lib.hid hbe
      clear hbe hdec
      rcases Nat.lt_or_ge k l.length with hlt | hge
      · have hs : sameT l m k = false := by
          rcases hwhy with h | h
          · exact h
          · omega
        rw [hs] at HBE ⊢
        clear hs hwhy
        have hR1r := hr1
        have hbB := hW2.trans (hb.mono hW2.size)
        have hT1r := hT1.below hb
        have hT2r := hT2.below hb
        have hp1 := tput_any _ _ _ l wr hT1r (by omega) HV1.out HB1.out
        clear hT1 hT2 hR1r
        go_wp2_with fail
        refine hp1.mono ?_
        rintro e w5 ⟨A5, c5, rfl, hown5, hb5⟩
        have hT15 := hT1r.below hb5
        have hT25 := hT2r.below hb5
        have hB5 := hbB.trans (hb5.mono hbB.size)
        have hp2 := tput_any _ _ _ m w5 hT25 (by omega) HV2.out HB2.out
        have hr12 := hr1.below hb
        have hr15 := hr12.below (hb5.mono hb.size)
        have hw25 : w2.heap.size ≤ w5.heap.size := Nat.le_trans hb.size hb5.size
        clear hT1r hT2r hp1 hr12
        go_wp2_with fail
        refine hp2.mono ?_
        rintro e w6 ⟨A6, c6, rfl, hown6, hb6⟩
        have hT16 := hT15.below hb6
        have hB6 := hB5.trans (hb6.mono hB5.size)
        have hr16 := hr15.below (hb6.mono hw25)
        have hw26 : w2.heap.size ≤ w6.heap.size := Nat.le_trans hw25 hb6.size
        have hbe := bytes_eq A5 A6 _ _ c5 c6 _ _ (encT l) (encT m) w6 (Reads.of_own (own_below hown5 hb6)) (Reads.of_own hown6)
        rw [HBE.out] at hbe
        clear hp2 hT15 hT25 hB5 hb5 hown5 hown6 hb6 hb hbB hr15 hw25
        go_wp2_with fail
        refine hbe.mono ?_
        rintro e w6' ⟨rfl, rfl⟩
        clear hbe
        go_wp2_with fail
        refine (new_any w6).mono ?_
        rintro e w7 ⟨rfl, hTv, hb7⟩
        have hT17 := hT16.below hb7
        have hB7 := hB6.trans (hb7.mono hB6.size)
        have hr17 := hr16.below (hb7.mono hw26)
        have hw67 : w6.heap.size + 1 < w7.heap.size := hTv.lt.1
        have hvne : w.heap.size ≠ w6.heap.size := by omega
        clear hT16 hB6 hb7 hr16
        clear HBE
        go_wp2_with fail
        go_loopw [14] (fun s14 wr => BackRel w7 w (w6.heap.size + 1) w6.heap.size l s14 wr) (fun s14 _ => (intOf s14 + 1).toNat)
        case atStart => exact ⟨l.length, Nat.le_refl _, rfl, by rw [Nat.sub_self, List.drop_length]; exact hTv, hB7, World.grownBy.refl w7 _⟩
        case round =>
          obtain ⟨i, hi, rfl, hTi, hbi, hgi⟩ := hrel
          rcases Nat.eq_zero_or_pos i with h0 | h0
          · subst h0
            rw [show (((0 : Nat) : Int) - 1) = -1 from rfl]
            have hTz : Tab wr (w6.heap.size + 1) w6.heap.size l.length l := by simpa using hTi
            have hTl := tab_of_do hT17 hgi hTv.isMap hvne
            have hq1 := tput_any _ _ _ l wr hTl (by omega) HV1.out HB1.out
            clear hTi hT17
            go_wp2_with fail
            refine hq1.mono ?_
            rintro e w8 ⟨A8, c8, rfl, hown8, hb8⟩
            have hTz8 := hTz.below hb8
            have hB8 := hbi.trans (hb8.mono hbi.size)
            have hq2 := tput_any _ _ _ l w8 hTz8 (by omega) HV1.out HB1.out
            clear hq1 hTz hTl
            go_wp2_with fail
            refine hq2.mono ?_
            rintro e w9 ⟨A9, c9, rfl, hown9, hb9⟩
            have hB9 := hB8.trans (hb9.mono hB8.size)
            have hbe2 := bytes_eq A8 A9 _ _ c8 c9 _ _ (encT l) (encT l) w9 (Reads.of_own (own_below hown8 hb9)) (Reads.of_own hown9)
            rw [show (encT l == encT l) = true from beq_self_eq_true _] at hbe2
            clear hq2 hown8 hown9 hb9 hTz8 hB8
            go_wp2_with fail
            refine hbe2.mono ?_
            rintro e w9' ⟨rfl, rfl⟩
            go_wp2_with fail
            go_ret
            exact ⟨rfl, hB9⟩
          · obtain ⟨j, rfl⟩ : ∃ j, i = j + 1 := ⟨i - 1, by omega⟩
            rw [show (((j + 1 : Nat) : Int) - 1) = (j : Int) by omega]
            have hjl : j < l.length := by omega
            have hri := hr17.grown hgi (by omega) (fun g e => by injection e with e; omega)
            obtain ⟨b1, o1, rfl, hbl1, hq1⟩ := hri.formN (by omega) (by decide)
            obtain ⟨x0, x1, x2⟩ := cellsR_at l j hjl
            have d0 := hq1 _ _ x0
            have d1 := hq1 _ _ x1
            have d2 := hq1 _ _ x2
            rw [← Nat.add_assoc] at d1 d2
            have HSB := Lib.hid (step_back HR1.out HV1.out HB1.out j hjl)
            have hvl := valid_le (HV1.out _ (List.getElem_mem hjl))
            have hbl7 : b1 < wr.heap.size := Nat.lt_of_lt_of_le (by omega) hgi.size
            clear hq1 x0 x1 x2 hri
            generalize l[j] = r at *
            obtain ⟨nm, rn, rt⟩ := r
            unfold strV at d0
            simp only at d0 d1 d2 hvl HSB
            have q0 : (0 : Int) ≤ (j : Int) := by omega
            have q1 : (j : Int) < (l.length : Int) := by omega
            have n0 := World.new_ne wr ⟨b1, o1 + j * 3, none⟩ d0
            have n1 := World.new_ne wr ⟨b1, o1 + j * 3 + 1, none⟩ d1
            go_wp2_with fail
            go_region_held3 (fun w' => w'.cell? ⟨b1, o1 + j * 3, none⟩ = some (.string ⟨nm.toArray⟩) ∧ w'.cell? ⟨b1, o1 + j * 3 + 1, none⟩ = some (.int .i64 rn)) (first | go_keep) (first | fail)
            cases rt with
            | true =>
              have hS : stepR (l.drop (j + 1)) ⟨1, ⟨nm.toArray⟩, -1, rn⟩ = (l.drop j, 0) := by simpa using HSB.out
              have hbx : Below wr.heap.size wr ((wr.alloc (.cells #[.int .u8 1, .string ⟨nm.toArray⟩, .int .i64 (-1), .int .i64 rn] 48)).drew) := ((Below.refl _ _).alloc (Nat.le_refl _) _).drew
              have hTx := hTi.below hbx
              have hdo := do_any _ _ _ _ ⟨1, ⟨nm.toArray⟩, -1, rn⟩ _ hTx (by unfold maxLen; omega) ⟨by simp only; omega, by unfold maxLen; simp [ByteArray.size]; omega⟩
              rw [hS] at hdo
              have hbxw := hbi.trans (hbx.mono hbi.size)
              have hgx := only_drew (only_alloc hgi (.cells #[.int .u8 1, .string ⟨nm.toArray⟩, .int .i64 (-1), .int .i64 rn] 48))
              have hsx := hbxw.size
              clear hS hTx hTi hbi hgi hbx
              go_wp2_with fail
              refine hdo.mono ?_
              rintro e w8 ⟨rfl, hT8, hg8⟩
              rw [errV_zero]
              have hB8 := below_tab hbxw hsx (by omega) hg8
              have hG8 := hgx.trans hg8
              clear hdo hbxw hgx hg8 d0 d1 d2 n0 n1
              go_wp2_with fail
              go_roundw
              case rel => exact ⟨j, by omega, rfl, hT8.mono (by omega), hB8, hG8⟩
              case measure => simp [intOf]
            | false =>
              have hS : stepR (l.drop (j + 1)) ⟨0, ⟨nm.toArray⟩, -1, rn⟩ = (l.drop j, 0) := by simpa using HSB.out
              have hbx : Below wr.heap.size wr ((wr.alloc (.cells #[.int .u8 0, .string ⟨nm.toArray⟩, .int .i64 (-1), .int .i64 rn] 48)).drew) := ((Below.refl _ _).alloc (Nat.le_refl _) _).drew
              have hTx := hTi.below hbx
              have hdo := do_any _ _ _ _ ⟨0, ⟨nm.toArray⟩, -1, rn⟩ _ hTx (by unfold maxLen; omega) ⟨by simp only; omega, by unfold maxLen; simp [ByteArray.size]; omega⟩
              rw [hS] at hdo
              have hbxw := hbi.trans (hbx.mono hbi.size)
              have hgx := only_drew (only_alloc hgi (.cells #[.int .u8 0, .string ⟨nm.toArray⟩, .int .i64 (-1), .int .i64 rn] 48))
              have hsx := hbxw.size
              clear hS hTx hTi hbi hgi hbx
              go_wp2_with fail
              refine hdo.mono ?_
              rintro e w8 ⟨rfl, hT8, hg8⟩
              rw [errV_zero]
              have hB8 := below_tab hbxw hsx (by omega) hg8
              have hG8 := hgx.trans hg8
              clear hdo hbxw hgx hg8 d0 d1 d2 n0 n1
              go_wp2_with fail
              go_roundw
              case rel => exact ⟨j, by omega, rfl, hT8.mono (by omega), hB8, hG8⟩
              case measure => simp [intOf]
      · have hke : k = l.length := by omega
        subst hke
        clear hwhy
        cases hs : sameT l m l.length with
        | true =>
          rw [hs] at HBE
          clear hs
          have hR1r := hr1
          have hbB := hW2.trans (hb.mono hW2.size)
          have hT1r := hT1.below hb
          have hT2r := hT2.below hb
          have hp1 := tput_any _ _ _ l wr hT1r (by omega) HV1.out HB1.out
          clear hT1 hT2 hR1r
          go_wp2_with fail
          refine hp1.mono ?_
          rintro e w5 ⟨A5, c5, rfl, hown5, hb5⟩
          have hT15 := hT1r.below hb5
          have hT25 := hT2r.below hb5
          have hB5 := hbB.trans (hb5.mono hbB.size)
          have hp2 := tput_any _ _ _ m w5 hT25 (by omega) HV2.out HB2.out
          have hr12 := hr1.below hb
          have hr15 := hr12.below (hb5.mono hb.size)
          have hw25 : w2.heap.size ≤ w5.heap.size := Nat.le_trans hb.size hb5.size
          clear hT1r hT2r hp1 hr12
          go_wp2_with fail
          refine hp2.mono ?_
          rintro e w6 ⟨A6, c6, rfl, hown6, hb6⟩
          have hT16 := hT15.below hb6
          have hB6 := hB5.trans (hb6.mono hB5.size)
          have hr16 := hr15.below (hb6.mono hw25)
          have hw26 : w2.heap.size ≤ w6.heap.size := Nat.le_trans hw25 hb6.size
          have hbe := bytes_eq A5 A6 _ _ c5 c6 _ _ (encT l) (encT m) w6 (Reads.of_own (own_below hown5 hb6)) (Reads.of_own hown6)
          rw [HBE.out] at hbe
          clear hp2 hT15 hT25 hB5 hb5 hown5 hown6 hb6 hb hbB hr15 hw25
          go_wp2_with fail
          refine hbe.mono ?_
          rintro e w6' ⟨rfl, rfl⟩
          clear hbe
          go_wp2_with fail
          refine (new_any w6).mono ?_
          rintro e w7 ⟨rfl, hTv, hb7⟩
          have hT17 := hT16.below hb7
          have hB7 := hB6.trans (hb7.mono hB6.size)
          have hr17 := hr16.below (hb7.mono hw26)
          have hw67 : w6.heap.size + 1 < w7.heap.size := hTv.lt.1
          have hvne : w.heap.size ≠ w6.heap.size := by omega
          clear hT16 hB6 hb7 hr16
          clear HBE
          go_wp2_with fail
          go_loopw [14] (fun s14 wr => BackRel w7 w (w6.heap.size + 1) w6.heap.size l s14 wr) (fun s14 _ => (intOf s14 + 1).toNat)
          case atStart => exact ⟨l.length, Nat.le_refl _, rfl, by rw [Nat.sub_self, List.drop_length]; exact hTv, hB7, World.grownBy.refl w7 _⟩
          case round =>
            obtain ⟨i, hi, rfl, hTi, hbi, hgi⟩ := hrel
            rcases Nat.eq_zero_or_pos i with h0 | h0
            · subst h0
              rw [show (((0 : Nat) : Int) - 1) = -1 from rfl]
              have hTz : Tab wr (w6.heap.size + 1) w6.heap.size l.length l := by simpa using hTi
              have hTl := tab_of_do hT17 hgi hTv.isMap hvne
              have hq1 := tput_any _ _ _ l wr hTl (by omega) HV1.out HB1.out
              clear hTi hT17
              go_wp2_with fail
              refine hq1.mono ?_
              rintro e w8 ⟨A8, c8, rfl, hown8, hb8⟩
              have hTz8 := hTz.below hb8
              have hB8 := hbi.trans (hb8.mono hbi.size)
              have hq2 := tput_any _ _ _ l w8 hTz8 (by omega) HV1.out HB1.out
              clear hq1 hTz hTl
              go_wp2_with fail
              refine hq2.mono ?_
              rintro e w9 ⟨A9, c9, rfl, hown9, hb9⟩
              have hB9 := hB8.trans (hb9.mono hB8.size)
              have hbe2 := bytes_eq A8 A9 _ _ c8 c9 _ _ (encT l) (encT l) w9 (Reads.of_own (own_below hown8 hb9)) (Reads.of_own hown9)
              rw [show (encT l == encT l) = true from beq_self_eq_true _] at hbe2
              clear hq2 hown8 hown9 hb9 hTz8 hB8
              go_wp2_with fail
              refine hbe2.mono ?_
              rintro e w9' ⟨rfl, rfl⟩
              go_wp2_with fail
              go_ret
              exact ⟨rfl, hB9⟩
            · obtain ⟨j, rfl⟩ : ∃ j, i = j + 1 := ⟨i - 1, by omega⟩
              rw [show (((j + 1 : Nat) : Int) - 1) = (j : Int) by omega]
              have hjl : j < l.length := by omega
              have hri := hr17.grown hgi (by omega) (fun g e => by injection e with e; omega)
              obtain ⟨b1, o1, rfl, hbl1, hq1⟩ := hri.formN (by omega) (by decide)
              obtain ⟨x0, x1, x2⟩ := cellsR_at l j hjl
              have d0 := hq1 _ _ x0
              have d1 := hq1 _ _ x1
              have d2 := hq1 _ _ x2
              rw [← Nat.add_assoc] at d1 d2
              have HSB := Lib.hid (step_back HR1.out HV1.out HB1.out j hjl)
              have hvl := valid_le (HV1.out _ (List.getElem_mem hjl))
              have hbl7 : b1 < wr.heap.size := Nat.lt_of_lt_of_le (by omega) hgi.size
              clear hq1 x0 x1 x2 hri
              generalize l[j] = r at *
              obtain ⟨nm, rn, rt⟩ := r
              unfold strV at d0
              simp only at d0 d1 d2 hvl HSB
              have q0 : (0 : Int) ≤ (j : Int) := by omega
              have q1 : (j : Int) < (l.length : Int) := by omega
              have n0 := World.new_ne wr ⟨b1, o1 + j * 3, none⟩ d0
              have n1 := World.new_ne wr ⟨b1, o1 + j * 3 + 1, none⟩ d1
              go_wp2_with fail
              go_region_held3 (fun w' => w'.cell? ⟨b1, o1 + j * 3, none⟩ = some (.string ⟨nm.toArray⟩) ∧ w'.cell? ⟨b1, o1 + j * 3 + 1, none⟩ = some (.int .i64 rn)) (first | go_keep) (first | fail)
              cases rt with
              | true =>
                have hS : stepR (l.drop (j + 1)) ⟨1, ⟨nm.toArray⟩, -1, rn⟩ = (l.drop j, 0) := by simpa using HSB.out
                have hbx : Below wr.heap.size wr ((wr.alloc (.cells #[.int .u8 1, .string ⟨nm.toArray⟩, .int .i64 (-1), .int .i64 rn] 48)).drew) := ((Below.refl _ _).alloc (Nat.le_refl _) _).drew
                have hTx := hTi.below hbx
                have hdo := do_any _ _ _ _ ⟨1, ⟨nm.toArray⟩, -1, rn⟩ _ hTx (by unfold maxLen; omega) ⟨by simp only; omega, by unfold maxLen; simp [ByteArray.size]; omega⟩
                rw [hS] at hdo
                have hbxw := hbi.trans (hbx.mono hbi.size)
                have hgx := only_drew (only_alloc hgi (.cells #[.int .u8 1, .string ⟨nm.toArray⟩, .int .i64 (-1), .int .i64 rn] 48))
                have hsx := hbxw.size
                clear hS hTx hTi hbi hgi hbx
                go_wp2_with fail
                refine hdo.mono ?_
                rintro e w8 ⟨rfl, hT8, hg8⟩
                rw [errV_zero]
                have hB8 := below_tab hbxw hsx (by omega) hg8
                have hG8 := hgx.trans hg8
                clear hdo hbxw hgx hg8 d0 d1 d2 n0 n1
                go_wp2_with fail
                go_roundw
                case rel => exact ⟨j, by omega, rfl, hT8.mono (by omega), hB8, hG8⟩
                case measure => simp [intOf]
              | false =>
                have hS : stepR (l.drop (j + 1)) ⟨0, ⟨nm.toArray⟩, -1, rn⟩ = (l.drop j, 0) := by simpa using HSB.out
                have hbx : Below wr.heap.size wr ((wr.alloc (.cells #[.int .u8 0, .string ⟨nm.toArray⟩, .int .i64 (-1), .int .i64 rn] 48)).drew) := ((Below.refl _ _).alloc (Nat.le_refl _) _).drew
                have hTx := hTi.below hbx
                have hdo := do_any _ _ _ _ ⟨0, ⟨nm.toArray⟩, -1, rn⟩ _ hTx (by unfold maxLen; omega) ⟨by simp only; omega, by unfold maxLen; simp [ByteArray.size]; omega⟩
                rw [hS] at hdo
                have hbxw := hbi.trans (hbx.mono hbi.size)
                have hgx := only_drew (only_alloc hgi (.cells #[.int .u8 0, .string ⟨nm.toArray⟩, .int .i64 (-1), .int .i64 rn] 48))
                have hsx := hbxw.size
                clear hS hTx hTi hbi hgi hbx
                go_wp2_with fail
                refine hdo.mono ?_
                rintro e w8 ⟨rfl, hT8, hg8⟩
                rw [errV_zero]
                have hB8 := below_tab hbxw hsx (by omega) hg8
                have hG8 := hgx.trans hg8
                clear hdo hbxw hgx hg8 d0 d1 d2 n0 n1
                go_wp2_with fail
                go_roundw
                case rel => exact ⟨j, by omega, rfl, hT8.mono (by omega), hB8, hG8⟩
                case measure => simp [intOf]
        | false =>
          rw [hs] at HBE
          clear hs
          have hR1r := hr1
          have hbB := hW2.trans (hb.mono hW2.size)
          have hT1r := hT1.below hb
          have hT2r := hT2.below hb
          have hp1 := tput_any _ _ _ l wr hT1r (by omega) HV1.out HB1.out
          clear hT1 hT2 hR1r
          go_wp2_with fail
          refine hp1.mono ?_
          rintro e w5 ⟨A5, c5, rfl, hown5, hb5⟩
          have hT15 := hT1r.below hb5
          have hT25 := hT2r.below hb5
          have hB5 := hbB.trans (hb5.mono hbB.size)
          have hp2 := tput_any _ _ _ m w5 hT25 (by omega) HV2.out HB2.out
          have hr12 := hr1.below hb
          have hr15 := hr12.below (hb5.mono hb.size)
          have hw25 : w2.heap.size ≤ w5.heap.size := Nat.le_trans hb.size hb5.size
          clear hT1r hT2r hp1 hr12
          go_wp2_with fail
          refine hp2.mono ?_
          rintro e w6 ⟨A6, c6, rfl, hown6, hb6⟩
          have hT16 := hT15.below hb6
          have hB6 := hB5.trans (hb6.mono hB5.size)
          have hr16 := hr15.below (hb6.mono hw25)
          have hw26 : w2.heap.size ≤ w6.heap.size := Nat.le_trans hw25 hb6.size
          have hbe := bytes_eq A5 A6 _ _ c5 c6 _ _ (encT l) (encT m) w6 (Reads.of_own (own_below hown5 hb6)) (Reads.of_own hown6)
          rw [HBE.out] at hbe
          clear hp2 hT15 hT25 hB5 hb5 hown5 hown6 hb6 hb hbB hr15 hw25
          go_wp2_with fail
          refine hbe.mono ?_
          rintro e w6' ⟨rfl, rfl⟩
          clear hbe
          go_wp2_with fail
          refine (new_any w6).mono ?_
          rintro e w7 ⟨rfl, hTv, hb7⟩
          have hT17 := hT16.below hb7
          have hB7 := hB6.trans (hb7.mono hB6.size)
          have hr17 := hr16.below (hb7.mono hw26)
          have hw67 : w6.heap.size + 1 < w7.heap.size := hTv.lt.1
          have hvne : w.heap.size ≠ w6.heap.size := by omega
          clear hT16 hB6 hb7 hr16
          clear HBE
          go_wp2_with fail
          go_loopw [14] (fun s14 wr => BackRel w7 w (w6.heap.size + 1) w6.heap.size l s14 wr) (fun s14 _ => (intOf s14 + 1).toNat)
          case atStart => exact ⟨l.length, Nat.le_refl _, rfl, by rw [Nat.sub_self, List.drop_length]; exact hTv, hB7, World.grownBy.refl w7 _⟩
          case round =>
            obtain ⟨i, hi, rfl, hTi, hbi, hgi⟩ := hrel
            rcases Nat.eq_zero_or_pos i with h0 | h0
            · subst h0
              rw [show (((0 : Nat) : Int) - 1) = -1 from rfl]
              have hTz : Tab wr (w6.heap.size + 1) w6.heap.size l.length l := by simpa using hTi
              have hTl := tab_of_do hT17 hgi hTv.isMap hvne
              have hq1 := tput_any _ _ _ l wr hTl (by omega) HV1.out HB1.out
              clear hTi hT17
              go_wp2_with fail
              refine hq1.mono ?_
              rintro e w8 ⟨A8, c8, rfl, hown8, hb8⟩
              have hTz8 := hTz.below hb8
              have hB8 := hbi.trans (hb8.mono hbi.size)
              have hq2 := tput_any _ _ _ l w8 hTz8 (by omega) HV1.out HB1.out
              clear hq1 hTz hTl
              go_wp2_with fail
              refine hq2.mono ?_
              rintro e w9 ⟨A9, c9, rfl, hown9, hb9⟩
              have hB9 := hB8.trans (hb9.mono hB8.size)
              have hbe2 := bytes_eq A8 A9 _ _ c8 c9 _ _ (encT l) (encT l) w9 (Reads.of_own (own_below hown8 hb9)) (Reads.of_own hown9)
              rw [show (encT l == encT l) = true from beq_self_eq_true _] at hbe2
              clear hq2 hown8 hown9 hb9 hTz8 hB8
              go_wp2_with fail
              refine hbe2.mono ?_
              rintro e w9' ⟨rfl, rfl⟩
              go_wp2_with fail
              go_ret
              exact ⟨rfl, hB9⟩
            · obtain ⟨j, rfl⟩ : ∃ j, i = j + 1 := ⟨i - 1, by omega⟩
              rw [show (((j + 1 : Nat) : Int) - 1) = (j : Int) by omega]
              have hjl : j < l.length := by omega
              have hri := hr17.grown hgi (by omega) (fun g e => by injection e with e; omega)
              obtain ⟨b1, o1, rfl, hbl1, hq1⟩ := hri.formN (by omega) (by decide)
              obtain ⟨x0, x1, x2⟩ := cellsR_at l j hjl
              have d0 := hq1 _ _ x0
              have d1 := hq1 _ _ x1
              have d2 := hq1 _ _ x2
              rw [← Nat.add_assoc] at d1 d2
              have HSB := Lib.hid (step_back HR1.out HV1.out HB1.out j hjl)
              have hvl := valid_le (HV1.out _ (List.getElem_mem hjl))
              have hbl7 : b1 < wr.heap.size := Nat.lt_of_lt_of_le (by omega) hgi.size
              clear hq1 x0 x1 x2 hri
              generalize l[j] = r at *
              obtain ⟨nm, rn, rt⟩ := r
              unfold strV at d0
              simp only at d0 d1 d2 hvl HSB
              have q0 : (0 : Int) ≤ (j : Int) := by omega
              have q1 : (j : Int) < (l.length : Int) := by omega
              have n0 := World.new_ne wr ⟨b1, o1 + j * 3, none⟩ d0
              have n1 := World.new_ne wr ⟨b1, o1 + j * 3 + 1, none⟩ d1
              go_wp2_with fail
              go_region_held3 (fun w' => w'.cell? ⟨b1, o1 + j * 3, none⟩ = some (.string ⟨nm.toArray⟩) ∧ w'.cell? ⟨b1, o1 + j * 3 + 1, none⟩ = some (.int .i64 rn)) (first | go_keep) (first | fail)
              cases rt with
              | true =>
                have hS : stepR (l.drop (j + 1)) ⟨1, ⟨nm.toArray⟩, -1, rn⟩ = (l.drop j, 0) := by simpa using HSB.out
                have hbx : Below wr.heap.size wr ((wr.alloc (.cells #[.int .u8 1, .string ⟨nm.toArray⟩, .int .i64 (-1), .int .i64 rn] 48)).drew) := ((Below.refl _ _).alloc (Nat.le_refl _) _).drew
                have hTx := hTi.below hbx
                have hdo := do_any _ _ _ _ ⟨1, ⟨nm.toArray⟩, -1, rn⟩ _ hTx (by unfold maxLen; omega) ⟨by simp only; omega, by unfold maxLen; simp [ByteArray.size]; omega⟩
                rw [hS] at hdo
                have hbxw := hbi.trans (hbx.mono hbi.size)
                have hgx := only_drew (only_alloc hgi (.cells #[.int .u8 1, .string ⟨nm.toArray⟩, .int .i64 (-1), .int .i64 rn] 48))
                have hsx := hbxw.size
                clear hS hTx hTi hbi hgi hbx
                go_wp2_with fail
                refine hdo.mono ?_
                rintro e w8 ⟨rfl, hT8, hg8⟩
                rw [errV_zero]
                have hB8 := below_tab hbxw hsx (by omega) hg8
                have hG8 := hgx.trans hg8
                clear hdo hbxw hgx hg8 d0 d1 d2 n0 n1
                go_wp2_with fail
                go_roundw
                case rel => exact ⟨j, by omega, rfl, hT8.mono (by omega), hB8, hG8⟩
                case measure => simp [intOf]
              | false =>
                have hS : stepR (l.drop (j + 1)) ⟨0, ⟨nm.toArray⟩, -1, rn⟩ = (l.drop j, 0) := by simpa using HSB.out
                have hbx : Below wr.heap.size wr ((wr.alloc (.cells #[.int .u8 0, .string ⟨nm.toArray⟩, .int .i64 (-1), .int .i64 rn] 48)).drew) := ((Below.refl _ _).alloc (Nat.le_refl _) _).drew
                have hTx := hTi.below hbx
                have hdo := do_any _ _ _ _ ⟨0, ⟨nm.toArray⟩, -1, rn⟩ _ hTx (by unfold maxLen; omega) ⟨by simp only; omega, by unfold maxLen; simp [ByteArray.size]; omega⟩
                rw [hS] at hdo
                have hbxw := hbi.trans (hbx.mono hbi.size)
                have hgx := only_drew (only_alloc hgi (.cells #[.int .u8 0, .string ⟨nm.toArray⟩, .int .i64 (-1), .int .i64 rn] 48))
                have hsx := hbxw.size
                clear hS hTx hTi hbi hgi hbx
                go_wp2_with fail
                refine hdo.mono ?_
                rintro e w8 ⟨rfl, hT8, hg8⟩
                rw [errV_zero]
                have hB8 := below_tab hbxw hsx (by omega) hg8
                have hG8 := hgx.trans hg8
                clear hdo hbxw hgx hg8 d0 d1 d2 n0 n1
                go_wp2_with fail
                go_roundw
                case rel => exact ⟨j, by omega, rfl, hT8.mono (by omega), hB8, hG8⟩
                case measure => simp [intOf]
end Go.Proofs.Ytmondfckpgjikaa
