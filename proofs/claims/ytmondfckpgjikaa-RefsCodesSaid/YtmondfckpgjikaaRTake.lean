/- The walk of refs.Take. -/
import Derived.Test.YtmondfckpgjikaaVTake
import Derived.StillTailTactics
namespace Go.Proofs.Ytmondfckpgjikaa
open Go.RowKit Go.WideMaps
theorem dec_tbk (c : Nat) (before b : List UInt8) (acc : List Row) : dec (c + 1) before b acc = match tbk b with
    | none => none
    | some (p, u) => if validB p = false ∨ bytesBefore before p = false then none else
        match b.drop u with
        | [] => none
        | k :: t => if 1 < k.toNat then none else match vtk 0 0 t with
          | none => none
          | some (m, u2) => if 9223372036854775807 < m then none else dec c p (t.drop u2) (putR ⟨p, m, k.toNat == 1⟩ acc) := by
  rw [dec]
  unfold tbk
  cases vtk 0 0 b with
  | none => rfl
  | some q =>
    obtain ⟨n, u⟩ := q
    simp only
    split
    · rfl
    · split
      · rfl
      · rfl
theorem tbk_le {b p : List UInt8} {u : Nat} (h : tbk b = some (p, u)) : 1 ≤ u ∧ u ≤ b.length ∧ p.length ≤ 32 := by
  unfold tbk at h
  cases hv : vtk 0 0 b with
  | none => rw [hv] at h; cases h
  | some q =>
    obtain ⟨n, k⟩ := q
    have := vtk_le b 0 0 n k (by omega) (by decide) hv
    rw [hv] at h
    simp only at h
    split at h
    · cases h
    · split at h
      · cases h
      · injection h with h
        injection h with h1 h2
        subst h1 h2
        rw [List.length_take, List.length_drop]
        omega
theorem less_bef : ∀ (a b : List UInt8), Op.bytesLess a b = bytesBefore a b
  | [], [] => rfl
  | [], _ :: _ => rfl
  | _ :: _, [] => rfl
  | x :: s, y :: t => by
    have ih := less_bef s t
    unfold Op.bytesLess bytesBefore
    rw [ih]
theorem leq_no {p q : List UInt8} (h : bytesBefore q p = true) : Op.bytesLess p q = false ∧ (p == q) = false := by
  rw [less_bef]
  constructor
  · cases h2 : bytesBefore p q with
    | false => rfl
    | true =>
      have := WideShapes.bytes_trans _ _ _ h h2
      rw [WideAt.bytes_irrefl] at this
      cases this
  · cases h2 : p == q with
    | false => rfl
    | true =>
      rw [beq_iff_eq] at h2
      subst h2
      rw [WideAt.bytes_irrefl] at h
      cases h
theorem leq_yes {p q : List UInt8} (h : bytesBefore q p = false) : Op.bytesLess p q = true ∨ (Op.bytesLess p q = false ∧ (p == q) = true) := by
  rw [less_bef]
  cases h2 : bytesBefore p q with
  | true => exact .inl rfl
  | false =>
    refine .inr ⟨rfl, ?_⟩
    rw [beq_iff_eq]
    by_cases e : p = q
    · exact e
    · rcases WideAt.bytes_total _ _ e with h3 | h3
      · rw [h3] at h2; cases h2
      · rw [h3] at h; cases h
def TkRel (w : World) (B : Nat) (l : List UInt8) (tb mb : Nat) (s0 s4 s8 : Value) (wr : World) : Prop :=
  ∃ (cnt : Nat) (bl before : List UInt8) (acc : List Row) (A : Option Addr) (n c r : Nat), s4 = .int .u64 cnt ∧ cnt < 18446744073709551616 ∧ s0 = .slice A n c ∧ n ≤ c ∧ Reads wr B 1 A n (bl.map byteV) ∧
    s8 = .string ⟨before.toArray⟩ ∧ Tab wr tb mb r acc ∧ r + n ≤ 1000000000 ∧ Hid (take l = dec cnt before bl acc) ∧ Below w.heap.size w wr
def TkEnd (w : World) (l : List UInt8) (e : Ending) (w' : World) : Prop :=
  Below w.heap.size w w' ∧ match take l with
    | none => e = .returned (.tuple #[.pointer none, .iface 31 (.int .i64 4)])
    | some rows => ∃ r, e = .returned (.tuple #[.pointer (some ⟨w.heap.size + 1, 0, none⟩), .nilIface]) ∧ Tab w' (w.heap.size + 1) w.heap.size r rows
theorem tk_none {w w' : World} {l : List UInt8} (h : take l = none) (hb : Below w.heap.size w w') : TkEnd w l (.returned (.tuple #[.pointer none, .iface 31 (.int .i64 4)])) w' := by
  unfold TkEnd
  rw [h]
  exact ⟨hb, rfl⟩
set_option maxRecDepth 100000 in
set_option maxHeartbeats 4000000 in
theorem take_any (A : Option Addr) (n c B : Nat) (l : List UInt8) (w : World) (hr : Reads w B 1 A n (l.map byteV)) (hB : B ≤ w.heap.size) (hn : n ≤ 1000000000) (hc : n ≤ c) :
    Calls Try.prog 37 #[.slice A n c] w (TkEnd w l) := by
  have hl : l.length = n := by have := hr.1; simpa using this
  have hvt := vtake_any A n c B l w hr hn
  unfold VtEnd at hvt
  cases hv : vtk 0 0 l with
  | none =>
    rw [hv] at hvt
    simp only [vtR] at hvt
    have HV := Lib.hid (show take l = none by unfold take; rw [hv])
    clear hv hl
    go_enter Try.func37, Try.ntmps37
    go_wp2_with fail
    refine hvt.mono ?_
    rintro e w' ⟨rfl, rfl⟩
    clear hvt
    go_wp2_with fail
    go_ret2
    exact tk_none HV.out (Below.refl _ _)
  | some q =>
    obtain ⟨m, u⟩ := q
    obtain ⟨hm1, hm2, hm3⟩ := vtk_le l 0 0 m u (by omega) (by decide) hv
    rw [hl] at hm2
    obtain ⟨ad, _, rfl, _⟩ := hr.at_ (k := 0) (by omega)
    rw [hv] at hvt
    simp only [vtR] at hvt
    have HV := Lib.hid (show take l = dec m [] (l.drop u) [] by unfold take; rw [hv])
    have HL := Lib.hid hl
    clear hv hl
    have hsl := fun W => slice_from ad n c u (by omega) hc W
    have hcut := hr.cut (k := u) (cap := c) (by omega) hc
    rw [Nat.mul_one, ← List.map_drop] at hcut
    obtain ⟨A2, hA2⟩ : ∃ A2, A2 = if c = u then some ad else (some ad).map (·.add (u * 1)) := ⟨_, rfl⟩
    simp only [Nat.mul_one] at hA2 hcut hsl
    rw [← hA2] at hcut
    simp only [← hA2] at hsl
    have HCUT := Lib.hid hcut
    clear hA2 hcut
    go_enter Try.func37, Try.ntmps37
    go_wp2_with fail
    refine hvt.mono ?_
    rintro e w' ⟨rfl, rfl⟩
    clear hvt
    go_wp2_with fail
    refine (new_any w).mono ?_
    rintro e w1 ⟨rfl, hT1, hb1⟩
    have hr1 := HCUT.out.below (hb1.mono hB)
    have hbr : n - u ≤ 1000000000 := by omega
    have hnc : n - u ≤ c - u := by omega
    clear hsl hr hn hc hm2 hm3
    go_wp2_with fail
    go_loopw [0, 4, 8] (fun s0 s4 s8 wr => TkRel w B l (w.heap.size + 1) w.heap.size s0 s4 s8 wr) (fun _ s4 _ _ => (intOf s4).toNat)
    case atStart => exact ⟨m, l.drop u, [], [], A2, n - u, c - u, 0, rfl, hm1, rfl, hnc, hr1, rfl, hT1, by omega, HV.out, hb1⟩
    case round =>
      obtain ⟨cnt, bl, before, acc, Ab, nb, cb, r, rfl, hcnt, rfl, hnbc, hrb, rfl, hT, hrn, HD, hb⟩ := hrel
      have hBr : B ≤ wr.heap.size := Nat.le_trans hB hb.size
      have HBL := Lib.hid (show bl.length = nb by have := hrb.1; simpa using this)
      cases cnt with
      | zero =>
        rw [dec] at HD
        have g0 : ¬ (0 : Int) < ((0 : Nat) : Int) := by omega
        by_cases hz : nb = 0
        · have hbn : bl = [] := List.eq_nil_of_length_eq_zero (by rw [HBL.out]; exact hz)
          rw [if_pos hbn] at HD
          subst hz
          have HT := Lib.hid hT
          clear hbn
          go_wp2_with fail
          go_ret2
          unfold TkEnd
          rw [HD.out]
          exact ⟨hb, r, rfl, HT.out⟩
        · have hbn : bl ≠ [] := fun e => hz (by rw [← HBL.out, e]; rfl)
          rw [if_neg hbn] at HD
          have hz1 : ((nb : Int) == 0) = false := by simpa using hz
          have hz2 : ((nb : Int) != 0) = true := by simpa using hz
          clear hbn
          go_wp2_with fail
          go_ret2
          exact tk_none HD.out hb
      | succ cnt =>
        have htb := tb_any Ab nb cb B bl wr hrb hBr (by omega) hnbc
        rw [dec_tbk] at HD
        have g0 : (0 : Int) < ((cnt + 1 : Nat) : Int) := by omega
        unfold TbEnd at htb
        cases ht : tbk bl with
        | none =>
          rw [ht] at htb HD
          simp only at htb HD
          clear ht
          go_wp2_with fail
          refine htb.mono ?_
          clear htb
          rintro e w2 ⟨hb2, code, rfl⟩
          have hb' := hb.trans (hb2.mono hb.size)
          go_wp2_with fail
          go_ret2
          exact tk_none HD.out hb'
        | some q =>
          obtain ⟨p, us⟩ := q
          obtain ⟨hu1, hu2, hpl⟩ := tbk_le ht
          rw [HBL.out] at hu2
          rw [ht] at htb HD
          simp only at htb HD
          clear ht
          obtain ⟨ad2, _, rfl, _⟩ := hrb.at_ (k := 0) (by omega)
          go_wp2_with fail
          refine htb.mono ?_
          clear htb
          rintro e w2 ⟨hb2, Ap, cp, rfl, hrp⟩
          have hstr := str_of w2 Ap _ cp _ p hrp
          have hb' := hb.trans (hb2.mono hb.size)
          have hrb2 := hrb.below (hb2.mono hBr)
          have hT2 := hT.below hb2
          have hBw : B ≤ w2.heap.size := Nat.le_trans hBr hb2.size
          clear hrb hT hb hb2 hrp hBr
          go_wp2_with fail
          refine (valid_any ⟨p.toArray⟩ w2 (by simp [ByteArray.size, maxLen]; omega)).mono ?_
          rintro e w' ⟨rfl, rfl⟩
          by_cases hv : validB p = true
          · by_cases hbp : bytesBefore before p = true
            · obtain ⟨q1, q2⟩ := leq_no hbp
              rw [if_neg (by rw [hv, hbp]; simp)] at HD
              have hsl := fun W => slice_from ad2 nb cb us hu2 hnbc W
              have hcut := hrb2.cut (k := us) (cap := cb) hu2 hnbc
              rw [Nat.mul_one, ← List.map_drop] at hcut
              obtain ⟨A3, hA3⟩ : ∃ A3, A3 = if cb = us then some ad2 else (some ad2).map (·.add (us * 1)) := ⟨_, rfl⟩
              simp only [Nat.mul_one] at hA3 hcut hsl
              rw [← hA3] at hcut
              simp only [← hA3] at hsl
              have HDL := Lib.hid (show (bl.drop us).length = nb - us by rw [List.length_drop, HBL.out])
              clear hA3 hbp hrb2
              cases hd : bl.drop us with
              | nil =>
                rw [hd] at HD
                simp only at HD
                have hz : nb - us = 0 := by rw [← HDL.out, hd]; rfl
                clear hd hcut
                go_wp2_with fail
                go_ret2
                exact tk_none HD.out hb'
              | cons x t =>
                rw [hd] at HD hcut HDL
                simp only at HD
                have hz : ¬ nb - us = 0 := by rw [← HDL.out]; simp
                have hz1 : 0 < nb - us := by omega
                have hz2 : (((nb - us : Nat) : Int) == 0) = false := by simp; omega
                obtain ⟨ad3, y3, rfl, hb3, hy3, hc3⟩ := hcut.at_ (k := 0) hz1
                obtain rfl : y3 = byteV x := by simpa using hy3.symm
                have hc3 : w2.cell? ad3 = some (.int .u8 (x.toNat : Int)) := by simpa [Addr.add, byteV] using hc3
                have hx256 : x.toNat < 256 := UInt8.toNat_lt _
                clear hd hy3
                by_cases hx1 : 1 < x.toNat
                · rw [if_pos hx1] at HD
                  have d1 : decide ((1 : Int) < (x.toNat : Int)) = true := by simp; omega
                  clear hcut
                  go_wp2_with fail
                  go_ret2
                  exact tk_none HD.out hb'
                · rw [if_neg hx1] at HD
                  have d1 : decide ((1 : Int) < (x.toNat : Int)) = false := by simp; omega
                  have hsl1 : ∀ W : World, (Instr.slice 58 (.slice (some ad3) (nb - us) (cb - us)) (some (.int .i64 1)) none none).run Try.prog W = .ok (.slice (if cb - us = 1 then some ad3 else (some ad3).map (·.add (1 * 1))) (nb - us - 1) (cb - us - 1)) W := fun W => slice_from ad3 (nb - us) (cb - us) 1 (by omega) (by omega) W
                  have hcut1 := hcut.cut (k := 1) (cap := cb - us) (by omega) (by omega)
                  rw [Nat.mul_one, List.map_cons, List.drop_succ_cons, List.drop_zero] at hcut1
                  obtain ⟨A4, hA4⟩ : ∃ A4, A4 = if cb - us = 1 then some ad3 else (some ad3).map (·.add (1 * 1)) := ⟨_, rfl⟩
                  simp only [Nat.mul_one] at hA4 hcut1 hsl1
                  rw [← hA4] at hcut1
                  simp only [← hA4] at hsl1
                  have hnb := nb_any A4 (nb - us - 1) (cb - us - 1) B t w2 hcut1 (by omega) (by omega)
                  have HTL := Lib.hid (show t.length = nb - us - 1 by have := HDL.out; simp at this; omega)
                  unfold NbEnd at hnb
                  rw [HTL.out] at hnb
                  clear hA4
                  cases hvn : vtk 0 0 t with
                  | none =>
                    rw [hvn] at hnb HD
                    simp only at hnb HD
                    clear hvn hcut
                    go_wp2_with fail
                    (with_reducible refine hnb.mono ?_)
                    clear hnb
                    rintro e w3 ⟨hb3', rfl⟩
                    have hb3'' := hb'.trans (hb3'.mono hb'.size)
                    go_wp2_with fail
                    go_ret2
                    exact tk_none HD.out hb3''
                  | some q =>
                    obtain ⟨mm, u2⟩ := q
                    obtain ⟨_, hu3, _⟩ := vtk_le t 0 0 mm u2 (by omega) (by decide) hvn
                    rw [hvn] at hnb HD
                    simp only at hnb HD
                    clear hvn
                    by_cases hbig : 9223372036854775807 < mm
                    · simp only [if_pos hbig] at hnb
                      rw [if_pos hbig] at HD
                      clear hcut
                      go_wp2_with fail
                      (with_reducible refine hnb.mono ?_)
                      clear hnb
                      rintro e w3 ⟨hb3', rfl⟩
                      have hb3'' := hb'.trans (hb3'.mono hb'.size)
                      go_wp2_with fail
                      go_ret2
                      exact tk_none HD.out hb3''
                    · simp only [if_neg hbig] at hnb
                      rw [if_neg hbig] at HD
                      clear hcut1
                      go_wp2_with fail
                      (with_reducible refine hnb.mono ?_)
                      clear hnb
                      rintro e w3 ⟨hb3', A5, rfl, hr5⟩
                      have hb3'' := hb'.trans (hb3'.mono hb'.size)
                      have hT3 := hT2.below hb3'
                      have hc3' : w3.cell? ad3 = some (.int .u8 (x.toNat : Int)) := by rw [hb3'.cell (p := ad3) (by omega)]; exact hc3
                      have HTL' := HTL.out
                      have hw3 : B ≤ w3.heap.size := Nat.le_trans hBw hb3'.size
                      clear hcut hc3 hT2 hb3' hb' hsl hsl1 hstr
                      have hTd : Tab w3.drew (w.heap.size + 1) w.heap.size r acc := hT3
                      obtain ⟨w4, hrun, hT4, hg4⟩ := hTd.store (by unfold maxLen; omega) ⟨p.toArray⟩ (by simp [ByteArray.size, maxLen]; omega) (mm : Int) ((x.toNat : Int) == 1)
                      have hc0 := hT3.cell
                      have HT4 := Lib.hid hT4
                      have HRUN := Lib.hid hrun
                      have HG4 := Lib.hid hg4
                      clear hT3 hTd hT4 hrun hg4
                      go_wp2_with fail
                      go_still_tail 11, (by kernel_rfl)
                      change wpList _ _ _ _ _ w3.drew
                      have hrun := HRUN.out
                      have hbd : Below w.heap.size w w3.drew := hb3''.drew
                      have HG := Lib.hid (hbd.grown HG4.out (by have := hb3''.size; exact this) (fun g e => by injection e with e; omega))
                      have HRR := Lib.hid (hr5.drew.grown HG4.out hw3 (fun g e => by cases e; exact hB))
                      clear hbd hc0 hc3'
                      generalize w3.drew = w5 at *
                      go_wp2_with fail
                      go_roundw
                      case rel =>
                        have hbq : ((x.toNat : Int) == 1) = (x.toNat == 1) := by
                          by_cases h : x.toNat = 1
                          · rw [h]; rfl
                          · have h1 : ((x.toNat : Int) == 1) = false := by simp; omega
                            have h2 : (x.toNat == 1) = false := by simpa using h
                            rw [h1, h2]
                        have hT := HT4.out
                        rw [hbq] at hT
                        exact ⟨cnt, t.drop u2, p, _, A5, _, _, r + 1, by go_num, by omega, rfl, by omega, HRR.out, rfl, hT, by omega, HD, HG.out⟩
                      case measure => simp [intOf]
            · rw [if_pos (.inr (by simpa using hbp))] at HD
              rcases leq_yes (show bytesBefore before p = false by simpa using hbp) with q1 | ⟨q1, q2⟩
              · clear hbp
                go_wp2_with fail
                go_ret2
                exact tk_none HD.out hb'
              · clear hbp
                go_wp2_with fail
                go_ret2
                exact tk_none HD.out hb'
          · rw [if_pos (.inl (by simpa using hv))] at HD
            have hv' : validB p = false := by simpa using hv
            clear hv
            go_wp2_with fail
            go_ret2
            exact tk_none HD.out hb'
end Go.Proofs.Ytmondfckpgjikaa
