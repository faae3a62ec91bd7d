/- The walks of varint.PutBytes, Bytes, and Put of a table. -/
import Derived.Test.YtmondfckpgjikaaVar
import Derived.Test.YtmondfckpgjikaaIs
import Derived.Test.YtmondfckpgjikaaEnc
import Derived.Laws.BytesArg
import Derived.Lib.ConvBytes
namespace Go.Proofs.Ytmondfckpgjikaa
open Go.RowKit Go.WideMaps
theorem of_nums (l : List UInt8) : ((l.map fun b => (b.toNat : Int)).map fun n : Int => UInt8.ofNat n.toNat) = l := by
  induction l with
  | nil => rfl
  | cons x l ih => simp only [List.map_cons, ih, Int.toNat_natCast, UInt8.ofNat_toNat]
theorem str_of (w : World) (A : Option Addr) (n c B : Nat) (l : List UInt8) (hr : Reads w B 1 A n (l.map byteV)) :
    (convert 58 9 (.slice A n c)).run Try.prog w = .ok (.string ⟨l.toArray⟩) w := by
  rcases Nat.eq_zero_or_pos n with h0 | h0
  · subst h0
    have hl : l = [] := List.eq_nil_of_length_eq_zero (by have := hr.1; simpa using this)
    subst hl
    rcases A with _ | ad
    · exact run_convert_bytes_nil w 58 5 Try.underlying58 Try.underlying5 0 c 9 Try.underlying9
    · rw [run_convert_bytes_string w 58 9 5 _ _ _ Try.underlying58 Try.underlying5 Try.underlying9]
      have := run_bytesToString (P := Try.prog) w ad 0 c [] (run_loadCells_list (P := Try.prog) w ad [] (fun j v hj => by simp at hj))
      exact this
  · obtain ⟨b, o, rfl, _, hc⟩ := hr.form h0
    have hl : l.length = n := by have := hr.1; simpa using this
    have := run_convert_bytes_arg (P := Try.prog) w 58 5 Try.underlying58 Try.underlying5 b o n c (l.map fun b => (b.toNat : Int)) (by simpa using hl) (fun i hi => by
      have h2 : (l.map byteV)[i]? = some (byteV (l[i]'(by omega))) := by simp [hl, hi]
      rw [hc i _ h2]
      simp [byteV, hl, hi, List.getD]) 9 Try.underlying9
    rw [this]
    unfold strOfNums
    rw [of_nums]
/-- The two byte slices have the same elements, or not. -/
theorem bytes_eq (A1 A2 : Option Addr) (n1 n2 c1 c2 B1 B2 : Nat) (l1 l2 : List UInt8) (w : World) (hr1 : Reads w B1 1 A1 n1 (l1.map byteV)) (hr2 : Reads w B2 1 A2 n2 (l2.map byteV)) :
    Calls Try.prog 29 #[.slice A1 n1 c1, .slice A2 n2 c2] w fun e w' => e = .returned (.bool (l1 == l2)) ∧ w = w' := by
  have e1 := str_of w A1 n1 c1 B1 l1 hr1
  have e2 := str_of w A2 n2 c2 B2 l2 hr2
  clear hr1 hr2
  go_enter Try.func29, Try.ntmps29
  go_wp2
  go_ret
  exact ⟨rfl, rfl⟩
theorem conv_below (w : World) (s : ByteArray) : Below w.heap.size w (Lib.bytesWorld w 5 s) :=
  ⟨rfl, rfl, rfl, by rw [show (Lib.bytesWorld w 5 s).heap.size = w.heap.size + 1 from Lib.bytesWorld_size w 5 s]; exact Nat.le_succ _, fun k hk => Lib.bytesWorld_at_old w 5 s k hk⟩
theorem conv_reads (w : World) (nm : List UInt8) : Reads (Lib.bytesWorld w 5 ⟨nm.toArray⟩) (Lib.bytesWorld w 5 ⟨nm.toArray⟩).heap.size 1 (some ⟨w.heap.size, 0, none⟩) nm.length (nm.map byteV) := by
  refine ⟨by simp, fun _ => ⟨_, rfl, by show w.heap.size < _; rw [Lib.bytesWorld_size]; omega, fun j u hu => ?_⟩⟩
  have hj : j < nm.length := by have := (List.getElem?_eq_some_iff.1 hu).1; simpa using this
  rw [addr_add, Nat.zero_add, Lib.bytesWorld_cell w 5 ⟨nm.toArray⟩ j (by simpa [ByteArray.size] using hj), ← hu]
  simp [byteV, List.getD, hj]
set_option maxRecDepth 100000 in
set_option maxHeartbeats 1000000 in
theorem putBytes_any (A : Option Addr) (n c B : Nat) (l : List UInt8) (w : World) (hr : Reads w B 1 A n (l.map byteV)) (hB : B ≤ w.heap.size) (hl : l.length = n) (hn : n ≤ 1000000000) :
    Calls Try.prog 46 #[.slice A n c] w (VpEnd w (vput n ++ l)) := by
  obtain ⟨i0, hi, hz0, hz1, hz2⟩ := info_parts Try.info5
  have HL := Lib.hid hl
  have hvl := vput_le (n := n) (by omega)
  clear hl
  go_enter Try.func46, Try.ntmps46
  go_wp2_with fail
  refine (vput_any n w (by omega)).mono ?_
  rintro e w1 ⟨A1, c1, rfl, hown, hb⟩
  have hr1 := hr.below (hb.mono hB)
  have hbs := hb.size
  generalize vput n = p at *
  go_wp2_with (at_builtin; refine wpList_append_any _ rfl _ _ 58 rfl w.heap.size 5 i0 (.int .u8 0) 1 1 Try.underlying58 hi hz0 hz1 hz2 rfl (by decide) _ _ _ rfl hown B _ _ _ (l.map byteV) rfl hr1 (oneB _) (by unfold maxLen; omega) (by omega) hbs ?_)
  intro v4 w4 hown4 hg4 _
  obtain ⟨A4, c4, rfl⟩ := own_form hown4
  have hb4 := below_own hb hb.size (Nat.le_refl _) hown hg4
  have HO := Lib.hid hown4
  clear hg4 hown4 hown hr1
  go_wp2_with fail
  go_ret
  have ho := HO.out
  unfold VpEnd
  rw [List.length_append, HL.out, List.map_append]
  exact ⟨A4, c4, rfl, ho, hb4⟩
theorem Tab.look1 {w : World} {tb mb n : Nat} {rows : List Row} (h : Tab w tb mb n rows) (s : ByteArray) (hs : s.size ≤ maxLen) :
    (Instr.lookup 71 (.map (some mb)) (.string s) false).run Try.prog w = .ok (.agg #[.int .i64 (gotR rows s.data.toList).1, .bool (gotR rows s.data.toList).2]) w := by
  obtain ⟨v, ps, hrun, hv⟩ := h.2.1.lookup (t := 71) (e := 75) law9 Try.underlying71 (zero75 w) (tgtR_mk 0 false) (keyOf_string_mk Try.underlying9 hs)
  rw [atKey_datum] at hv
  rw [hrun]
  unfold gotR
  cases hf : findR s.data.toList rows with
  | none => rw [hf] at hv; rw [tgtR_inv hv]
  | some r => rw [hf] at hv; rw [tgtR_inv hv]
def AllB (l : List Row) : Prop := ∀ r ∈ l, 0 ≤ r.n ∧ r.n ≤ 9223372036854775807
def TpRel (w0 w1 : World) (L : Nat) (l : List Row) (nv : Value) (v i : Value) (wr : World) : Prop :=
  ∃ (k : Nat) (A : Option Addr) (c : Nat) (out : List UInt8), k ≤ L ∧ i = .int .i64 k ∧ out = vput L ++ (l.take k).flatMap encR ∧ v = .slice A out.length c ∧ out.length ≤ 10 + 64 * k ∧ wr.ownsRow w0.heap.size 5 1 v out.length (out.map byteV) ∧ Below w0.heap.size w0 wr ∧ wr.ownsRow w1.heap.size 9 1 nv L (l.map fun r => encStr r.name)
theorem own_own_ne {w : World} {b1 b2 e1 e2 s1 s2 n1 n2 : Nat} {v1 v2 : Value} {xs1 xs2 : List Value} (h1 : w.ownsRow b1 e1 s1 v1 n1 xs1) (h2 : w.ownsRow b2 e2 s2 v2 n2 xs2) (hne : e1 ≠ e2) : v1.ownBlock = none ∨ v1.ownBlock ≠ v2.ownBlock := by
  rcases h1.2 with ⟨rfl, _⟩ | ⟨g1, cap1, cur1, rfl, _, hh1, _⟩
  · exact .inl rfl
  · refine .inr fun he => ?_
    rcases h2.2 with ⟨rfl, _⟩ | ⟨g2, cap2, cur2, rfl, _, hh2, _⟩
    · simp [Value.ownBlock] at he
    · have e : g1 = g2 := by simpa [Value.ownBlock] using he
      subst e
      rw [hh1] at hh2
      injection hh2 with hh2
      injection hh2 with _ ht
      exact hne ht
theorem encR_len {r : Row} (h : validB r.name = true) (hb : r.n ≤ 9223372036854775807) : (vput r.name.length ++ r.name).length ≤ 42 ∧ (encR r).length ≤ 53 := by
  have h1 := valid_le h
  have h2 := vput_le (n := r.name.length) (by omega)
  have h3 := vput_le (n := r.n.toNat) (by omega)
  unfold encR
  simp only [List.length_append, List.length_cons]
  omega
set_option maxRecDepth 100000 in
set_option maxHeartbeats 2000000 in
theorem tput_any (tb mb n : Nat) (l : List Row) (w : World) (hT : Tab w tb mb n l) (hn : l.length ≤ 1000000) (hV : AllV l) (hN : AllB l) :
    Calls Try.prog 30 #[.pointer (some ⟨tb, 0, none⟩)] w (VpEnd w (encT l)) := by
  obtain ⟨i0, hi, hz0, hz1, hz2⟩ := info_parts Try.info5
  have hc := hT.cell
  have hown0 := hT.2.1
  have HR := Lib.hid hT.2.2
  have HV := Lib.hid hV
  have HN := Lib.hid hN
  have hsd := size_datum l
  obtain ⟨L, hL⟩ : ∃ L, L = l.length := ⟨_, rfl⟩
  have HL := Lib.hid hL
  rw [← hL] at hn hsd
  have HSD := Lib.hid hsd
  have hmz : Maps.size (datum l) ≤ 1000000 := by rw [hsd]; exact hn
  clear hV hN hL hsd
  go_enter Try.func30, Try.ntmps30
  go_wp2_with (at_len; refine wpList_len_own _ rfl _ 71 rfl 9 75 Try.underlying71 _ mb n _ rfl hown0 ?_)
  rw [HSD.out]
  clear hmz
  go_wp2_with fail
  refine (vput_any L w (by omega)).mono ?_
  rintro e w1 ⟨A1, c1, rfl, hown1, hb1⟩
  have hT1 := hT.below hb1
  clear hc hown0
  go_wp2_with fail
  refine (names_any tb mb n l w1 hT1 (by rw [← HL.out]; exact hn)).mono ?_
  rintro e w2 ⟨A2, c2, rfl, hnam, hb2⟩
  have hown2 := own_below hown1 hb2
  have hB2 := hb1.trans (hb2.mono hb1.size)
  rw [← HL.out] at hnam ⊢
  clear hT1 hown1 hb1 hb2
  go_wp2_with fail
  go_loopw [3, 19] (fun v i wr => TpRel w w1 L l (.slice A2 L c2) v i wr) (fun _ i _ => L - (intOf i).toNat)
  case atStart => exact ⟨0, A1, c1, _, by omega, rfl, rfl, by simp, by have := vput_le (n := L) (by omega); simp; omega, by simpa using hown2, hB2, hnam⟩
  case round =>
    obtain ⟨k, A, c, out, hk, rfl, hout, rfl, hol, hown, hb, hnm⟩ := hrel
    have HO := Lib.hid hout
    clear hout
    by_cases hlt : k < L
    · have hkl : k < l.length := by rw [← HL.out]; exact hlt
      have hN2 := Reads.of_own hnm
      obtain ⟨b, o, rfl, hbl, hc2⟩ := hN2.form (by omega)
      have e0 := hc2 k (encStr l[k].name) (by rw [List.getElem?_map, List.getElem?_eq_getElem hkl]; rfl)
      have d0 := e0
      have hT3 := hT.below hb
      have c3 := hT3.cell
      have hmem := List.getElem_mem hkl
      have hfr := findR_mem HR.out hmem
      have hvl := valid_le (HV.out _ hmem)
      have hbn := HN.out _ hmem
      have hel := encR_len (HV.out _ hmem) hbn.2
      have HSN := Lib.hid (show (l.take (k + 1)).flatMap encR = (l.take k).flatMap encR ++ encR l[k] by rw [List.take_succ_eq_append_getElem hkl, List.flatMap_append]; simp)
      have hgot : gotR l l[k].name = (l[k].n, l[k].tag) := by unfold gotR; rw [hfr]
      have hlook := hT3.look1 ⟨l[k].name.toArray⟩ (by unfold maxLen; simp [ByteArray.size]; omega)
      clear e0 hc2 hfr hmem hN2
      generalize l[k] = r at *
      obtain ⟨nm, rn, rt⟩ := r
      simp only at d0 hvl hbn hel HSN hgot hlook
      obtain ⟨j, rfl⟩ : ∃ j : Nat, rn = j := ⟨rn.toNat, by omega⟩
      unfold encStr at d0
      rw [hgot] at hlook
      have hcv := fun (w : World) => Lib.run_convert_string_bytes (P := Try.prog) w 9 58 5 ⟨nm.toArray⟩ Try.underlying9 Try.underlying58 Try.underlying5
      go_wp2_with fail
      obtain ⟨wa, hwa⟩ : ∃ wa, wa = wr.alloc (.cells #[.int .i64 (j : Int), .bool rt] 75) := ⟨_, rfl⟩
      have hba : Below wr.heap.size wr wa := by rw [hwa]; exact (Below.refl _ _).alloc (Nat.le_refl _) _
      have hka : Blk wa wr.heap.size 75 #[.int .i64 (j : Int), .bool rt] := by rw [hwa]; exact Blk.new _ _ _
      have hsa : wa.heap.size = wr.heap.size + 1 := by rw [hwa]; simp
      rw [← hwa, ← hsa]
      have hrb := conv_reads wa nm
      have hbb := conv_below wa ⟨nm.toArray⟩
      have hownb := own_below (own_below hown hba) hbb
      have hkb := hka.below hbb hka.lt
      have hbB := (hb.trans (hba.mono hb.size)).trans (hbb.mono (Nat.le_trans hb.size hba.size))
      have hnb := own_below (own_below hnm hba) hbb
      have hsw : wr.heap.size < (Lib.bytesWorld wa 5 ⟨nm.toArray⟩).heap.size := hkb.lt
      have hsr : w.heap.size ≤ wr.heap.size := hb.size
      clear hwa hba hka hsa hbb hown hcv d0 c3 hT3 hlook hb hnm hgot
      generalize Lib.bytesWorld wa 5 ⟨nm.toArray⟩ = wb at *
      refine (putBytes_any _ nm.length _ _ nm wb hrb (Nat.le_refl _) rfl (by omega)).mono ?_
      rintro e w5 ⟨A5, c5, rfl, hown5, hb5⟩
      have hr5 := Reads.of_own hown5
      have ho5 := own_below hownb hb5
      have hk5 := hkb.below hb5 hkb.lt
      have hB5 := hbB.trans (hb5.mono hbB.size)
      have hn5 := own_below hnb hb5
      obtain ⟨P, hP⟩ : ∃ P, P = vput nm.length ++ nm := ⟨_, rfl⟩
      rw [← hP] at hr5 hel ⊢
      have HP := Lib.hid hP
      obtain ⟨hel1, hel2⟩ := hel
      have hs5 := hB5.size
      clear hP hownb hkb hbB hnb hrb hb5 hown5
      go_wp2_with (at_builtin; refine wpList_append_any _ rfl _ _ 58 rfl w.heap.size 5 i0 (.int .u8 0) 1 1 Try.underlying58 hi hz0 hz1 hz2 rfl (by decide) _ _ _ rfl ho5 w5.heap.size _ _ _ (P.map byteV) rfl hr5 (oneB _) (by unfold maxLen; omega) (by omega) hs5 ?_)
      intro v6 w6 hown6 hg6 _
      obtain ⟨A6, c6, rfl⟩ := own_form hown6
      rw [← List.map_append] at hown6
      have hk6 := hk5.grown hg6 (own_blk_ne ho5 hk5 (by decide)).symm
      have hB6 := below_own hB5 hB5.size (Nat.le_refl _) ho5 hg6
      have hn6 := hn5.kept hg6 (own_own_ne hn5 ho5 (by decide))
      have f0 := hk6.cell 0
      have f1 := hk6.cell 1
      simp only [List.getElem?_toArray, List.getElem?_cons_zero, List.getElem?_cons_succ] at f0 f1
      have hs6 := hB6.size
      clear ho5 hg6 hr5 hB5 hn5 hk5 hs5
      cases rt with
      | true =>
        have ho7 := hown6.alloc (.cells #[.int .u8 1] 5)
        have hrd := Reads.of_alloc w6 #[.int .u8 1] 5 (B := w6.heap.size + 1) (n := 1) (by omega) rfl
        have hk7 := hk6.alloc (.cells #[.int .u8 1] 5)
        have hn7 := hn6.alloc (.cells #[.int .u8 1] 5)
        clear hn6
        go_wp2_with (at_builtin; refine wpList_append_any _ rfl _ _ 58 rfl w.heap.size 5 i0 (.int .u8 0) 1 1 Try.underlying58 hi hz0 hz1 hz2 rfl (by decide) _ _ _ rfl ho7 _ _ _ _ _ rfl hrd (by simp [Value.oneCell']) (by unfold maxLen; omega) (by omega) (by simp; omega) ?_)
        intro v8 w8 hown8 hg8 _
        obtain ⟨A8, c8, rfl⟩ := own_form hown8
        have hown8' : w8.ownsRow w.heap.size 5 1 (.slice A8 (out.length + P.length + 1) c8) (out.length + P.length + 1) ((out ++ P ++ [kindB true]).map byteV) := by
          rw [show (out ++ P ++ [kindB true]).map byteV = out.map byteV ++ (P.map byteV ++ [.int .u8 1]) by simp [byteV, kindB]]
          exact hown8
        have hk8 := hk7.grown hg8 (own_blk_ne ho7 hk7 (by decide)).symm
        have hB8 := below_own (hB6.alloc hs6 (.cells #[.int .u8 1] 5)) (by simp; omega) (Nat.le_refl _) ho7 hg8
        have hn8 := hn7.kept hg8 (own_own_ne hn7 ho7 (by decide))
        have f2 := hk8.cell 0
        simp only [List.getElem?_toArray, List.getElem?_cons_zero] at f2
        have hs8 := hB8.size
        clear hown8 hn7 ho7 hrd hk7 hg8 hown6 hk6 hB6 f0 f1 hs6
        have hjb : j < 18446744073709551616 := by omega
        go_wp2_with fail
        refine (vput_any j w8 hjb).mono ?_
        rintro e w9 ⟨A9, c9, rfl, hown9, hb9⟩
        have hr9 := Reads.of_own hown9
        have ho9 := own_below hown8' hb9
        have hB9 := hB8.trans (hb9.mono hB8.size)
        have hn9 := own_below hn8 hb9
        have hs9 := hB9.size
        have hvj := vput_le hjb
        obtain ⟨Q, hQ⟩ : ∃ Q, Q = vput j := ⟨_, rfl⟩
        rw [← hQ] at hr9 hvj ⊢
        have HQ := Lib.hid hQ
        clear hQ hown8' hB8 hn8 hown9 hb9 hk8 f2 hs8
        go_wp2_with (at_builtin; refine wpList_append_any _ rfl _ _ 58 rfl w.heap.size 5 i0 (.int .u8 0) 1 1 Try.underlying58 hi hz0 hz1 hz2 rfl (by decide) _ _ _ rfl ho9 _ _ _ _ (Q.map byteV) rfl hr9 (oneB _) (by unfold maxLen; omega) (by omega) hs9 ?_)
        intro v10 w10 hown10 hg10 _
        obtain ⟨A10, c10, rfl⟩ := own_form hown10
        have hB10 := below_own hB9 hB9.size (Nat.le_refl _) ho9 hg10
        have hn10 := hn9.kept hg10 (own_own_ne hn9 ho9 (by decide))
        have HO10 := Lib.hid hown10
        clear hown10 hg10 ho9 hr9 hB9 hn9
        go_wp2_with fail
        go_roundw
        case rel =>
          have hnew : vput L ++ (l.take (k + 1)).flatMap encR = out ++ P ++ [kindB true] ++ Q := by
            rw [HSN.out, HO.out, HP.out, HQ.out]
            simp [encR]
          have hlen : (out ++ P ++ [kindB true] ++ Q).length = out.length + P.length + 1 + Q.length := by simp; omega
          refine ⟨k + 1, A10, c10, _, by omega, by go_num, hnew.symm, by rw [hlen], by rw [hlen]; omega, by rw [hlen, show (out ++ P ++ [kindB true] ++ Q).map byteV = out.map byteV ++ (P.map byteV ++ byteV (kindB true) :: Q.map byteV) by simp]; exact HO10.out, hB10, hn10⟩
        case measure => simp [intOf]; omega
      | false =>
        have ho7 := hown6.alloc (.cells #[.int .u8 0] 5)
        have hrd := Reads.of_alloc w6 #[.int .u8 0] 5 (B := w6.heap.size + 1) (n := 1) (by omega) rfl
        have hk7 := hk6.alloc (.cells #[.int .u8 0] 5)
        have hn7 := hn6.alloc (.cells #[.int .u8 0] 5)
        clear hn6
        go_wp2_with (at_builtin; refine wpList_append_any _ rfl _ _ 58 rfl w.heap.size 5 i0 (.int .u8 0) 1 1 Try.underlying58 hi hz0 hz1 hz2 rfl (by decide) _ _ _ rfl ho7 _ _ _ _ _ rfl hrd (by simp [Value.oneCell']) (by unfold maxLen; omega) (by omega) (by simp; omega) ?_)
        intro v8 w8 hown8 hg8 _
        obtain ⟨A8, c8, rfl⟩ := own_form hown8
        have hown8' : w8.ownsRow w.heap.size 5 1 (.slice A8 (out.length + P.length + 1) c8) (out.length + P.length + 1) ((out ++ P ++ [kindB false]).map byteV) := by
          rw [show (out ++ P ++ [kindB false]).map byteV = out.map byteV ++ (P.map byteV ++ [.int .u8 0]) by simp [byteV, kindB]]
          exact hown8
        have hk8 := hk7.grown hg8 (own_blk_ne ho7 hk7 (by decide)).symm
        have hB8 := below_own (hB6.alloc hs6 (.cells #[.int .u8 0] 5)) (by simp; omega) (Nat.le_refl _) ho7 hg8
        have hn8 := hn7.kept hg8 (own_own_ne hn7 ho7 (by decide))
        have f2 := hk8.cell 0
        simp only [List.getElem?_toArray, List.getElem?_cons_zero] at f2
        have hs8 := hB8.size
        clear hown8 hn7 ho7 hrd hk7 hg8 hown6 hk6 hB6 f0 f1 hs6
        have hjb : j < 18446744073709551616 := by omega
        go_wp2_with fail
        refine (vput_any j w8 hjb).mono ?_
        rintro e w9 ⟨A9, c9, rfl, hown9, hb9⟩
        have hr9 := Reads.of_own hown9
        have ho9 := own_below hown8' hb9
        have hB9 := hB8.trans (hb9.mono hB8.size)
        have hn9 := own_below hn8 hb9
        have hs9 := hB9.size
        have hvj := vput_le hjb
        obtain ⟨Q, hQ⟩ : ∃ Q, Q = vput j := ⟨_, rfl⟩
        rw [← hQ] at hr9 hvj ⊢
        have HQ := Lib.hid hQ
        clear hQ hown8' hB8 hn8 hown9 hb9 hk8 f2 hs8
        go_wp2_with (at_builtin; refine wpList_append_any _ rfl _ _ 58 rfl w.heap.size 5 i0 (.int .u8 0) 1 1 Try.underlying58 hi hz0 hz1 hz2 rfl (by decide) _ _ _ rfl ho9 _ _ _ _ (Q.map byteV) rfl hr9 (oneB _) (by unfold maxLen; omega) (by omega) hs9 ?_)
        intro v10 w10 hown10 hg10 _
        obtain ⟨A10, c10, rfl⟩ := own_form hown10
        have hB10 := below_own hB9 hB9.size (Nat.le_refl _) ho9 hg10
        have hn10 := hn9.kept hg10 (own_own_ne hn9 ho9 (by decide))
        have HO10 := Lib.hid hown10
        clear hown10 hg10 ho9 hr9 hB9 hn9
        go_wp2_with fail
        go_roundw
        case rel =>
          have hnew : vput L ++ (l.take (k + 1)).flatMap encR = out ++ P ++ [kindB false] ++ Q := by
            rw [HSN.out, HO.out, HP.out, HQ.out]
            simp [encR]
          have hlen : (out ++ P ++ [kindB false] ++ Q).length = out.length + P.length + 1 + Q.length := by simp; omega
          refine ⟨k + 1, A10, c10, _, by omega, by go_num, hnew.symm, by rw [hlen], by rw [hlen]; omega, by rw [hlen, show (out ++ P ++ [kindB false] ++ Q).map byteV = out.map byteV ++ (P.map byteV ++ byteV (kindB false) :: Q.map byteV) by simp]; exact HO10.out, hB10, hn10⟩
        case measure => simp [intOf]; omega
    · have hkL : k = L := by omega
      subst hkL
      have htk : l.take k = l := List.take_of_length_le (by rw [← HL.out]; exact Nat.le_refl _)
      rw [htk] at HO
      clear htk
      go_wp2_with fail
      go_ret
      have h := HO.out
      have he : encT l = out := by rw [h]; unfold encT; rw [← HL.out]
      unfold VpEnd
      rw [he]
      exact ⟨A, c, rfl, hown, hb⟩
end Go.Proofs.Ytmondfckpgjikaa
