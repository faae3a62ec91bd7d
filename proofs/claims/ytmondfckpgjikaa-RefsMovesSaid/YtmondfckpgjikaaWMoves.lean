/- The walk of RefsMoves. -/
import Derived.Test.YtmondfckpgjikaaMove
import Derived.Test.YtmondfckpgjikaaWCopies
namespace Go.Proofs.Ytmondfckpgjikaa
open Go.RowKit Go.WideMaps
theorem info3 : (Try.prog.info? 3).map (fun i => (i.zero, i.size, i.bytes)) = some (some (.int .i64 0), 1, 8) := by kernel_rfl
theorem moved_snoc (to : List Int) (l : List Row) (k : Nat) (hk : k < l.length) : moved to (l.take (k + 1)) = moved to (l.take k) ++ [mvRow to l[k]] := by
  unfold moved
  rw [List.take_succ_eq_append_getElem hk, List.map_append]
  rfl
theorem allM_snoc {to : List Int} {l : List Row} {k : Nat} (hk : k < l.length) (h : allM to (l.take k) = true) (ho : okM to l[k].n = true) : allM to (l.take (k + 1)) = true := by
  rw [List.take_succ_eq_append_getElem hk]
  unfold allM at h ⊢
  rw [List.all_append, h]
  simpa using ho
theorem bad_at {to : List Int} {l : List Row} {k : Nat} (hk : k < l.length) (ho : okM to l[k].n = false) : allM to l = false := by
  unfold allM
  rw [List.all_eq_false]
  exact ⟨l[k], List.getElem_mem hk, by rw [ho]; decide⟩
/-- What Move has returned. -/
def MvCase (w0 w : World) (to : List Int) (l : List Row) (mp ev : Value) : Prop :=
  (allM to l = true ∧ mp = .pointer (some ⟨w0.heap.size + 1, 0, none⟩) ∧ ev = .nilIface ∧ Tab w (w0.heap.size + 1) w0.heap.size l.length (moved to l)) ∨
  (allM to l = false ∧ mp = .pointer none ∧ ev = errV 1)
theorem mvEnd_case {w0 : World} {to : List Int} {l : List Row} {e : Ending} {w : World} (h : MvEnd w0 to l e w) : ∃ mp ev, e = .returned (.tuple #[mp, ev]) ∧ MvCase w0 w to l mp ev ∧ Below w0.heap.size w0 w := by
  rcases h with ⟨h1, rfl, h2, h3⟩ | ⟨h1, rfl, h3⟩
  · exact ⟨_, _, rfl, .inl ⟨h1, rfl, rfl, h2⟩, h3⟩
  · exact ⟨_, _, rfl, .inr ⟨h1, rfl, rfl⟩, h3⟩
theorem MvCase.below {w0 w w' : World} {to : List Int} {l : List Row} {mp ev : Value} (h : MvCase w0 w to l mp ev) (hb : Below w.heap.size w w') : MvCase w0 w' to l mp ev := by
  rcases h with ⟨h1, h2, h3, h4⟩ | h
  · exact .inl ⟨h1, h2, h3, h4.below hb⟩
  · exact .inr h
theorem reads_row (w : World) (nm : List UInt8) (x : Int) (t : Bool) {g : Nat} (hg : g = w.heap.size) :
    Reads (w.alloc (.cells #[.string ⟨nm.toArray⟩, .int .i64 x, .bool t] 42)) (g + 1) 3 (some ⟨g, 0, none⟩) 1 (cellsR [⟨nm, x, t⟩]) := by
  subst hg
  refine ⟨by simp [cellsR, rowV], fun _ => ⟨_, rfl, by simp, ?_⟩⟩
  have := news_alloc w #[.string ⟨nm.toArray⟩, .int .i64 x, .bool t] 42
  have e : cellsR [⟨nm, x, t⟩] = (#[.string ⟨nm.toArray⟩, .int .i64 x, .bool t] : Array Value).toList := by simp [cellsR, rowV, strV]
  rw [e]; exact this
def MlRel (w2 : World) (L : Nat) (to : List Int) (l : List Row) (v i : Value) (wr : World) : Prop :=
  ∃ k : Nat, k ≤ L ∧ i = .int .i64 k ∧ wr.ownsRow w2.heap.size 42 3 v k (cellsR (moved to (l.take k))) ∧ allM to (l.take k) = true ∧ Below w2.heap.size w2 wr
set_option maxRecDepth 100000 in
set_option maxHeartbeats 4000000 in
theorem moves_any (A : Option Addr) (n c : Nat) (sts : List St) (A1 : Option Addr) (m c1 : Nat) (to : List Int) (st : St) (w : World) (hr : Reads w w.heap.size 4 A n (cellsS sts)) (hl : sts.length = n) (hok : ∀ st ∈ sts, st.ok)
    (hto : Reads w w.heap.size 1 A1 m (to.map (Value.int .i64))) (hm : to.length = m) (hbig : m * 8 ≤ 140737488351232) (hs : st.ok) :
    Calls Try.prog 7 #[.slice A n c, .slice A1 m c1, stV st] w (AwEnd w) := by
  obtain ⟨i0, hi, hz0, hz1, hz2⟩ := info_parts info3
  obtain ⟨i42, hi42, hy0, hy1, hy2⟩ := info_parts Try.info42
  have hfacts := rowsOf_facts _ (sts.take 40) rfl
  have hlen : (rowsOf (sts.take 40)).length ≤ 40 := by have := hfacts.2; simp at this; omega
  have hris := hfacts.1
  have HV := Lib.hid (allV_rows (sts.take 40))
  have hN := allN_rows (sts.take 40)
  have HM := Lib.hid hm
  clear hfacts
  obtain ⟨w0, hw0⟩ : ∃ w0, w0 = w.alloc (.cells #[.int .u8 (st.op : Int), .string st.name, .int .i64 st.old, .int .i64 st.n] 48) := ⟨_, rfl⟩
  have hblk : Blk w0 w.heap.size 48 #[.int .u8 (st.op : Int), .string st.name, .int .i64 st.old, .int .i64 st.n] := by rw [hw0]; exact Blk.new _ _ _
  have hb0 : Below w.heap.size w w0 := by rw [hw0]; exact (Below.refl _ _).alloc (Nat.le_refl _) _
  have hsz : w0.heap.size = w.heap.size + 1 := by rw [hw0]; simp
  have hplay := play_any A n c sts w0 ((hr.below hb0).more hb0.size) hl hok
  have hto0 := (hto.below hb0)
  have HW := Lib.hid hw0
  generalize rowsOf (sts.take 40) = l at *
  have HR := Lib.hid hris
  have HN := Lib.hid hN
  have hlt : w.heap.size < w0.heap.size := by omega
  clear hr hl hok hw0 hsz hris hN hm hto
  unfold stV
  go_enter Try.func7, Try.ntmps7
  go_wp2_with fail
  rw [← HW.out]
  refine hplay.mono ?_
  rintro e w1 ⟨v, rfl, hR, hT, hb1⟩
  have hk1 := hblk.below hb1 hlt
  have hB1 := hb0.trans (hb1.mono hb0.size)
  have hto1 := hto0.below (hb1.mono hb0.size)
  have hmn : w0.heap.size + 1 < w1.heap.size := hT.lt.1
  clear hplay hblk hto0
  have hown0 := World.ownsRow_lit (e := 3) (size := 1) w1 #[] 0 (Nat.le_refl _) (by decide) rfl
  go_wp2_with (at_builtin; refine wpList_append_any _ rfl (.tmp 27) (.tmp 28) 46 rfl w1.heap.size 3 i0 (.int .i64 0) 1 8 Try.underlying46 hi hz0 hz1 hz2 rfl (by decide) _ _ _ rfl hown0 w.heap.size _ _ _ (to.map (Value.int .i64)) rfl (hto1.alloc (by omega) _) (by simp [Value.oneCell']) (by unfold maxLen; omega) (by omega) (by simp) ?_)
  intro v2 w2 hown2 hg2 _
  obtain ⟨A2, c2, rfl⟩ := own_form hown2
  have hq2 := below_own ((Below.refl w1.heap.size w1).alloc (Nat.le_refl _) (.cells #[] 3)) (by simp) (Nat.le_refl _) hown0 hg2
  have hk2 := hk1.below hq2 hk1.lt
  have hT2 := hT.below hq2
  have hR2 := hR.below hq2
  have hB2 := hB1.trans (hq2.mono hB1.size)
  have hto2 := hto1.below (hq2.mono (by omega))
  have hmv := move_any _ _ _ l A2 m c2 to w2 hT2 (by omega) HN.out (Reads.of_own hown2) HM.out
  have hsz2 := hq2.size
  clear hown0 hg2 hown2 hk1 hT hR hB1 hto1 hq2
  go_wp2_with fail
  refine hmv.mono ?_
  intro e w3 h
  obtain ⟨mp, ev, rfl, hcase, hb3⟩ := mvEnd_case h
  have hk3 := hk2.below hb3 hk2.lt
  have hT3 := hT2.below hb3
  have hR3 := hR2.below hb3
  have hB3 := hB2.trans (hb3.mono hB2.size)
  have hto3 := hto2.below (hb3.mono (by omega))
  have hsz3 := hb3.size
  have HC := Lib.hid hcase
  clear h hmv hk2 hT2 hR2 hB2 hto2 hb3 hcase
  obtain ⟨A3, c3, rfl, hc3, hr3⟩ := hR3
  obtain ⟨L, hL⟩ : ∃ L, L = l.length := ⟨_, rfl⟩
  have HL := Lib.hid hL
  rw [← hL] at hr3 hc3 hlen ⊢
  clear hL
  have HX := Lib.hid (And.intro hk3 hT3)
  have hrs : ∀ w', Below w3.heap.size w3 w' → RS w' (.slice A3 L c3) l := fun w' hb => ⟨A3, c3, by rw [HL.out], by rw [← HL.out]; exact hc3, by rw [← HL.out]; exact (hr3.below hb).more hb.size⟩
  have HRS := Lib.hid hrs
  clear hrs
  clear hk3 hT3
  go_wp2_with fail
  go_loopw [12, 13] (fun v i wr => MlRel w3 L to l v i wr) (fun _ i _ => L - (intOf i).toNat)
  case atStart => exact ⟨0, by omega, rfl, ⟨rfl, .inl ⟨rfl, rfl⟩⟩, rfl, Below.refl _ _⟩
  case round =>
    obtain ⟨k, hk, rfl, hown, hall, hb⟩ := hrel
    by_cases hlt2 : k < L
    · have hkl : k < l.length := by rw [← HL.out]; exact hlt2
      obtain ⟨b, o, rfl, hbl, hc0⟩ := hr3.formN (by omega) (by decide)
      obtain ⟨q0, q1, q2⟩ := cellsR_at l k hkl
      have e0 := hc0 _ _ q0
      have e1 := hc0 _ _ q1
      have e2 := hc0 _ _ q2
      rw [← Nat.add_assoc] at e1 e2
      have d0 := (hb.cell (p := ⟨_, _, none⟩) hbl).trans e0
      have d1 := (hb.cell (p := ⟨_, _, none⟩) hbl).trans e1
      have d2 := (hb.cell (p := ⟨_, _, none⟩) hbl).trans e2
      have hpos := HN.out _ (List.getElem_mem hkl)
      have HTS := Lib.hid (moved_snoc to l k hkl)
      have HAS := Lib.hid (fun ho => allM_snoc (to := to) hkl hall ho)
      have HBA := Lib.hid (fun ho => bad_at (to := to) hkl ho)
      have hbl3 : b < wr.heap.size := Nat.lt_of_lt_of_le hbl hb.size
      have hHr := Lib.hid hr3
      clear e0 e1 e2 q0 q1 q2 hc0 hr3 hall
      generalize l[k] = r at *
      obtain ⟨nm, rn, rt⟩ := r
      unfold strV at d0
      simp only at d0 d1 d2 hpos HAS HBA
      obtain ⟨j, rfl⟩ : ∃ j : Nat, rn = j := ⟨rn.toNat, by omega⟩
      clear hpos
      have hout : ∀ (w5 : World), okM to j = false → Below wr.heap.size wr w5 → mp = .pointer none ∧ ev = errV 1 := fun w5 ho _ => by
        rcases HC.out with ⟨h, _⟩ | ⟨_, h1, h2⟩
        · rw [HBA.out ho] at h; cases h
        · exact ⟨h1, h2⟩
      have HOU := Lib.hid hout
      clear hout
      by_cases hjm : j < m
      · have hjl : j < to.length := by rw [HM.out]; exact hjm
        obtain ⟨b1, o1, rfl, hbl1, hc1⟩ := hto3.form (by omega)
        have g1 := (hb.cell (p := ⟨b1, o1 + j, none⟩) (by show b1 < _; omega)).trans (hc1 j (.int .i64 to[j]) (by rw [List.getElem?_map, List.getElem?_eq_getElem hjl]; rfl))
        have hzd : to.getD j 0 = to[j] := by simp [List.getD, hjl]
        have hokz : okM to j = decide (0 ≤ to[j]) := by
          unfold okM
          rw [Int.toNat_natCast, hzd]
          simp [hjl]
        have hmr : mvRow to ⟨nm, j, rt⟩ = ⟨nm, to[j], rt⟩ := by
          unfold mvRow
          simp only [Int.toNat_natCast, hzd]
        rw [hmr] at HTS
        generalize to[j] = z at *
        have HZ := Lib.hid hokz
        have hbl4 : b1 < wr.heap.size := Nat.lt_of_lt_of_le (by omega) hb.size
        clear hzd hokz hc1 hmr
        by_cases hz : 0 ≤ z
        · have HOK := Lib.hid (show okM to j = true by rw [HZ.out]; simpa using hz)
          have ho2 := (hown.alloc (.cells #[.string ⟨nm.toArray⟩, .int .i64 z, .bool rt] 42)).alloc (.cells #[.string ⟨nm.toArray⟩, .int .i64 z, .bool rt] 42)
          have hrx := reads_row (wr.alloc (.cells #[.string ⟨nm.toArray⟩, .int .i64 z, .bool rt] 42)) nm z rt (g := wr.heap.size + 1) (by simp)
          have hsz4 := hb.size
          go_wp2_with (at_builtin; refine wpList_append_any _ rfl (.tmp 73) (.tmp 75) 36 rfl w3.heap.size 42 i42 (.agg #[.string ByteArray.empty, .int .i64 0, .bool false]) 3 32 Try.underlying36 hi42 hy0 hy1 hy2 rfl (by decide) _ _ _ rfl ho2 _ _ _ _ (cellsR [⟨nm, z, rt⟩]) rfl hrx (cellsR_one _) (by unfold maxLen; omega) (by omega) (by simp; omega) ?_)
          intro v4 w4 hown4 hg4 _
          rw [← cellsR_append] at hown4
          have hb4 := below_own ((hb.alloc hb.size (.cells #[.string ⟨nm.toArray⟩, .int .i64 z, .bool rt] 42)).alloc (by simp; omega) (.cells #[.string ⟨nm.toArray⟩, .int .i64 z, .bool rt] 42)) (by simp; omega) (Nat.le_refl _) ho2 hg4
          have HO4 := Lib.hid hown4
          clear hg4 ho2 hrx hown hb d0 d1 d2 g1 hown4
          go_wp2_with fail
          go_roundw
          · exact ⟨k + 1, by omega, by go_num, by rw [HTS.out]; exact HO4.out, HAS.out HOK.out, hb4⟩
          · simp [intOf]; omega
        · have HOK := Lib.hid (show okM to j = false by rw [HZ.out]; simpa using hz)
          have hz' : z < 0 := by omega
          clear hz
          obtain ⟨rfl, rfl⟩ := HOU.out wr HOK.out (Below.refl _ _)
          have hbW := hb.alloc hb.size (.cells #[.string ⟨nm.toArray⟩, .int .i64 (j : Int), .bool rt] 42)
          have hTW := HX.out.2.below hbW
          have hRW := HRS.out _ hbW
          have hBW := hB3.trans (hbW.mono hB3.size)
          clear hb hbW
          go_wp2_with fail
          refine (is_errV 1 1 _ (by decide)).mono ?_
          rintro e w4 ⟨rfl, rfl⟩
          go_wp2_with fail
          refine (is_any _ _ _ l _ _ hTW hRW (by rw [← HL.out]; omega) HV.out).mono ?_
          rintro e w5 ⟨rfl, hb5⟩
          go_wp2_with fail
          go_ret
          exact ⟨rfl, hBW.trans (hb5.mono hBW.size)⟩
      · have HOK := Lib.hid (show okM to j = false by
          unfold okM
          rw [Bool.and_eq_false_iff]
          left
          have := HM.out
          simp; omega)
        have hkm' : m ≤ j := by omega
        clear hjm
        obtain ⟨rfl, rfl⟩ := HOU.out wr HOK.out (Below.refl _ _)
        have hbW := hb.alloc hb.size (.cells #[.string ⟨nm.toArray⟩, .int .i64 (j : Int), .bool rt] 42)
        have hTW := HX.out.2.below hbW
        have hRW := HRS.out _ hbW
        have hBW := hB3.trans (hbW.mono hB3.size)
        clear hb hbW
        go_wp2_with fail
        refine (is_errV 1 1 _ (by decide)).mono ?_
        rintro e w4 ⟨rfl, rfl⟩
        go_wp2_with fail
        refine (is_any _ _ _ l _ _ hTW hRW (by rw [← HL.out]; omega) HV.out).mono ?_
        rintro e w5 ⟨rfl, hb5⟩
        go_wp2_with fail
        go_ret
        exact ⟨rfl, hBW.trans (hb5.mono hBW.size)⟩
    · have hkL : k = L := by omega
      subst hkL
      have htk : l.take k = l := List.take_of_length_le (by rw [← HL.out]; exact Nat.le_refl _)
      rw [htk] at hown hall
      obtain ⟨hmp, hev, hTm⟩ : mp = .pointer (some ⟨w2.heap.size + 1, 0, none⟩) ∧ ev = .nilIface ∧ Tab w3 (w2.heap.size + 1) w2.heap.size l.length (moved to l) := by
        rcases HC.out with h | ⟨h, _⟩
        · exact h.2
        · rw [hall] at h; cases h
      subst hmp hev
      obtain ⟨A4, c4, rfl⟩ := own_form hown
      have hRm : RS wr (.slice A4 k c4) (moved to l) := by
        have hl2 : (moved to l).length = k := by rw [len_moved, ← HL.out]
        have := RS.of_own (w := wr) (base := w3.heap.size) (A := A4) (c := c4) (l := moved to l) (by rw [hl2]; exact hown)
        rw [hl2] at this
        exact this
      have hTm4 := hTm.below hb
      have hT4 := HX.out.2.below hb
      have hk4 := HX.out.1.below hb HX.out.1.lt
      have hR4 := HRS.out _ hb
      have hB4 := hB3.trans (hb.mono hB3.size)
      have HVM := Lib.hid (allV_moved (to := to) HV.out)
      have HRM := Lib.hid (rising_moved (to := to) HR.out)
      have hlm : (moved to l).length ≤ 40 := by rw [len_moved, ← HL.out]; omega
      have hll : l.length ≤ 40 := by rw [← HL.out]; omega
      have hlen2 : (stepR (moved to l) st).1.length ≤ 41 := by have := len_step (moved to l) st; omega
      have hne1 : w2.heap.size ≠ w0.heap.size := by omega
      have hm2 : w2.heap.size < w3.heap.size := by have := hTm.lt.2; omega
      clear hown hall htk hb hTm
      go_wp2_with fail
      refine (is_any _ _ _ (moved to l) _ wr hTm4 hRm (by omega) HVM.out).mono ?_
      rintro e w5 ⟨rfl, hb5⟩
      have hTm5 := hTm4.below hb5
      have hT5 := hT4.below hb5
      have hk5 := hk4.below hb5 hk4.lt
      have hR5 := hR4.below hb5
      have hRm5 := hRm.below hb5
      have hB5 := hB4.trans (hb5.mono hB4.size)
      clear hTm4 hT4 hk4 hR4 hRm hB4 hb5
      go_wp2_with fail
      refine (is_any _ _ _ l _ w5 hT5 hR5 (by omega) HV.out).mono ?_
      rintro e w6 ⟨rfl, hb6⟩
      have hTm6 := hTm5.below hb6
      have hT6 := hT5.below hb6
      have hk6 := hk5.below hb6 hk5.lt
      have hR6 := hR5.below hb6
      have hRm6 := hRm5.below hb6
      have hB6 := hB5.trans (hb6.mono hB5.size)
      clear hTm5 hT5 hk5 hR5 hRm5 hB5 hb6
      obtain ⟨b0, b1, b2, b3⟩ := box_of hk6
      go_wp2_with fail
      refine (model_any _ (moved to l) st w6 hRm6 (by omega) HRM.out hs).mono ?_
      rintro e w7 ⟨v7, rfl, hN7, hb7⟩
      have hTm7 := hTm6.below hb7
      have hT7 := hT6.below hb7
      have hk7 := hk6.below hb7 hk6.lt
      have hR7 := hR6.below hb7
      have hB7 := hB6.trans (hb7.mono hB6.size)
      clear hTm6 hT6 hk6 hR6 hRm6 hB6 hb7 b0 b1 b2 b3
      obtain ⟨b0, b1, b2, b3⟩ := box_of hk7
      go_wp2_with fail
      refine (do_any _ _ _ (moved to l) st w7 hTm7 (by unfold maxLen; omega) hs).mono ?_
      rintro e w8 ⟨rfl, hTm8, hg⟩
      have hT8 := tab_of_do hT7 hg hTm7.isMap (by omega)
      have hN8 := hN7.tab hg hTm7.isMap
      have hR8 := hR7.tab hg hTm7.isMap
      have hB8 := below_tab hB7 hB7.size (by omega) hg
      clear hTm7 hT7 hk7 hR7 hB7 hN7 hg b0 b1 b2 b3
      go_wp2_with fail
      refine (num_errV _ w8).mono ?_
      rintro e w8' ⟨rfl, rfl⟩
      go_wp2_with fail
      refine (is_any _ _ _ _ v7 w8 hTm8 hN8 (by omega) (allV_step _ st HVM.out)).mono ?_
      rintro e w9 ⟨rfl, hb9⟩
      have hT9 := hT8.below hb9
      have hR9 := hR8.below hb9
      have hB9 := hB8.trans (hb9.mono hB8.size)
      clear hTm8 hT8 hR8 hN8 hB8 hb9
      go_wp2_with fail
      refine (is_any _ _ _ l _ w9 hT9 hR9 (by omega) HV.out).mono ?_
      rintro e w10 ⟨rfl, hb10⟩
      go_wp2_with fail
      go_ret
      exact ⟨rfl, hB9.trans (hb10.mono hB9.size)⟩
end Go.Proofs.Ytmondfckpgjikaa
