/- The walk of play: a script on a new table, beside the reference. -/
import Derived.Test.YtmondfckpgjikaaStep
namespace Go.Proofs.Ytmondfckpgjikaa
open Go.RowKit Go.WideMaps
def stL (st : St) : List Value := [.int .u8 (st.op : Int), .string st.name, .int .i64 st.old, .int .i64 st.n]
def cellsS (l : List St) : List Value := l.flatMap stL
theorem cellsS_len (l : List St) : (cellsS l).length = l.length * 4 := by
  induction l with
  | nil => rfl
  | cons r t ih => simp only [cellsS, List.flatMap_cons, List.length_append, List.length_cons] at ih ⊢; rw [ih]; simp [stL]; omega
theorem cellsS_append (a b : List St) : cellsS (a ++ b) = cellsS a ++ cellsS b := by simp [cellsS]
theorem cellsS_at (l : List St) (k : Nat) (hk : k < l.length) (j : Nat) (hj : j < 4) : (cellsS l)[k * 4 + j]? = (stL l[k])[j]? := by
  have e : l = l.take k ++ l[k] :: l.drop (k + 1) := by rw [← List.drop_eq_getElem_cons hk, List.take_append_drop]
  have h : cellsS l = cellsS (l.take k) ++ (stL l[k] ++ cellsS (l.drop (k + 1))) := by
    conv => lhs; rw [e]
    rw [cellsS_append]; rfl
  have hl : (cellsS (l.take k)).length = k * 4 := by rw [cellsS_len, List.length_take]; congr 1; omega
  rw [h, List.getElem?_append_right (by omega), hl, Nat.add_sub_cancel_left, List.getElem?_append_left (by simpa [stL] using hj)]
def rowsOf (l : List St) : List Row := l.foldl (fun r st => (stepR r st).1) []
theorem rowsOf_snoc (l : List St) (st : St) : rowsOf (l ++ [st]) = (stepR (rowsOf l) st).1 := by simp [rowsOf]
theorem rowsOf_facts : ∀ (n : Nat) (l : List St), l.length = n → Rising (rowsOf l) ∧ (rowsOf l).length ≤ n
  | 0, l, h => by
    obtain rfl := List.eq_nil_of_length_eq_zero h
    exact ⟨by simp [rowsOf, Rising], by simp [rowsOf]⟩
  | n + 1, l, h => by
    have hne : l ≠ [] := by intro e; subst e; simp at h
    have e := List.dropLast_concat_getLast hne
    have hl : l.dropLast.length = n := by simp; omega
    have ih := rowsOf_facts n l.dropLast hl
    rw [← e, rowsOf_snoc]
    exact ⟨rising_step _ _ ih.1, Nat.le_trans (len_step _ _) (by omega)⟩
def PlEnd (w : World) (rows : List Row) (e : Ending) (w' : World) : Prop :=
  ∃ v, e = .returned (.tuple #[.pointer (some ⟨w.heap.size + 1, 0, none⟩), v, .bool true]) ∧ RS w' v rows ∧ Tab w' (w.heap.size + 1) w.heap.size 40 rows ∧ Below w.heap.size w w'
def PlRel (w : World) (n : Nat) (sts : List St) (s6 s7 : Value) (wr : World) : Prop :=
  ∃ k : Nat, k ≤ n ∧ k ≤ 40 ∧ s7 = .int .i64 k ∧ RS wr s6 (rowsOf (sts.take k)) ∧ Tab wr (w.heap.size + 1) w.heap.size k (rowsOf (sts.take k)) ∧ Below w.heap.size w wr
theorem RS.tab {w w' : World} {v : Value} {l : List Row} {mb : Nat} (h : RS w v l) (hg : w.grownBy w' (some mb)) (hm : ∃ es clock, w.heap[mb]? = some (.map es clock)) : RS w' v l := by
  obtain ⟨A, c, rfl, hc, hr⟩ := h
  refine ⟨A, c, rfl, hc, hr.1, fun hn => ?_⟩
  obtain ⟨ad, e, hb, hcell⟩ := hr.2 hn
  have hl : 0 < (cellsR l).length := by rw [cellsR_len]; omega
  have h0 := hcell 0 _ (List.getElem?_eq_getElem hl)
  have hne : ad.block ≠ mb := by
    rintro rfl
    obtain ⟨es, clock, hm⟩ := hm
    have hb0 : (ad.add 0).block = ad.block := block_of_add _ _
    simp [World.cell?, hb0, hm] at h0
  refine ⟨ad, e, Nat.lt_of_lt_of_le hb hg.size, fun j u hu => ?_⟩
  rw [← hcell j u hu]
  exact World.cell?_of_block (hg.block _ (by rw [block_of_add]; exact hb) (by rw [block_of_add]; intro e; injection e with e; exact hne e))
theorem Tab.isMap {w : World} {tb mb n : Nat} {rows : List Row} (h : Tab w tb mb n rows) : ∃ es clock, w.heap[mb]? = some (.map es clock) := by
  obtain ⟨_, ⟨es, clock, h, _⟩, _⟩ := h
  exact ⟨es, clock, h⟩
set_option maxRecDepth 100000 in
set_option maxHeartbeats 1000000 in
theorem play_any (A : Option Addr) (n c : Nat) (sts : List St) (w : World) (hr : Reads w w.heap.size 4 A n (cellsS sts)) (hl : sts.length = n) (hok : ∀ st ∈ sts, st.ok) :
    Calls Try.prog 21 #[.slice A n c] w (PlEnd w (rowsOf (sts.take 40))) := by
  have HL := Lib.hid hl
  have HOK := Lib.hid hok
  clear hl hok
  go_enter Try.func21, Try.ntmps21
  go_wp2_with fail
  refine (new_any w).mono ?_
  rintro e w1 ⟨rfl, hT, hb1⟩
  go_wp2_with fail
  go_loopw [6, 7] (fun s6 s7 wr => PlRel w n sts s6 s7 wr) (fun _ s7 _ => 40 - (intOf s7).toNat)
  case atStart => exact ⟨0, by omega, by omega, rfl, ⟨none, 0, rfl, Nat.le_refl _, Reads.none_⟩, hT, hb1⟩
  case round =>
    obtain ⟨k, hk, hk40, rfl, hR, hT, hb⟩ := hrel
    by_cases hlt : k < n
    · by_cases hlt2 : k < 40
      · have hkl : k < sts.length := by have := HL.out; omega
        have hfacts := rowsOf_facts k (sts.take k) (by simp; omega)
        have hsn : rowsOf (sts.take (k + 1)) = (stepR (rowsOf (sts.take k)) sts[k]).1 := by rw [List.take_succ_eq_append_getElem hkl, rowsOf_snoc]
        have hsok := HOK.out _ (List.getElem_mem hkl)
        obtain ⟨b, o, rfl, hbl, hc⟩ := hr.formN (by omega) (by decide)
        have c0 := hc (k * 4 + 0) _ (by rw [cellsS_at sts k hkl 0 (by decide)]; rfl)
        have c1 := hc (k * 4 + 1) _ (by rw [cellsS_at sts k hkl 1 (by decide)]; rfl)
        have c2 := hc (k * 4 + 2) _ (by rw [cellsS_at sts k hkl 2 (by decide)]; rfl)
        have c3 := hc (k * 4 + 3) _ (by rw [cellsS_at sts k hkl 3 (by decide)]; rfl)
        rw [Nat.add_zero] at c0
        rw [← Nat.add_assoc] at c1 c2 c3
        generalize rowsOf (sts.take k) = l at *
        generalize sts[k] = st at *
        obtain ⟨hris, hlen⟩ := hfacts
        have HSN := Lib.hid hsn
        have d0 : wr.cell? ⟨b, o + k * 4, none⟩ = some (.int .u8 (st.op : Int)) := by rw [hb.cell (p := ⟨b, o + k * 4, none⟩) hbl]; exact c0
        have d1 : wr.cell? ⟨b, o + k * 4 + 1, none⟩ = some (.string st.name) := by rw [hb.cell (p := ⟨b, o + k * 4 + 1, none⟩) hbl]; exact c1
        have d2 : wr.cell? ⟨b, o + k * 4 + 2, none⟩ = some (.int .i64 st.old) := by rw [hb.cell (p := ⟨b, o + k * 4 + 2, none⟩) hbl]; exact c2
        have d3 : wr.cell? ⟨b, o + k * 4 + 3, none⟩ = some (.int .i64 st.n) := by rw [hb.cell (p := ⟨b, o + k * 4 + 3, none⟩) hbl]; exact c3
        clear hsn hc
        go_wp2_with fail
        refine (model_any u6 l st wr hR (by omega) hris hsok).mono ?_
        rintro e w2 ⟨v2, rfl, hR2, hb2⟩
        have hT2 := hT.below hb2
        have hB2 := hb.trans (hb2.mono hb.size)
        have f0 : w2.cell? ⟨b, o + k * 4, none⟩ = some (.int .u8 (st.op : Int)) := by rw [hB2.cell (p := ⟨b, o + k * 4, none⟩) hbl]; exact c0
        have f1 : w2.cell? ⟨b, o + k * 4 + 1, none⟩ = some (.string st.name) := by rw [hB2.cell (p := ⟨b, o + k * 4 + 1, none⟩) hbl]; exact c1
        have f2 : w2.cell? ⟨b, o + k * 4 + 2, none⟩ = some (.int .i64 st.old) := by rw [hB2.cell (p := ⟨b, o + k * 4 + 2, none⟩) hbl]; exact c2
        have f3 : w2.cell? ⟨b, o + k * 4 + 3, none⟩ = some (.int .i64 st.n) := by rw [hB2.cell (p := ⟨b, o + k * 4 + 3, none⟩) hbl]; exact c3
        clear d0 d1 d2 d3
        go_wp2_with fail
        refine (do_any (w.heap.size + 1) w.heap.size k l st w2 hT2 (by unfold maxLen; omega) hsok).mono ?_
        rintro e w3 ⟨rfl, hT3, hg⟩
        have hR3 := hR2.tab hg hT2.isMap
        have hB3 := below_tab hB2 hB2.size (Nat.le_refl _) hg
        clear f0 f1 f2 f3
        go_wp2_with fail
        refine (num_errV _ w3).mono ?_
        rintro e w4 ⟨rfl, rfl⟩
        go_wp2_with fail
        go_roundw
        · exact ⟨k + 1, by omega, by omega, rfl, by rw [HSN.out]; exact hR3, by rw [HSN.out]; exact hT3, hB3⟩
        · simp [intOf]; omega
      · have hkt : k = 40 := by omega
        have HK := Lib.hid hkt
        have HE : Hid (rowsOf (sts.take k) = rowsOf (sts.take 40)) := Lib.hid (by rw [hkt])
        clear hkt
        have hbl : Below w.heap.size w wr := hb
        go_wp2_with fail
        refine (awake_any wr).mono ?_
        rintro e w2 ⟨rfl, hb2⟩
        have hR2 := hR.below hb2
        have hT2 := hT.below hb2
        go_wp2_with fail
        go_ret3
        rw [HE.out] at hR2 hT2
        exact ⟨_, rfl, hR2, hT2.mono hk40, hb.trans (hb2.mono hb.size)⟩
    · have hkt : sts.take k = sts.take 40 := by
        have := HL.out
        rw [List.take_of_length_le (by omega), List.take_of_length_le (by omega)]
      have HE : Hid (rowsOf (sts.take k) = rowsOf (sts.take 40)) := Lib.hid (by rw [hkt])
      clear hkt
      go_wp2_with fail
      refine (awake_any wr).mono ?_
      rintro e w2 ⟨rfl, hb2⟩
      have hR2 := hR.below hb2
      have hT2 := hT.below hb2
      go_wp2_with fail
      go_ret3
      rw [HE.out] at hR2 hT2
      exact ⟨_, rfl, hR2, hT2.mono hk40, hb.trans (hb2.mono hb.size)⟩
end Go.Proofs.Ytmondfckpgjikaa
