/- The walks of Under and Ints. -/
import Derived.Test.YtmondfckpgjikaaTargets
namespace Go.Proofs.Ytmondfckpgjikaa
open Go.RowKit Go.WideMaps
def undU (p : List UInt8) (l : List Row) : List (List UInt8) := (l.map (·.name)).filter fun x => Lib.hasPrefix x p
theorem undU_snoc (p : List UInt8) (l : List Row) (k : Nat) (hk : k < l.length) : undU p (l.take (k + 1)) = undU p (l.take k) ++ if Lib.hasPrefix l[k].name p = true then [l[k].name] else [] := by
  unfold undU
  rw [List.take_succ_eq_append_getElem hk, List.map_append, List.filter_append]
  congr 1
  simp only [List.map_cons, List.map_nil, List.filter_cons, List.filter_nil]
theorem undU_len (p : List UInt8) (l : List Row) : (undU p l).length ≤ l.length := by
  unfold undU
  exact Nat.le_trans (List.length_filter_le _ _) (by simp)
def UnEnd (w : World) (us : List (List UInt8)) (e : Ending) (w' : World) : Prop :=
  ∃ A c, e = .returned (.slice A us.length c) ∧ Reads w' w'.heap.size 1 A us.length (us.map encStr) ∧ Below w.heap.size w w'
def UnRel (w1 : World) (L : Nat) (p : List UInt8) (l : List Row) (v i : Value) (wr : World) : Prop :=
  ∃ k : Nat, k ≤ L ∧ i = .int .i64 k ∧ wr.ownsRow w1.heap.size 9 1 v (undU p (l.take k)).length ((undU p (l.take k)).map encStr) ∧ Below w1.heap.size w1 wr
set_option maxRecDepth 100000 in
set_option maxHeartbeats 1000000 in
theorem under_any (tb mb n : Nat) (l : List Row) (p : ByteArray) (w : World) (hT : Tab w tb mb n l) (hn : l.length ≤ 1000000) :
    Calls Try.prog 34 #[.pointer (some ⟨tb, 0, none⟩), .string p] w (UnEnd w (undU p.data.toList l)) := by
  obtain ⟨i0, hi, hz0, hz1, hz2⟩ := info_parts info9
  obtain ⟨L, hL⟩ : ∃ L, L = l.length := ⟨_, rfl⟩
  have HL := Lib.hid hL
  have hnames := names_any tb mb n l w hT hn
  rw [← hL] at hn
  clear hL hT
  go_enter Try.func34, Try.ntmps34
  go_wp2_with fail
  refine hnames.mono ?_
  rintro e w1 ⟨A1, c1, rfl, hown, hb1⟩
  rw [← HL.out] at hown ⊢
  have hN : Reads w1 w1.heap.size 1 A1 L (l.map fun r => encStr r.name) := Reads.of_own hown
  clear hown hnames
  go_wp2_with fail
  go_loopw [5, 11] (fun v i wr => UnRel w1 L p.data.toList l v i wr) (fun _ i _ => L - (intOf i).toNat)
  case atStart => exact ⟨0, by omega, rfl, ⟨rfl, .inl ⟨rfl, rfl⟩⟩, Below.refl _ _⟩
  case round =>
    obtain ⟨k, hk, rfl, hown, hb⟩ := hrel
    by_cases hlt : k < L
    · have hkl : k < l.length := by rw [← HL.out]; exact hlt
      obtain ⟨b, o, rfl, hbl, hc0⟩ := hN.form (by omega)
      have e0 := hc0 k _ (by rw [List.getElem?_map, List.getElem?_eq_getElem hkl]; rfl)
      have d0 := (hb.cell (p := ⟨_, _, none⟩) hbl).trans e0
      have HUS := Lib.hid (undU_snoc p.data.toList l k hkl)
      have hul : (undU p.data.toList (l.take k)).length ≤ k := Nat.le_trans (undU_len _ _) (by simp; omega)
      clear e0 hc0
      generalize l[k] = r at *
      obtain ⟨nm, rn, rt⟩ := r
      simp only at d0 HUS
      generalize undU p.data.toList (l.take k) = us at *
      unfold encStr at d0
      go_wp2_with fail
      refine (Try.strings_HasPrefix ⟨nm.toArray⟩ p wr).mono ?_
      rintro e w2 ⟨rfl, rfl⟩
      simp only at HUS ⊢
      cases hpre : Lib.hasPrefix nm p.data.toList with
      | true =>
        have HP := Lib.hid hpre
        clear hpre
        have hown2 := hown.alloc (.cells #[.string ⟨nm.toArray⟩] 9)
        have hrd := Reads.of_alloc w2 #[.string ⟨nm.toArray⟩] 9 (B := w2.heap.size + 1) (n := 1) (by omega) rfl
        have hbs := hb.size
        go_wp2_with (at_builtin; refine wpList_append_any _ rfl (.tmp 18) (.tmp 20) 64 rfl w1.heap.size 9 i0 (.string ⟨#[]⟩) 1 16 Try.underlying64 hi hz0 hz1 hz2 rfl (by decide) _ _ _ rfl hown2 _ _ _ _ _ rfl hrd (by simp [Value.oneCell']) (by unfold maxLen; omega) (by omega) (by simp; omega) ?_)
        intro v4 w4 hown4 hg4 _
        have hb4 := below_own (hb.alloc hb.size (.cells #[.string ⟨nm.toArray⟩] 9)) (by simp; omega) (Nat.le_refl _) hown2 hg4
        have HO := Lib.hid hown4
        clear hg4 hown4 hown2 hrd hown
        go_wp2_with fail
        go_roundw
        · refine ⟨k + 1, by omega, by go_num, ?_, hb4⟩
          rw [HUS.out, HP.out, if_pos rfl]
          simpa [encStr] using HO.out
        · simp [intOf]; omega
      | false =>
        have HP := Lib.hid hpre
        clear hpre
        go_wp2_with fail
        go_roundw
        · refine ⟨k + 1, by omega, by go_num, ?_, hb⟩
          rw [HUS.out, HP.out, if_neg (by decide), List.append_nil]
          exact hown
        · simp [intOf]; omega
    · have hkL : k = L := by omega
      subst hkL
      have htk : l.take k = l := List.take_of_length_le (by rw [← HL.out]; exact Nat.le_refl _)
      rw [htk] at hown
      obtain ⟨A4, c4, rfl⟩ := own_form hown
      go_wp2_with fail
      go_ret
      exact ⟨_, _, rfl, Reads.of_own hown, hb1.trans (hb.mono hb1.size)⟩
def TrueQ (w : World) (e : Ending) (w' : World) : Prop := e = .returned (.bool true) ∧ Below w.heap.size w w'
set_option maxRecDepth 100000 in
set_option maxHeartbeats 1000000 in
theorem ints_any (A1 A2 : Option Addr) (n c1 c2 B1 B2 : Nat) (zs : List Int) (w : World) (h1 : Reads w B1 1 A1 n (zs.map (Value.int .i64))) (h2 : Reads w B2 1 A2 n (zs.map (Value.int .i64))) (hz : zs.length = n) (hn : n ≤ 1000000) (hB1 : B1 ≤ w.heap.size) (hB2 : B2 ≤ w.heap.size) :
    Calls Try.prog 31 #[.slice A1 n c1, .slice A2 n c2] w (TrueQ w) := by
  have HZ := Lib.hid hz
  clear hz
  go_enter Try.func31, Try.ntmps31
  go_wp2_with fail
  go_loopw [5] (fun i wr => IsRel n w i wr) (fun i _ => n - (intOf i).toNat)
  case atStart => exact ⟨0, by omega, rfl, Below.refl _ _⟩
  case round =>
    obtain ⟨k, hk, rfl, hb⟩ := hrel
    by_cases hlt : k < n
    · have hkl : k < zs.length := by rw [HZ.out]; exact hlt
      obtain ⟨b1, o1, rfl, hl1, hc1⟩ := h1.form (by omega)
      obtain ⟨b2, o2, rfl, hl2, hc2⟩ := h2.form (by omega)
      have e1 := (hb.cell (p := ⟨b1, o1 + k, none⟩) (by show b1 < _; omega)).trans (hc1 k (.int .i64 zs[k]) (by rw [List.getElem?_map, List.getElem?_eq_getElem hkl]; rfl))
      have e2 := (hb.cell (p := ⟨b2, o2 + k, none⟩) (by show b2 < _; omega)).trans (hc2 k (.int .i64 zs[k]) (by rw [List.getElem?_map, List.getElem?_eq_getElem hkl]; rfl))
      generalize zs[k] = z at *
      clear hc1 hc2
      have hB := Lib.hid hb
      clear hb
      have q1 : (k : Int) < (n : Int) := by omega
      have q0 : (0 : Int) ≤ (k : Int) := by omega
      go_wp2_with fail
      go_quiet (fail)
      go_wp2_with fail
      go_roundw
      case rel => exact ⟨k + 1, by omega, by go_num, below_drewN hB.out _⟩
      case measure => simp [intOf]; omega
    · go_wp2_with fail
      go_ret
      exact ⟨rfl, hb⟩
end Go.Proofs.Ytmondfckpgjikaa
