/- The walk of RefsLists. -/
import Derived.Test.YtmondfckpgjikaaRTargets
namespace Go.Proofs.Ytmondfckpgjikaa
open Go.RowKit Go.WideMaps
theorem undU_at (p : List UInt8) (l : List Row) (k : Nat) (hk : k < l.length) (h : Lib.hasPrefix l[k].name p = true) : (undU p l)[(undU p (l.take k)).length]? = some l[k].name := by
  have e : l = l.take k ++ l[k] :: l.drop (k + 1) := by rw [← List.drop_eq_getElem_cons hk, List.take_append_drop]
  have h2 : undU p l = undU p (l.take k) ++ (l[k].name :: undU p (l.drop (k + 1))) := by
    conv => lhs; rw [e]
    unfold undU
    rw [List.map_append, List.filter_append, List.map_cons, List.filter_cons]
    simp [h]
  rw [h2, List.getElem?_append_right (Nat.le_refl _)]
  simp
def LsRel (w5 : World) (L : Nat) (p : List UInt8) (l : List Row) (s9 s10 : Value) (wr : World) : Prop :=
  ∃ k : Nat, k ≤ L ∧ s10 = .int .i64 k ∧ s9 = .int .i64 ((undU p (l.take k)).length : Nat) ∧ Below w5.heap.size w5 wr
set_option maxRecDepth 100000 in
set_option maxHeartbeats 2000000 in
theorem lists_any (A : Option Addr) (n c : Nat) (sts : List St) (p : ByteArray) (w : World) (hr : Reads w w.heap.size 4 A n (cellsS sts)) (hl : sts.length = n) (hok : ∀ st ∈ sts, st.ok) :
    Calls Try.prog 10 #[.slice A n c, .string p] w (AwEnd w) := by
  have hfacts := rowsOf_facts _ (sts.take 40) rfl
  have hlen : (rowsOf (sts.take 40)).length ≤ 40 := by have := hfacts.2; simp at this; omega
  clear hfacts
  have hplay := play_any A n c sts w hr hl hok
  generalize rowsOf (sts.take 40) = l at *
  clear hr hl hok
  go_enter Try.func10, Try.ntmps10
  go_wp2_with fail
  refine hplay.mono ?_
  rintro e w1 ⟨v, rfl, hR, hT, hb1⟩
  go_wp2_with fail
  refine (targets_any _ _ _ l w1 hT (by omega)).mono ?_
  rintro e w2 ⟨A2, c2, rfl, hr2, hb2⟩
  have hT2 := hT.below hb2
  have hR2 := hR.below hb2
  have hB2 := hb1.trans (hb2.mono hb1.size)
  have hrt := rtargets_any v l w2 hR2 (by omega)
  have htl : (tgts l).length ≤ 40 := by rw [← refT_tgts]; exact Nat.le_trans (refT_len _ l rfl) hlen
  rw [refT_tgts] at hrt
  obtain ⟨zs, hzs⟩ : ∃ zs, zs = tgts l := ⟨_, rfl⟩
  rw [← hzs] at hrt hr2 htl ⊢
  clear hzs hT hR hb1 hb2 hplay
  go_wp2_with fail
  refine hrt.mono ?_
  rintro e w3 ⟨A3, c3, rfl, hr3, hb3⟩
  have hT3 := hT2.below hb3
  have hR3 := hR2.below hb3
  have hB3 := hB2.trans (hb3.mono hB2.size)
  have hr23 := hr2.below hb3
  have hs23 := hb3.size
  clear hT2 hR2 hB2 hb3 hr2 hrt
  go_wp2_with fail
  refine (ints_any A2 A3 _ c2 c3 _ _ zs w3 hr23 hr3 rfl (by omega) hs23 (Nat.le_refl _)).mono ?_
  rintro e w4 ⟨rfl, hb4⟩
  have hT4 := hT3.below hb4
  have hR4 := hR3.below hb4
  have hB4 := hB3.trans (hb4.mono hB3.size)
  clear hT3 hR3 hB3 hb4 hr23 hr3 hs23
  go_wp2_with fail
  refine (under_any _ _ _ l p w4 hT4 (by omega)).mono ?_
  rintro e w5 ⟨A5, c5, rfl, hr5, hb5⟩
  have hR5 := hR4.below hb5
  have hB5 := hB4.trans (hb5.mono hB4.size)
  have hul := undU_len p.data.toList l
  clear hT4 hR4 hB4 hb5
  obtain ⟨A6, c6, rfl, hc6, hr6⟩ := hR5
  obtain ⟨L, hL⟩ : ∃ L, L = l.length := ⟨_, rfl⟩
  have HL := Lib.hid hL
  rw [← hL] at hr6 hc6 hlen hul ⊢
  obtain ⟨U, hU⟩ : ∃ U, U = (undU p.data.toList l).length := ⟨_, rfl⟩
  have HU := Lib.hid hU
  rw [← hU] at hr5 hul ⊢
  clear hL hU htl
  go_wp2_with fail
  go_loopw [9, 10] (fun s9 s10 wr => LsRel w5 L p.data.toList l s9 s10 wr) (fun _ s10 _ => L - (intOf s10).toNat)
  case atStart => exact ⟨0, by omega, rfl, rfl, Below.refl _ _⟩
  case round =>
    obtain ⟨k, hk, rfl, rfl, hb⟩ := hrel
    by_cases hlt : k < L
    · have hkl : k < l.length := by rw [← HL.out]; exact hlt
      obtain ⟨b, o, rfl, hbl, hc0⟩ := hr6.formN (by omega) (by decide)
      obtain ⟨q0, _, _⟩ := cellsR_at l k hkl
      have e0 := hc0 _ _ q0
      unfold strV at e0
      have d0 := (hb.cell (p := ⟨_, _, none⟩) hbl).trans e0
      have HUS := Lib.hid (undU_snoc p.data.toList l k hkl)
      have HAT := Lib.hid (undU_at p.data.toList l k hkl)
      have huk : (undU p.data.toList (l.take k)).length ≤ k := Nat.le_trans (undU_len _ _) (by simp; omega)
      clear e0 hc0 q0
      generalize l[k].name = nm at *
      obtain ⟨u, hu⟩ : ∃ u, u = (undU p.data.toList (l.take k)).length := ⟨_, rfl⟩
      rw [← hu] at HAT huk ⊢
      have HU2 := Lib.hid hu
      clear hu
      go_wp2_with fail
      refine (Try.strings_HasPrefix ⟨nm.toArray⟩ p wr).mono ?_
      rintro e w6 ⟨rfl, rfl⟩
      simp only
      cases hpre : Lib.hasPrefix nm p.data.toList with
      | true =>
        have hat := HAT.out hpre
        have huU : u < U := by
          rw [HU.out]
          exact (List.getElem?_eq_some_iff.1 hat).1
        obtain ⟨b5, o5, rfl, hbl5, hc5⟩ := hr5.form (by omega)
        have e5 := hc5 u (encStr nm) (by rw [List.getElem?_map, hat]; rfl)
        have d5 := (hb.cell (p := ⟨_, _, none⟩) hbl5).trans e5
        unfold encStr at d5
        have HP := Lib.hid hpre
        have q1 : (u : Int) < (U : Int) := by omega
        have q2 : (0 : Int) ≤ (u : Int) := by omega
        have q3 : (0 : Int) ≤ (k : Int) := by omega
        have q4 : (k : Int) < (L : Int) := by omega
        have HB := Lib.hid hb
        clear hpre hat e5 hc5 hb
        go_wp2_with fail
        go_quiet (fail)
        go_wp2_with fail
        go_roundw
        case rel =>
          refine ⟨k + 1, by omega, by go_num, ?_, below_drewN HB.out _⟩
          rw [HUS.out, HP.out, if_pos rfl, List.length_append, ← HU2.out]
          go_num
        case measure => simp [intOf]; omega
      | false =>
        have HP := Lib.hid hpre
        clear hpre
        go_wp2_with fail
        go_roundw
        case rel =>
          refine ⟨k + 1, by omega, by go_num, ?_, hb⟩
          rw [HUS.out, HP.out, if_neg (by decide), List.append_nil, ← HU2.out]
        case measure => simp [intOf]; omega
    · have hkL : k = L := by omega
      subst hkL
      have htk : l.take k = l := List.take_of_length_le (by rw [← HL.out]; exact Nat.le_refl _)
      rw [htk, ← HU.out]
      clear htk
      go_wp2_with fail
      go_ret
      exact ⟨rfl, hB5.trans (hb.mono hB5.size)⟩
end Go.Proofs.Ytmondfckpgjikaa
