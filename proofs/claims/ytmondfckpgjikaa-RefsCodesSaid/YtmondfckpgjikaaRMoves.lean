/- The walks of the reference's Branch, Tag, Drop. -/
import Derived.Test.YtmondfckpgjikaaRPut
namespace Go.Proofs.Ytmondfckpgjikaa
open Go.RowKit Go.WideMaps
theorem findR_idx {nm : List UInt8} {l : List Row} {r : Row} (h : Rising l) (hf : findR nm l = some r) : ∃ hk : idxR nm l < l.length, l[idxR nm l] = r := by
  have hlt : idxR nm l < l.length := by
    rcases Nat.lt_or_ge (idxR nm l) l.length with h1 | h1
    · exact h1
    · exfalso
      have key : ∀ (l : List Row), idxR nm l = l.length → findR nm l = none := by
        intro l
        induction l with
        | nil => intro _; rfl
        | cons r l ih =>
          intro h
          simp only [idxR] at h
          split at h
          · rename_i hb
            have hne : ¬ r.name = nm := fun e => by rw [e, WideAt.bytes_irrefl] at hb; cases hb
            simp only [findR, hne, if_false]
            exact ih (by simpa using h)
          · simp at h
      rw [key l (by have := idxR_le nm l; omega)] at hf
      cases hf
  refine ⟨hlt, ?_⟩
  rw [findR_at nm l h hlt] at hf
  split at hf
  · injection hf
  · cases hf
def RmEnd (w : World) (res : List Row × Int) (e : Ending) (w' : World) : Prop :=
  ∃ v, e = .returned (.tuple #[v, .int .i64 res.2]) ∧ RS w' v res.1 ∧ Below w.heap.size w w'
theorem RS.of_own {w : World} {base : Nat} {A : Option Addr} {c : Nat} {l : List Row} (h : w.ownsRow base 42 3 (.slice A l.length c) l.length (cellsR l)) : RS w (.slice A l.length c) l := by
  refine ⟨A, c, rfl, ?_, Reads.of_own h⟩
  rcases h.2 with ⟨h1, h0⟩ | ⟨g', cap, cur, h1, h2, h3, h4, _⟩
  · rw [h0]; omega
  · injection h1 with _ _ e3; subst e3; exact h4
set_option maxRecDepth 100000 in
set_option maxHeartbeats 1000000 in
theorem rbranch_any (v : Value) (l : List Row) (s : ByteArray) (old x : Int) (w : World) (hL : RS w v l) (hn : l.length ≤ 1000000) (hs : Rising l) (hsz : s.size ≤ maxLen) :
    Calls Try.prog 40 #[v, .string s, .int .i64 old, .int .i64 x] w (RmEnd w (branchR l s.data.toList old x)) := by
  have hL0 := hL
  obtain ⟨A, c, rfl, hc, hr⟩ := hL
  unfold branchR
  by_cases hv : validB s.data.toList = false
  · rw [if_pos hv]
    have HV := Lib.hid hv
    clear hv
    go_enter Try.func40, Try.ntmps40
    go_wp2_with fail
    refine (rvalid_any s w hsz).mono ?_
    rintro e w' ⟨rfl, rfl⟩
    rw [HV.out]
    go_wp2_with fail
    go_ret2
    exact ⟨_, rfl, hL0, Below.refl _ _⟩
  rw [if_neg hv]
  have HV := Lib.hid (show validB s.data.toList = true by simpa using hv)
  clear hv
  by_cases hx : x < 0
  · rw [if_pos (.inl hx)]
    go_enter Try.func40, Try.ntmps40
    go_wp2_with fail
    refine (rvalid_any s w hsz).mono ?_
    rintro e w' ⟨rfl, rfl⟩
    rw [HV.out]
    go_wp2_with fail
    go_ret2
    exact ⟨_, rfl, hL0, Below.refl _ _⟩
  by_cases ho : old < -1
  · rw [if_pos (.inr ho)]
    go_enter Try.func40, Try.ntmps40
    go_wp2_with fail
    refine (rvalid_any s w hsz).mono ?_
    rintro e w' ⟨rfl, rfl⟩
    rw [HV.out]
    go_wp2_with fail
    go_ret2
    exact ⟨_, rfl, hL0, Below.refl _ _⟩
  rw [if_neg (by omega)]
  cases hf : findR s.data.toList l with
  | none =>
    have HF := Lib.hid hf
    clear hf
    by_cases h1 : old = -1
    · simp only [h1, if_true]
      subst h1
      go_enter Try.func40, Try.ntmps40
      go_wp2_with fail
      refine (rvalid_any s w hsz).mono ?_
      rintro e w' ⟨rfl, rfl⟩
      rw [HV.out]
      go_wp2_with fail
      refine (find_any A _ c _ l s w hr rfl (by omega) hs).mono ?_
      intro e w1 h
      obtain ⟨rfl, q, rfl⟩ := h
      rw [HF.out]
      have hq := below_drewN (Below.refl w.heap.size w) q
      have hr1 := hr.below hq
      generalize w.drewN q = w1 at *
      go_wp2_with fail
      refine (put_any A _ c _ l s x false w1 hr1 hq.size rfl hc hn hs).mono ?_
      intro e w2 h
      obtain ⟨A2, c2, rfl, hown, hb⟩ := h
      have hb2 := hq.trans (hb.mono hq.size)
      have hR := RS.of_own hown
      clear hown hb hq hr1 hr
      go_wp2_with fail
      go_ret2
      exact ⟨_, rfl, hR, hb2⟩
    · simp only [h1, if_false]
      have b1 : (old == -1) = false := by simpa using h1
      have h2 : 0 ≤ old := by omega
      clear h1
      go_enter Try.func40, Try.ntmps40
      go_wp2_with fail
      refine (rvalid_any s w hsz).mono ?_
      rintro e w' ⟨rfl, rfl⟩
      rw [HV.out]
      go_wp2_with fail
      refine (find_any A _ c _ l s w hr rfl (by omega) hs).mono ?_
      intro e w1 h
      obtain ⟨rfl, q, rfl⟩ := h
      rw [HF.out]
      have hq := below_drewN (Below.refl w.heap.size w) q
      have hL1 := hL0.below hq
      generalize w.drewN q = w1 at *
      go_wp2_with fail
      go_ret2
      exact ⟨_, rfl, hL1, hq⟩
  | some r =>
    obtain ⟨hk, hrow⟩ := findR_idx hs hf
    have HF := Lib.hid hf
    clear hf
    obtain ⟨i, hi⟩ : ∃ i, i = idxR s.data.toList l := ⟨_, rfl⟩
    have HI := Lib.hid hi
    have hcells := cellsR_at l (idxR s.data.toList l) hk
    rw [hrow, ← hi] at hcells
    rw [← hi] at hk
    obtain ⟨_, hcn, hct⟩ := hcells
    clear hi hrow
    obtain ⟨b, o, rfl, hbl, hc0⟩ := hr.formN (by omega) (by decide)
    have e1 := hc0 _ _ hcn
    have e2 := hc0 _ _ hct
    rw [← Nat.add_assoc] at e1 e2
    clear hcn hct hc0
    obtain ⟨nm, rn, rt⟩ := r
    simp only at e1 e2 ⊢
    by_cases h1 : old = -1
    · simp only [h1, if_true]
      subst h1
      go_enter Try.func40, Try.ntmps40
      go_wp2_with fail
      refine (rvalid_any s w hsz).mono ?_
      rintro e w' ⟨rfl, rfl⟩
      rw [HV.out]
      go_wp2_with fail
      refine (find_any _ _ c _ l s w hr rfl (by omega) hs).mono ?_
      intro e w1 h
      obtain ⟨rfl, q, rfl⟩ := h
      rw [HF.out]
      have hq := below_drewN (Below.refl w.heap.size w) q
      have hL1 := hL0.below hq
      generalize w.drewN q = w1 at *
      go_wp2_with fail
      go_ret2
      exact ⟨_, rfl, hL1, hq⟩
    · simp only [h1, if_false]
      have b1 : (old == -1) = false := by simpa using h1
      have h2 : 0 ≤ old := by omega
      clear h1
      cases rt with
      | true =>
        simp only [if_true]
        go_enter Try.func40, Try.ntmps40
        go_wp2_with fail
        refine (rvalid_any s w hsz).mono ?_
        rintro e w' ⟨rfl, rfl⟩
        rw [HV.out]
        go_wp2_with fail
        refine (find_any _ _ c _ l s w hr rfl (by omega) hs).mono ?_
        intro e w1 h
        obtain ⟨rfl, q, rfl⟩ := h
        rw [HF.out, ← HI.out]
        have hq := below_drewN (Below.refl w.heap.size w) q
        have hL1 := hL0.below hq
        have f2 : (w.drewN q).cell? ⟨b, o + i * 3 + 2, none⟩ = some (.bool true) := e2
        generalize w.drewN q = w1 at *
        go_wp2_with fail
        go_ret2
        exact ⟨_, rfl, hL1, hq⟩
      | false =>
        simp only [Bool.false_eq_true, if_false]
        by_cases h3 : rn = old
        · subst h3
          simp only [ne_eq, not_true_eq_false, if_false]
          go_enter Try.func40, Try.ntmps40
          go_wp2_with fail
          refine (rvalid_any s w hsz).mono ?_
          rintro e w' ⟨rfl, rfl⟩
          rw [HV.out]
          go_wp2_with fail
          refine (find_any _ _ c _ l s w hr rfl (by omega) hs).mono ?_
          intro e w1 h
          obtain ⟨rfl, q, rfl⟩ := h
          rw [HF.out, ← HI.out]
          have hq := below_drewN (Below.refl w.heap.size w) q
          have hr1 := hr.below hq
          have f1 : (w.drewN q).cell? ⟨b, o + i * 3 + 1, none⟩ = some (.int .i64 rn) := e1
          have f2 : (w.drewN q).cell? ⟨b, o + i * 3 + 2, none⟩ = some (.bool false) := e2
          generalize w.drewN q = w1 at *
          go_wp2_with fail
          refine (put_any _ _ c _ l s x false w1 hr1 hq.size rfl hc hn hs).mono ?_
          intro e w2 h
          obtain ⟨A2, c2, rfl, hown, hb⟩ := h
          have hb2 := hq.trans (hb.mono hq.size)
          have hR := RS.of_own hown
          clear hown hb hq hr1 hr f1 f2
          go_wp2_with fail
          go_ret2
          exact ⟨_, rfl, hR, hb2⟩
        · simp only [ne_eq, h3, not_false_eq_true, if_true]
          have b2 : (rn != old) = true := by simpa using h3
          clear h3
          go_enter Try.func40, Try.ntmps40
          go_wp2_with fail
          refine (rvalid_any s w hsz).mono ?_
          rintro e w' ⟨rfl, rfl⟩
          rw [HV.out]
          go_wp2_with fail
          refine (find_any _ _ c _ l s w hr rfl (by omega) hs).mono ?_
          intro e w1 h
          obtain ⟨rfl, q, rfl⟩ := h
          rw [HF.out, ← HI.out]
          have hq := below_drewN (Below.refl w.heap.size w) q
          have hL1 := hL0.below hq
          have f1 : (w.drewN q).cell? ⟨b, o + i * 3 + 1, none⟩ = some (.int .i64 rn) := e1
          have f2 : (w.drewN q).cell? ⟨b, o + i * 3 + 2, none⟩ = some (.bool false) := e2
          generalize w.drewN q = w1 at *
          go_wp2_with fail
          go_ret2
          exact ⟨_, rfl, hL1, hq⟩
end Go.Proofs.Ytmondfckpgjikaa
