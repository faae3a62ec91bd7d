/- The walk of the reference's Same. -/
import Derived.Test.YtcppmmdkblmfoaaPays
import Derived.Test.YtcppmmdkblmfoaaBase
namespace Go.Proofs.Ytcppmmdkblmfoaa
open Go.RowKit
/-- A slice value that reads as a list of byte slices. -/
def LL (w : World) (v : Value) (ps : List (List UInt8)) : Prop :=
  ∃ A c vs, v = .slice A ps.length c ∧ ps.length ≤ c ∧ Reads w w.heap.size 1 A ps.length vs ∧ Pays w none vs ps
theorem LL.below {w w' : World} {v : Value} {ps : List (List UInt8)} (h : LL w v ps) (hb : Below w.heap.size w w') : LL w' v ps := by
  obtain ⟨A, c, vs, rfl, hc, hr, hp⟩ := h
  exact ⟨A, c, vs, rfl, hc, (hr.below hb).more hb.size, hp.below hb⟩
theorem LL.of_own {w : World} {base : Nat} {v : Value} {ps : List (List UInt8)} {vs : List Value} (h : w.ownsRow base 22 1 v ps.length vs) (hp : Pays w v.ownBlock vs ps) : LL w v ps := by
  obtain ⟨A, c, rfl⟩ := own_form h
  exact ⟨A, c, vs, rfl, own_le h, Reads.of_own h, hp.free⟩
theorem conv_drew {w : World} {v : Value} {p : List UInt8} (h : PayOk w none v p) : ∀ q, (convert 22 9 v).run Try.prog (w.drewN q) = .ok (.string ⟨p.toArray⟩) (w.drewN q) := by
  intro q
  obtain ⟨A, c, rfl, _, hr⟩ := h.reads
  exact str_of (w.drewN q) A p.length c _ p (hr.drewN q)
theorem take_eq_step {α : Type} (u v : List α) (j : Nat) (hu : j < u.length) (hv : j < v.length) (h : u.take j = v.take j) : u.take (j + 1) = v.take (j + 1) ↔ u[j] = v[j] := by
  have e1 := List.take_succ_eq_append_getElem hu
  have e2 := List.take_succ_eq_append_getElem hv
  rw [e1, e2, h]
  constructor
  · intro h; have := List.append_cancel_left h; simpa using this
  · intro h; rw [h]
def SameEnd (w : World) (b : Bool) (e : Ending) (w' : World) : Prop := e = .returned (.bool b) ∧ ∃ k, w' = w.drewN k
set_option maxRecDepth 100000 in
set_option maxHeartbeats 400000 in
theorem same_any (v1 v2 : Value) (ps1 ps2 : List (List UInt8)) (w : World) (h1 : LL w v1 ps1) (h2 : LL w v2 ps2) (hl : ps1.length ≤ 1000000000) :
    Calls Try.prog 19 #[v1, v2] w (SameEnd w (ps1 == ps2)) := by
  obtain ⟨A1, c1, vs1, rfl, _, hr1, hp1⟩ := h1
  obtain ⟨A2, c2, vs2, rfl, _, hr2, hp2⟩ := h2
  by_cases hne : ps1.length = ps2.length
  · have hn' : ((ps1.length : Int) != (ps2.length : Int)) = false := by simp [hne]
    rw [← hne] at hr2 hn'
    have HN := Lib.hid hne
    rw [← hne]
    clear hne
    go_enter Try.func19, Try.ntmps19
    go_wp2
    go_loopw [13] (fun i wr => ∃ j : Nat, j ≤ ps1.length ∧ i = .int .i64 j ∧ (∃ q, wr = w.drewN q) ∧ ps1.take j = ps2.take j) (fun i _ => ps1.length - (intOf i).toNat)
    case atStart => exact ⟨0, by omega, rfl, ⟨0, rfl⟩, by simp⟩
    case round =>
      obtain ⟨j, hj, rfl, ⟨q, rfl⟩, htk⟩ := hrel
      by_cases hjl : j < ps1.length
      · have hjl2 : j < ps2.length := by rw [← HN.out]; exact hjl
        have hm := take_eq_step ps1 ps2 j hjl hjl2 htk
        obtain ⟨u1, hu1, hk1⟩ := hp1.at_ j hjl
        obtain ⟨u2, hu2, hk2⟩ := hp2.at_ j hjl2
        have d1 := conv_drew hk1
        have d2 := conv_drew hk2
        obtain ⟨b1, o1, rfl, _, hc1⟩ := hr1.form (by omega)
        obtain ⟨b2, o2, rfl, _, hc2⟩ := hr2.form (by omega)
        have e1 := hc1 j u1 hu1
        have e2 := hc2 j u2 hu2
        have i1 : (j : Int) < (ps1.length : Int) := by omega
        have HM := Lib.hid hm
        clear hm hk1 hk2 hc1 hc2 hu1 hu2 htk
        by_cases hxy : ps1[j] = ps2[j]
        · have b1 : (!ps1[j] == ps2[j]) = false := by simp [hxy]
          have HT := Lib.hid (HM.out.2 hxy)
          clear hxy
          go_wp2_with fail
          go_quiet (fail)
          go_wp2_with fail
          go_roundw
          case rel => exact ⟨j + 1, by omega, by go_num, ⟨_, rfl⟩, HT.out⟩
          case measure => simp [intOf]; omega
        · have b1 : (!ps1[j] == ps2[j]) = true := by simpa using hxy
          have hb : (ps1 == ps2) = false := by simpa using fun h => hxy (by subst h; rfl)
          have HB := Lib.hid hb
          clear hxy hb
          go_wp2_with fail
          go_quiet (fail)
          go_wp2_with fail
          go_ret
          rw [HB.out]
          exact ⟨rfl, _, World.drewN_drewN _ _ _⟩
      · have hb : (ps1 == ps2) = true := by
          have e1 : ps1.take j = ps1 := List.take_of_length_le (by omega)
          have e2 : ps2.take j = ps2 := List.take_of_length_le (by have := HN.out; omega)
          rw [e1, e2] at htk
          simpa using htk
        have HB := Lib.hid hb
        clear hb htk
        go_wp2_with fail
        go_ret
        rw [HB.out]
        exact ⟨rfl, _, rfl⟩
  · have hn' : ((ps1.length : Int) != (ps2.length : Int)) = true := by simpa using fun h => hne (by omega)
    have hb : (ps1 == ps2) = false := by simpa using fun h => hne (by rw [h])
    have HB := Lib.hid hb
    clear hb hne
    go_enter Try.func19, Try.ntmps19
    go_wp2
    go_ret
    rw [HB.out]
    exact ⟨rfl, 0, rfl⟩
end Go.Proofs.Ytcppmmdkblmfoaa
