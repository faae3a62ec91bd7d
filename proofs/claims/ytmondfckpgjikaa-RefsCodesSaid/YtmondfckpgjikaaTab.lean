/- A table in memory; the walks of New, Valid and Get. -/
import Derived.Test.YtmondfckpgjikaaProg
import Derived.Test.YtmondfckpgjikaaMem
import Derived.Test.YtmondfckpgjikaaPlain
import Derived.WalkKit
import Derived.WalkSpells
import Derived.WalkLawsBesides
import Derived.Lib.Hide
import Derived.BigQuiet
import Derived.Deep.QuietTactic
namespace Go.Proofs.Ytmondfckpgjikaa
open Go.RowKit Go.WideMaps
/-- How a target in the map reads. -/
def tgtL : List Value → Option (DataW Unit × List MemPlace)
  | [.int .i64 n, .bool t] => some (tgt n t, [])
  | _ => none
def tgtR : Value → Option (DataW Unit × List MemPlace)
  | .agg cs => tgtL cs.toList
  | _ => none
theorem tgtR_mk (n : Int) (t : Bool) : tgtR (.agg #[.int .i64 n, .bool t]) = some (tgt n t, []) := rfl
theorem tgtR_inv {v : Value} {n : Int} {t : Bool} {ps : List MemPlace} (h : tgtR v = some (tgt n t, ps)) : v = .agg #[.int .i64 n, .bool t] := by
  unfold tgtR at h
  split at h
  · rename_i cs
    unfold tgtL at h
    split at h
    · rename_i hcs
      simp only [tgt, Option.some.injEq, Prod.mk.injEq, DataW.agg.injEq, List.cons.injEq, DataW.lit.injEq, Lit.int.injEq, Lit.bool.injEq, and_true, true_and] at h
      obtain ⟨⟨rfl, rfl⟩, _⟩ := h
      rw [show cs = #[.int .i64 _, .bool _] from Array.toList_inj.1 hcs]
    · cases h
  · cases h
theorem law9 : Maps.Keyed Try.prog 9 := Maps.string_keyed Try.underlying9
theorem zero75 (w : World) : (zeroValue 75).run Try.prog w = .ok (.agg #[.int .i64 0, .bool false]) w := by kernel_rfl
def Tab (w : World) (tb mb n : Nat) (rows : List Row) : Prop :=
  Blk w tb 73 #[.map (some mb)] ∧ w.ownsMap Try.prog 9 tgtR mb n (datum rows) ∧ Rising rows
section
variable {w w' : World} {tb mb n : Nat} {rows : List Row}
theorem Tab.cell (h : Tab w tb mb n rows) : w.cell? ⟨tb, 0, none⟩ = some (.map (some mb)) := by rw [h.1.cell]; rfl
theorem Tab.frozen (h : Tab w tb mb n rows) : w.frozen? ⟨tb, 0, none⟩ = false := h.1.frozen 0
theorem Tab.lt (h : Tab w tb mb n rows) : tb < w.heap.size ∧ mb < w.heap.size := ⟨h.1.lt, h.2.1.lt⟩
theorem Tab.ne (h : Tab w tb mb n rows) : tb ≠ mb := by
  rintro rfl
  obtain ⟨h1, ⟨es, clock, h2, _⟩, _⟩ := h
  unfold Blk at h1
  rw [h1] at h2
  cases h2
theorem Tab.kept {row : Option Nat} (h : Tab w tb mb n rows) (hg : w.grownBy w' row) (h1 : some tb ≠ row) (h2 : some mb ≠ row) : Tab w' tb mb n rows :=
  ⟨h.1.grown hg h1, h.2.1.kept hg h2, h.2.2⟩
theorem Tab.below (h : Tab w tb mb n rows) (hb : Below w.heap.size w w') : Tab w' tb mb n rows := h.kept (only_of_below hb none) (by simp) (by simp)
/-- What a lookup gives. -/
def gotR (l : List Row) (nm : List UInt8) : Int × Bool := match findR nm l with | some r => (r.n, r.tag) | none => (0, false)
theorem Tab.look (h : Tab w tb mb n rows) (s : ByteArray) (hs : s.size ≤ maxLen) :
    (Instr.lookup 71 (.map (some mb)) (.string s) true).run Try.prog w = .ok (.tuple #[.agg #[.int .i64 (gotR rows s.data.toList).1, .bool (gotR rows s.data.toList).2], .bool (findR s.data.toList rows).isSome]) w := by
  obtain ⟨v, ps, hrun, hv⟩ := h.2.1.look_ok (t := 71) (e := 75) law9 Try.underlying71 (zero75 w) (tgtR_mk 0 false) (keyOf_string_mk Try.underlying9 hs)
  rw [has_datum] at hrun
  rw [atKey_datum] at hv
  rw [hrun]
  unfold gotR
  cases hf : findR s.data.toList rows with
  | none => rw [hf] at hv; rw [tgtR_inv hv]
  | some r => rw [hf] at hv; rw [tgtR_inv hv]
end
theorem new_any (w : World) : Calls Try.prog 13 #[] w fun e w' => e = .returned (.pointer (some ⟨w.heap.size + 1, 0, none⟩)) ∧ Tab w' (w.heap.size + 1) w.heap.size 0 [] ∧ Below w.heap.size w w' := by
  have hmm := @run_makeMap Try.prog
  go_enter Try.func13, Try.ntmps13
  go_wp2
  go_ret
  refine ⟨rfl, ⟨?_, ?_, by simp [Rising]⟩, ((Below.refl _ _).alloc (Nat.le_refl _) _).alloc (by simp) _⟩
  · have := Blk.new (w.alloc (.map #[] 0)) 73 #[.map (some w.heap.size)]
    simpa using this
  · exact (World.ownsMap_made w Try.prog 9 tgtR).alloc _
def VEnd (w : World) (b : Bool) (e : Ending) (w' : World) : Prop := e = .returned (.bool b) ∧ w = w'
theorem validB_long {l : List UInt8} (h : l.length < 1 ∨ 32 < l.length) : validB l = false := by
  unfold validB
  rcases h with h | h
  · simp [show ¬ 1 ≤ l.length by omega]
  · simp [show ¬ l.length ≤ 32 by omega]
theorem validB_bad {l : List UInt8} {k : Nat} (hk : k < l.length) (h : okAt k (l[k].toNat) = false) : validB l = false := by
  unfold validB
  rw [Bool.and_eq_false_iff]
  right
  rw [List.all_eq_false]
  exact ⟨k, by simpa using hk, by simp [List.getD, hk, h]⟩
theorem validB_all {l : List UInt8} (h1 : 1 ≤ l.length) (h2 : l.length ≤ 32) (h : ∀ k (hk : k < l.length), okAt k (l[k].toNat) = true) : validB l = true := by
  unfold validB
  simp only [h1, h2, decide_true, Bool.true_and, List.all_eq_true, List.mem_range]
  intro i hi
  simpa [List.getD, hi] using h i hi
set_option maxHeartbeats 400000 in
theorem valid_any (s : ByteArray) (w : World) (hs : s.size ≤ maxLen) : Calls Try.prog 19 #[.string s] w (VEnd w (validB s.data.toList)) := by
  unfold maxLen at hs
  by_cases h1 : s.size < 1
  · have hv := Lib.hid (validB_long (l := s.data.toList) (.inl h1))
    go_enter Try.func19, Try.ntmps19
    go_wp2
    go_ret
    rw [hv.out]
    exact ⟨rfl, rfl⟩
  by_cases h2 : 32 < s.size
  · have hv := Lib.hid (validB_long (l := s.data.toList) (.inr h2))
    go_enter Try.func19, Try.ntmps19
    go_wp2
    go_ret
    rw [hv.out]
    exact ⟨rfl, rfl⟩
  go_enter Try.func19, Try.ntmps19
  go_wp2
  go_loop [15] (fun i => ∃ k : Nat, k ≤ s.size ∧ i = .int .i64 k ∧ ∀ j (hj : j < s.data.toList.length), j < k → okAt j (s.data.toList[j].toNat) = true) (fun i => s.size - (intOf i).toNat)
  case atStart => exact ⟨0, by omega, rfl, fun j _ h => absurd h (by omega)⟩
  case round =>
    obtain ⟨k, hk, rfl, hall⟩ := hrel
    have HALL := Lib.hid hall
    clear hall
    by_cases hlt : k < s.size
    · have hkl : k < s.data.toList.length := hlt
      have hc : s.data.toList[k].toNat = s[k].toNat := rfl
      have hcb := s[k].toNat_lt
      by_cases hok : okAt k s[k].toNat = true
      · have hnext : Hid (∀ j (hj : j < s.data.toList.length), j < k + 1 → okAt j (s.data.toList[j].toNat) = true) := by
          intro j hj hjk
          by_cases e : j = k
          · subst e; exact hok
          · exact HALL.out j hj (by omega)
        unfold okAt at hok
        by_cases h1 : 97 ≤ s[k].toNat ∧ s[k].toNat ≤ 122
        · obtain ⟨h1, h2⟩ := h1
          clear hok hc
          go_wp2
          go_round
          case rel => exact ⟨k + 1, by omega, by go_num, hnext.out⟩
          case measure => simp [intOf]; omega
        · have h3 : 0 < k ∧ ((48 ≤ s[k].toNat ∧ s[k].toNat ≤ 57) ∨ s[k].toNat = 45) := by
            simp at hok
            rcases hok with h | h
            · exact absurd h h1
            · exact h
          obtain ⟨h0, h3⟩ := h3
          clear hok hc
          rcases h3 with ⟨h3, h4⟩ | h3
          · have h5 : s[k].toNat < 97 := by omega
            clear h1
            go_wp2
            go_round
            case rel => exact ⟨k + 1, by omega, by go_num, hnext.out⟩
            case measure => simp [intOf]; omega
          · have h5 : s[k].toNat < 48 := by omega
            have h6 : ((s[k].toNat : Int) == 45) = true := by simp [h3]
            clear h1 h3
            go_wp2
            go_round
            case rel => exact ⟨k + 1, by omega, by go_num, hnext.out⟩
            case measure => simp [intOf]; omega
      · have hv := Lib.hid (validB_bad hkl (by rw [hc]; simpa using hok))
        unfold okAt at hok
        simp at hok
        obtain ⟨h1, h2⟩ := hok
        clear hc
        have hlo : s[k].toNat < 97 ∨ 122 < s[k].toNat := by omega
        by_cases h0 : k = 0
        · subst h0
          rcases hlo with h | h
          · go_wp2
            go_ret
            rw [hv.out]
            exact ⟨rfl, rfl⟩
          · go_wp2
            go_ret
            rw [hv.out]
            exact ⟨rfl, rfl⟩
        · obtain ⟨h3, h4⟩ := h2 (by omega)
          have h5 : ((s[k].toNat : Int) == 45) = false := by simpa using fun h => h4 (by omega)
          have h0' : 0 < k := by omega
          clear h1 h2 h4 h0
          rcases hlo with h | h
          · by_cases h6 : 48 ≤ s[k].toNat
            · have h7 : 57 < s[k].toNat := h3 h6
              clear h3
              go_wp2
              go_ret
              rw [hv.out]
              exact ⟨rfl, rfl⟩
            · clear h3
              go_wp2
              go_ret
              rw [hv.out]
              exact ⟨rfl, rfl⟩
          · clear h3
            go_wp2
            go_ret
            rw [hv.out]
            exact ⟨rfl, rfl⟩
    · have hv := Lib.hid (validB_all (l := s.data.toList) (by show 1 ≤ s.size; omega) (by show s.size ≤ 32; omega) (fun j hj => HALL.out j hj (by have : j < s.size := hj; omega)))
      go_wp2
      go_ret
      rw [hv.out]
      exact ⟨rfl, rfl⟩
end Go.Proofs.Ytmondfckpgjikaa
