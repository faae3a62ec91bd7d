/- The walk of the law TypesSignatures. -/
import Derived.Test.YtnloagofnbklmaaSig
import Derived.Test.YtnloagofnbklmaaShelf
import Derived.Sort.OwnSorted
import Derived.Sort.KeysCollected
import Derived.OwnWalk
import Derived.BigQuiet
import Derived.Deep.QuietTactic
namespace Go.Proofs.Ytnloagofnbklmaa
open Go.RowKit Go.WideMaps Go.Sort
def AwEnd (w : World) (e : Ending) (w' : World) : Prop := e = .returned (.bool true) ∧ Below w.heap.size w w'
def namesU : List (List UInt8) := [[108, 101, 110], [108, 105, 110, 101, 115], [115, 105, 122, 101], [99, 111, 109, 109, 111, 110], [109, 105, 110], [109, 97, 120], [43], [45], [42], [99, 111, 117, 110, 116], [61, 61], [33, 61], [60], [60, 61], [97, 110, 100], [111, 114], [110, 111, 116], [104, 97, 115], [43, 43], [99, 117, 116], [108, 105, 110, 101], [114, 101, 112], [112, 105, 99, 107], [102, 105, 110, 100], [114, 111, 119, 115], [115, 112, 97, 110], [119, 105, 116, 104, 105, 110], [111, 118, 101, 114], [117, 110, 105, 111, 110], [109, 105, 110, 117, 115], [97, 102, 116, 101, 114], [102, 105, 114, 115, 116]]
def namesS : List (List UInt8) := [[33, 61], [42], [43], [43, 43], [45], [60], [60, 61], [61, 61], [97, 102, 116, 101, 114], [97, 110, 100], [99, 111, 109, 109, 111, 110], [99, 111, 117, 110, 116], [99, 117, 116], [102, 105, 110, 100], [102, 105, 114, 115, 116], [104, 97, 115], [108, 101, 110], [108, 105, 110, 101], [108, 105, 110, 101, 115], [109, 97, 120], [109, 105, 110], [109, 105, 110, 117, 115], [110, 111, 116], [111, 114], [111, 118, 101, 114], [112, 105, 99, 107], [114, 101, 112], [114, 111, 119, 115], [115, 105, 122, 101], [115, 112, 97, 110], [117, 110, 105, 111, 110], [119, 105, 116, 104, 105, 110]]
theorem names_perm : namesU.Perm namesS := by decide +kernel
theorem names_sorted : namesU.mergeSort (fun x y => decide (x ≤ y)) = namesS := by
  rw [show (fun x y : List UInt8 => decide (x ≤ y)) = leB from rfl, mergeSort_of_perm names_perm]
  apply List.mergeSort_of_pairwise
  decide +kernel
theorem info9 : (Try.prog.info? 9).map (fun i => (i.zero, i.size, i.bytes)) = some (some (.string ⟨#[]⟩), 1, 16) := by kernel_rfl
def NmEnd (w : World) (l : List (List UInt8)) (e : Ending) (w' : World) : Prop :=
  ∃ A c, e = .returned (.slice A l.length c) ∧ w'.ownsRow w.heap.size 9 1 (.slice A l.length c) l.length (l.map encStr) ∧ Below w.heap.size w w'
set_option maxRecDepth 100000 in
set_option maxHeartbeats 1000000 in
theorem names_ref (w : World) : Calls Try.prog 14 #[] w (NmEnd w namesS) := by
  go_enter Try.func14, Try.ntmps14
  go_wp2_with fail
  go_ret
  exact ⟨_, _, rfl, World.ownsRow_lit (e := 9) (size := 1) w (namesS.map encStr).toArray 32 (Nat.le_refl _) (by decide) rfl, below_alloc _ _⟩
set_option maxRecDepth 100000 in
set_option maxHeartbeats 1000000 in
theorem functions_any (w : World) : Calls Try.prog 13 #[] w (NmEnd w namesS) := by
  go_enter Try.func13, Try.ntmps13
  go_wp2_with fail
  have hrow := World.ownsRow_lit (e := 9) (size := 1) w (namesU.map encStr).toArray 32 (Nat.le_refl _) (by decide) rfl
  rcases hrow.2 with ⟨_, hnil⟩ | ⟨g, cap, cur, hv, hbase, hb, h1, h2, h3, h4⟩
  · exact absurd hnil (by simp)
  injection hv with hv1 hv2 hv3
  injection hv1 with hv1
  injection hv1 with hv1
  subst hv1 hv3
  have hH : Holds encStr _ w.heap.size 0 namesU.toArray := holds_of_block hb (by simpa [namesU] using h4)
  have hc := Try.slices_Sort_string w.heap.size 0 32 namesU _ hH (by simp) (by decide)
  rw [names_sorted] at hc
  have hfin := fun n os => ownsRow_sorted (n := n) (os := os) (ss := namesU) (ts := namesS) (by decide) hbase hb (by decide) h2 h3
  have hnx := below_alloc w (.cells (namesU.map encStr).toArray 9)
  have HF := Lib.hid hfin
  clear hH hfin hb h1 h2 h3 h4 hrow
  refine hc.mono ?_
  rintro e w' ⟨rfl, nn, os, rfl⟩
  go_wp2_with fail
  go_ret
  exact ⟨_, _, rfl, HF.out nn os, hnx.grown (grownBy_sorted (n := nn) (os := os) (g := w.heap.size) namesS.toArray) hnx.size (fun j hj => by cases hj; exact hbase)⟩
def IsRel (n : Nat) (w : World) (s : Value) (wr : World) : Prop := ∃ k : Nat, k ≤ n ∧ s = .int .i64 k ∧ Below w.heap.size w wr
set_option maxRecDepth 100000 in
set_option maxHeartbeats 1000000 in
theorem same_any (A1 A2 : Option Addr) (n c1 c2 B1 B2 : Nat) (zs : List (List UInt8)) (w : World) (h1 : Reads w B1 1 A1 n (zs.map encStr)) (h2 : Reads w B2 1 A2 n (zs.map encStr)) (hz : zs.length = n) (hn : n ≤ 1000000) (hB1 : B1 ≤ w.heap.size) (hB2 : B2 ≤ w.heap.size) :
    Calls Try.prog 11 #[.slice A1 n c1, .slice A2 n c2] w (AwEnd w) := by
  have HZ := Lib.hid hz
  clear hz
  go_enter Try.func11, Try.ntmps11
  go_wp2_with fail
  go_loopw [13] (fun i wr => IsRel n w i wr) (fun i _ => n - (intOf i).toNat)
  case atStart => exact ⟨0, by omega, rfl, Below.refl _ _⟩
  case round =>
    obtain ⟨k, hk, rfl, hb⟩ := hrel
    by_cases hlt : k < n
    · have hkl : k < zs.length := by rw [HZ.out]; exact hlt
      obtain ⟨b1, o1, rfl, hb1, hc1⟩ := h1.form (by omega)
      obtain ⟨b2, o2, rfl, hb2, hc2⟩ := h2.form (by omega)
      have e1 := (hb.cell (p := ⟨b1, o1 + k, none⟩) (by show b1 < _; omega)).trans (hc1 k (encStr zs[k]) (by rw [List.getElem?_map, List.getElem?_eq_getElem hkl]; rfl))
      have e2 := (hb.cell (p := ⟨b2, o2 + k, none⟩) (by show b2 < _; omega)).trans (hc2 k (encStr zs[k]) (by rw [List.getElem?_map, List.getElem?_eq_getElem hkl]; rfl))
      generalize zs[k] = z at *
      unfold encStr at e1 e2
      clear hc1 hc2
      have hB := Lib.hid hb
      clear hb
      have q0 : (k : Int) < (n : Int) := by omega
      have q1 : (0 : Int) ≤ (k : Int) := by omega
      go_wp2_with fail
      go_quiet (fail)
      go_wp2_with fail
      go_roundw
      case rel => exact ⟨k + 1, by omega, by go_num, below_drewN hB.out _⟩
      case measure => simp [intOf]; omega
    · go_wp2_with fail
      go_ret
      exact ⟨rfl, hb⟩
set_option maxRecDepth 100000 in
set_option maxHeartbeats 1000000 in
theorem ints_any (A1 A2 : Option Addr) (n c1 c2 B1 B2 : Nat) (zs : List Int) (w : World) (h1 : Reads w B1 1 A1 n (zs.map (Value.int .i64))) (h2 : Reads w B2 1 A2 n (zs.map (Value.int .i64))) (hz : zs.length = n) (hn : n ≤ 1000000) (hB1 : B1 ≤ w.heap.size) (hB2 : B2 ≤ w.heap.size) :
    Calls Try.prog 17 #[.slice A1 n c1, .slice A2 n c2] w (AwEnd w) := by
  have HZ := Lib.hid hz
  clear hz
  go_enter Try.func17, Try.ntmps17
  go_wp2_with fail
  go_loopw [5] (fun i wr => IsRel n w i wr) (fun i _ => n - (intOf i).toNat)
  case atStart => exact ⟨0, by omega, rfl, Below.refl _ _⟩
  case round =>
    obtain ⟨k, hk, rfl, hb⟩ := hrel
    by_cases hlt : k < n
    · have hkl : k < zs.length := by rw [HZ.out]; exact hlt
      obtain ⟨b1, o1, rfl, hb1, hc1⟩ := h1.form (by omega)
      obtain ⟨b2, o2, rfl, hb2, hc2⟩ := h2.form (by omega)
      have e1 := (hb.cell (p := ⟨b1, o1 + k, none⟩) (by show b1 < _; omega)).trans (hc1 k (.int .i64 zs[k]) (by rw [List.getElem?_map, List.getElem?_eq_getElem hkl]; rfl))
      have e2 := (hb.cell (p := ⟨b2, o2 + k, none⟩) (by show b2 < _; omega)).trans (hc2 k (.int .i64 zs[k]) (by rw [List.getElem?_map, List.getElem?_eq_getElem hkl]; rfl))
      generalize zs[k] = z at *
      clear hc1 hc2
      have hB := Lib.hid hb
      clear hb
      have q0 : (k : Int) < (n : Int) := by omega
      have q1 : (0 : Int) ≤ (k : Int) := by omega
      go_wp2_with fail
      go_quiet (fail)
      go_wp2_with fail
      go_roundw
      case rel => exact ⟨k + 1, by omega, by go_num, below_drewN hB.out _⟩
      case measure => simp [intOf]; omega
    · go_wp2_with fail
      go_ret
      exact ⟨rfl, hb⟩
theorem sigF_pos (l : List UInt8) : ∀ t : List (List UInt8 × List Int × Int), (∀ x ∈ t, 1 ≤ x.2.2 ∧ x.2.1.length ≤ 3) → ∀ a r, sigF l t = some (a, r) → 1 ≤ r ∧ a.length ≤ 3
  | [], _, a, r, h => by cases h
  | (n, a', r') :: t, hx, a, r, h => by
    rw [sigF] at h
    split at h
    · injection h with h
      injection h with h1 h2
      subst h1 h2
      exact hx (n, a', r') (by simp)
    · exact sigF_pos l t (fun x hx' => hx x (by simp [hx'])) a r h
theorem sig_pos {l : List UInt8} {a : List Int} {r : Int} (h : sig l = some (a, r)) : 1 ≤ r ∧ a.length ≤ 3 := sigF_pos l sigT (by decide) a r h
def SgRel (w : World) (B : Nat) (V : Value) (L : List (List UInt8)) (s : Value) (wr : World) : Prop := ∃ k : Nat, k ≤ 33 ∧ s = .int .i64 k ∧ Below w.heap.size w wr ∧ wr.ownsRow B 9 1 V 33 (L.map encStr)
set_option maxRecDepth 100000 in
set_option maxHeartbeats 2000000 in
theorem signatures_any (nm : ByteArray) (w : World) : Calls Try.prog 4 #[.string nm] w (AwEnd w) := by
  obtain ⟨i0, hi, hz0, hz1, hz2⟩ := info_parts info9
  go_enter Try.func4, Try.ntmps4
  go_wp2_with fail
  refine (functions_any w).mono ?_
  rintro e w1 ⟨A1, c1, rfl, hown1, hb1⟩
  rw [show namesS.length = 32 from rfl] at hown1 ⊢
  go_wp2_with fail
  refine (names_ref w1).mono ?_
  rintro e w2 ⟨A2, c2, rfl, hown2, hq⟩
  rw [show namesS.length = 32 from rfl] at hown2 ⊢
  have hown12 := own_below hown1 hq
  have hb2 := hb1.trans (hq.mono hb1.size)
  clear hown1 hb1 hq
  go_wp2_with fail
  refine (same_any A1 A2 32 c1 c2 _ _ namesS w2 (Reads.of_own hown12) (Reads.of_own hown2) rfl (by omega) (Nat.le_refl _) (Nat.le_refl _)).mono ?_
  rintro e w3 ⟨rfl, hq⟩
  have hown3 := own_below hown12 hq
  have hb3 := hb2.trans (hq.mono hb2.size)
  clear hown12 hown2 hb2 hq
  have hbs := hb3.size
  go_wp2_with (at_builtin; refine wpList_append_own _ rfl _ _ 26 rfl w.heap.size 9 i0 (.string ⟨#[]⟩) 1 16 Try.underlying26 hi hz0 hz1 hz2 rfl (by decide) _ _ _ rfl (hown3.alloc _) ⟨w3.heap.size, 0, none⟩ 1 1 [.string nm] rfl rfl (cell_one_new _ _ _) (by simp [Value.oneCell']) (by unfold maxLen; omega) (by omega) (by simp; omega) ?_)
  intro v4 w4 hown4 hg4 _
  obtain ⟨A4, c4, rfl⟩ := own_form hown4
  have hb4 : Below w.heap.size w w4 := (hb3.alloc hbs _).grown hg4 (by simp; omega) (fun j hj => (hown3.lt j hj).1)
  have hown4' : w4.ownsRow w.heap.size 9 1 (.slice A4 33 c4) 33 ((namesS ++ [nm.data.toList]).map encStr) := by
    rw [List.map_append]
    have : encStr nm.data.toList = .string nm := by unfold encStr; simp
    rw [List.map_cons, this]
    exact hown4
  obtain ⟨L, hL⟩ : ∃ L, L = namesS ++ [nm.data.toList] := ⟨_, rfl⟩
  rw [← hL] at hown4'
  have HLL := Lib.hid (show L.length = 33 by rw [hL]; rfl)
  clear hown4 hg4 hown3 hb3 hbs hL
  go_wp2_with fail
  go_loopw [21] (fun s wr => SgRel w w.heap.size (.slice A4 33 c4) L s wr) (fun s _ => 33 - (intOf s).toNat)
  case atStart => exact ⟨0, by omega, rfl, hb4, hown4'⟩
  case round =>
    obtain ⟨k, hk, rfl, hb, hown⟩ := hrel
    by_cases hlt : k < 33
    · have hkl : k < L.length := by rw [HLL.out]; exact hlt
      obtain ⟨b, o, rfl, hbl, hc⟩ := (Reads.of_own hown).form (by omega)
      have e0 := hc k (encStr L[k]) (by rw [List.getElem?_map, List.getElem?_eq_getElem hkl]; rfl)
      unfold encStr at e0
      clear hc
      generalize L[k] = x at *
      have q0 : (k : Int) < 33 := by omega
      have h15 := sig15_any x wr
      unfold SigEnd at h15
      cases hs : sig x with
      | none =>
        rw [hs] at h15
        simp only at h15
        go_wp2_with fail
        refine h15.mono ?_
        rintro e w5 ⟨hq5, rfl⟩
        have h16 := sig16_any x w5
        unfold SigRef at h16
        rw [hs] at h16
        simp only at h16
        have hb5 := hb.trans (hq5.mono hb.size)
        have hown5 := own_below hown hq5
        clear h15 hb hq5 hown e0 hs
        go_wp2_with fail
        refine h16.mono ?_
        rintro e w6 ⟨hq6, rfl⟩
        have hb6 := hb5.trans (hq6.mono hb5.size)
        have hown6 := own_below hown5 hq6
        clear h16 hb5 hq6 hown5
        go_wp2_with fail
        refine (ints_any none none 0 0 0 0 0 [] w6 Reads.none_ Reads.none_ rfl (by omega) (Nat.zero_le _) (Nat.zero_le _)).mono ?_
        rintro e w7 ⟨rfl, hq7⟩
        have hb7 := hb6.trans (hq7.mono hb6.size)
        have hown7 := own_below hown6 hq7
        clear hb6 hq7 hown6
        go_wp2_with fail
        go_roundw
        case rel => exact ⟨k + 1, by omega, by go_num, hb7, hown7⟩
        case measure => simp [intOf]; omega
      | some q =>
        obtain ⟨a, r⟩ := q
        obtain ⟨hr1, ha3⟩ := sig_pos hs
        have d1 : decide ((0 : Int) < r) = true := by simpa using (show 0 < r by omega)
        rw [hs] at h15
        simp only at h15
        go_wp2_with fail
        refine h15.mono ?_
        rintro e w5 ⟨hq5, A5, c5, rfl, hr5⟩
        have h16 := sig16_any x w5
        unfold SigRef at h16
        rw [hs] at h16
        simp only at h16
        have hb5 := hb.trans (hq5.mono hb.size)
        have hown5 := own_below hown hq5
        clear h15 hb hq5 hown e0 hs
        go_wp2_with fail
        refine h16.mono ?_
        rintro e w6 ⟨hq6, A6, c6, rfl, hr6⟩
        have hb6 := hb5.trans (hq6.mono hb5.size)
        have hown6 := own_below hown5 hq6
        have hr56 := hr5.below hq6
        have hs56 := hq6.size
        clear h16 hb5 hq6 hown5 hr5
        go_wp2_with fail
        refine (ints_any A5 A6 a.length c5 c6 _ _ a w6 hr56 hr6 rfl (by omega) hs56 (Nat.le_refl _)).mono ?_
        rintro e w7 ⟨rfl, hq7⟩
        have hb7 := hb6.trans (hq7.mono hb6.size)
        have hown7 := own_below hown6 hq7
        clear hb6 hq7 hown6 hr56 hr6 hs56
        go_wp2_with fail
        go_roundw
        case rel => exact ⟨k + 1, by omega, by go_num, hb7, hown7⟩
        case measure => simp [intOf]; omega
    · go_wp2_with fail
      go_ret
      exact ⟨rfl, hb⟩
end Go.Proofs.Ytnloagofnbklmaa
