/- The walks of valid, begin, set, done of the file system. -/
import Derived.Test.YthmbmecodddkeaaSys
import Derived.Lib.Hide
namespace Go.Proofs.Ythmbmecodddkeaa
open Go.RowKit Go.WideMaps
def errV (c : Int) : Value := if c = 0 then .nilIface else .iface 30 (.int .i64 c)
theorem errV_zero : errV 0 = .nilIface := rfl
def validN (s : ByteArray) : Bool := decide (1 ≤ s.size) && decide (s.size ≤ 32)
def RetW (w : World) (v : Value) (e : Ending) (w' : World) : Prop := e = .returned v ∧ w = w'
theorem vname_any (s : ByteArray) (w : World) (hs : s.size ≤ maxLen) : Calls Try.prog 43 #[.string s] w (RetW w (.bool (validN s))) := by
  unfold maxLen at hs
  by_cases h1 : 1 ≤ s.size
  · by_cases h2 : s.size ≤ 32
    · have hv := Lib.hid (show validN s = true by simp [validN, h1, h2])
      have b2 : decide ((s.size : Int) ≤ 32) = true := by simp; omega
      go_enter Try.func43, Try.ntmps43
      go_wp2_with fail
      go_ret
      rw [hv.out]
      exact ⟨rfl, rfl⟩
    · have hv := Lib.hid (show validN s = false by simp [validN, h2])
      have b2 : decide ((s.size : Int) ≤ 32) = false := by simp; omega
      clear h2
      go_enter Try.func43, Try.ntmps43
      go_wp2_with fail
      go_ret
      rw [hv.out]
      exact ⟨rfl, rfl⟩
  · have hv := Lib.hid (show validN s = false by simp [validN, h1])
    have h3 : s.size < 1 := by omega
    clear h1
    go_enter Try.func43, Try.ntmps43
    go_wp2_with fail
    go_ret
    rw [hv.out]
    exact ⟨rfl, rfl⟩
def beginA (st : AS) (ok : Bool) : AS × Int :=
  if ok = false then (st, 13) else if st.off = true ∨ (st.lim = true ∧ st.left = 0) then ({ st with off := true }, 8) else (st, 0)
def SEnd (w : World) (base : Nat) (F : Nat → Prop) (sb mb n : Nat) (st : AS) (v : Value) (e : Ending) (w' : World) : Prop :=
  e = .returned v ∧ SysM w' base (Grow F w.heap.size) sb mb n st ∧ Kept F w w'
theorem SysM.base_le {w : World} {base sb mb n : Nat} {F : Nat → Prop} {st : AS} (h : SysM w base F sb mb n st) : base ≤ w.heap.size := by
  obtain ⟨frs, h1, _⟩ := h
  exact Nat.le_trans h1.2.2.2.2.2.1 (Nat.le_of_lt h1.1.lt)
theorem SysM.wide {w w' : World} {base sb mb n : Nat} {F : Nat → Prop} {st : AS} (h : SysM w' base F sb mb n st) (hb : base ≤ w.heap.size) : SysM w' base (Grow F w.heap.size) sb mb n st := by
  have hF : ∀ i, F i → base ≤ i := by
    obtain ⟨_, _, _, _, h4, _⟩ := h
    exact h4
  exact h.grow (fun i hi => .inl hi) fun i hi => by
    rcases hi with hi | hi
    · exact hF i hi
    · omega
theorem SysM.cells {w : World} {base sb mb n : Nat} {F : Nat → Prop} {st : AS} (h : SysM w base F sb mb n st) : Blk w sb 66 (sysC mb st.off st.lim st.left) ∧ F sb ∧ F mb := by
  obtain ⟨frs, h1, _, h3, _⟩ := h
  exact ⟨h1.1, h3 _ (.inl rfl), h3 _ (.inr (.inl rfl))⟩
theorem SysM.flags {w w' : World} {base sb mb n : Nat} {F : Nat → Prop} {st : AS} {off' lim' : Bool} {left' : Int} (h : SysM w base F sb mb n st) (hk : Kept (fun i => i = sb) w w') (hb : Blk w' sb 66 (sysC mb off' lim' left')) (hl : 0 ≤ left' ∧ left' ≤ 9223372036854775807) :
    SysM w' base F sb mb n ⟨st.files, off', lim', left'⟩ := by
  obtain ⟨frs, h1, h2, h3, h4, _⟩ := h
  exact ⟨frs, h1.flags hk hb, h2, h3, h4, hl⟩
theorem SysM.left_ok {w : World} {base sb mb n : Nat} {F : Nat → Prop} {st : AS} (h : SysM w base F sb mb n st) : 0 ≤ st.left ∧ st.left ≤ 9223372036854775807 := by
  obtain ⟨_, _, _, _, _, h5⟩ := h
  exact h5
theorem kept_set (w : World) (g i : Nat) (v : Value) : Kept (fun j => j = g) w (w.setCell ⟨g, i, none⟩ v) :=
  ⟨rfl, rfl, rfl, by simp [World.setCell], fun j hj hne => Below.heap_setCell w ⟨g, i, none⟩ v j hne⟩
set_option maxRecDepth 100000 in
set_option maxHeartbeats 1000000 in
theorem begin_any (base sb mb n : Nat) (F : Nat → Prop) (st : AS) (A : Option Addr) (m c B : Nat) (ss : List ByteArray) (w : World) (hS : SysM w base F sb mb n st) (hr : Reads w B 1 A m (ss.map Value.string)) (hm : ss.length = m) (hm2 : m ≤ 100) (hsz : ∀ s ∈ ss, s.size ≤ maxLen) :
    Calls Try.prog 29 #[.pointer (some ⟨sb, 0, none⟩), .slice A m c] w (SEnd w base F sb mb n (beginA st (ss.all validN)).1 (errV (beginA st (ss.all validN)).2)) := by
  obtain ⟨hblk, hFs, _⟩ := hS.cells
  have HM := Lib.hid hm
  have HSZ := Lib.hid hsz
  have hwide := hS.wide hS.base_le
  have HW := Lib.hid hwide
  have HFL := Lib.hid (fun (w' : World) (hk : Kept (fun i => i = sb) w w') (hb : Blk w' sb 66 (sysC mb true st.lim st.left)) => (hS.flags hk hb hS.left_ok).wide (w := w) hS.base_le)
  have c0 := hblk.cell 0
  have c1 := hblk.cell 1
  have c2 := hblk.cell 2
  have c3 := hblk.cell 3
  have f1 := hblk.frozen 1
  simp only [sysC, List.getElem?_toArray, List.getElem?_cons_zero, List.getElem?_cons_succ] at c0 c1 c2 c3
  have HB := Lib.hid hblk
  clear hS hm hsz hwide hblk
  obtain ⟨files, off, lim, left⟩ := st
  simp only at c1 c2 c3 HW HFL HB
  go_enter Try.func29, Try.ntmps29
  go_wp2_with fail
  go_loop [12] (fun i => ∃ k : Nat, k ≤ m ∧ i = .int .i64 k ∧ (ss.take k).all validN = true) (fun i => m - (intOf i).toNat)
  case atStart => exact ⟨0, by omega, rfl, rfl⟩
  case round =>
    obtain ⟨k, hk, rfl, hall⟩ := hrel
    have HA := Lib.hid hall
    clear hall
    by_cases hlt : k < m
    · have hkl : k < ss.length := by rw [HM.out]; exact hlt
      obtain ⟨b, o, rfl, hbl, hc⟩ := hr.form (by omega)
      have e0 := hc k (.string ss[k]) (by rw [List.getElem?_map, List.getElem?_eq_getElem hkl]; rfl)
      have hs1 := HSZ.out _ (List.getElem_mem hkl)
      have HST := Lib.hid (fun (h : validN ss[k] = true) => (by rw [List.take_succ_eq_append_getElem hkl, List.all_append, HA.out]; simp [h] : (ss.take (k + 1)).all validN = true))
      have HBD := Lib.hid (fun (h : validN ss[k] = false) => (by rw [List.all_eq_false]; exact ⟨ss[k], List.getElem_mem hkl, by rw [h]; decide⟩ : ss.all validN = false))
      generalize ss[k] = s at *
      clear hc
      go_wp2_with fail
      refine (vname_any s w hs1).mono ?_
      rintro e w' ⟨rfl, rfl⟩
      cases hv : validN s with
      | true =>
        have hn := Lib.hid (HST.out hv)
        clear hv
        go_wp2_with fail
        go_round
        case rel => exact ⟨k + 1, by omega, by go_num, hn.out⟩
        case measure => simp [intOf]; omega
      | false =>
        have hn := Lib.hid (HBD.out hv)
        clear hv
        go_wp2_with fail
        go_ret
        rw [hn.out]
        exact ⟨rfl, HW.out, Kept.refl _ _⟩
    · have hta : ss.all validN = true := by rw [← HA.out, List.take_of_length_le (by rw [HM.out]; omega)]
      have HT := Lib.hid hta
      clear hta
      have fin : ∀ w', Kept (fun i => i = sb) w w' → Blk w' sb 66 (sysC mb true lim left) → (off = true ∨ (lim = true ∧ left = 0)) → SEnd w base F sb mb n (beginA ⟨files, off, lim, left⟩ (ss.all validN)).1 (errV (beginA ⟨files, off, lim, left⟩ (ss.all validN)).2) (.returned (.iface 30 (.int .i64 8))) w' := fun w' hk hb hc => by
        rw [HT.out]
        unfold beginA
        rw [if_neg (by decide), if_pos hc]
        exact ⟨rfl, HFL.out w' hk hb, hk.mono fun i hi => by rw [hi]; exact hFs⟩
      have FIN := Lib.hid fin
      clear fin
      by_cases hl : lim = true ∧ left = 0
      · obtain ⟨rfl, rfl⟩ := hl
        go_wp2_with fail
        go_ret
        exact FIN.out _ (kept_set w sb 1 _) (by have := HB.out.set_ 1 (.bool true); simpa [sysC] using this) (by simp)
      · have hl2 : lim = false ∨ (lim = true ∧ (left == 0) = false) := by
          cases lim
          · exact .inl rfl
          · exact .inr ⟨rfl, by simpa using hl⟩
        cases off
        · have fin2 : SEnd w base F sb mb n (beginA ⟨files, false, lim, left⟩ (ss.all validN)).1 (errV (beginA ⟨files, false, lim, left⟩ (ss.all validN)).2) (.returned .nilIface) w := by
            rw [HT.out]
            unfold beginA
            rw [if_neg (by decide), if_neg (by simpa using hl)]
            exact ⟨rfl, HW.out, Kept.refl _ _⟩
          have FIN2 := Lib.hid fin2
          clear fin2 hl
          rcases hl2 with rfl | ⟨rfl, hl3⟩
          · go_wp2_with fail
            go_ret
            exact FIN2.out
          · go_wp2_with fail
            go_ret
            exact FIN2.out
        · have hbb := Lib.hid HB.out
          clear hl
          rcases hl2 with rfl | ⟨rfl, hl3⟩
          · go_wp2_with fail
            go_ret
            exact FIN.out _ (Kept.refl _ _) hbb.out (by simp)
          · go_wp2_with fail
            go_ret
            exact FIN.out _ (Kept.refl _ _) hbb.out (by simp)
end Go.Proofs.Ythmbmecodddkeaa
