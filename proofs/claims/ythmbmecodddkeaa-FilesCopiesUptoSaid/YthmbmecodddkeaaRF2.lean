/- The walks of the reference's Find and Begin. -/
import Derived.Test.YthmbmecodddkeaaRF1
namespace Go.Proofs.Ythmbmecodddkeaa
open Go.RowKit Go.WideMaps
section
variable {α : Type} {nm : α → List UInt8}
/-- The place of a name; the length, if it is not there. -/
def posG (nm : α → List UInt8) (s : List UInt8) : List α → Nat
  | [] => 0
  | r :: t => if nm r = s then 0 else posG nm s t + 1
theorem posG_le (s : List UInt8) : ∀ l : List α, posG nm s l ≤ l.length
  | [] => Nat.le_refl _
  | r :: t => by simp only [posG]; split <;> simp; exact posG_le s t
theorem posG_find (s : List UInt8) : ∀ l : List α, findG nm s l = l[posG nm s l]?
  | [] => rfl
  | r :: t => by
    simp only [posG, findG]
    split
    · simp
    · rw [posG_find s t]; simp
theorem posG_step (s : List UInt8) : ∀ (l : List α) (k : Nat) (_ : ∀ j (hj : j < l.length), j < k → nm l[j] ≠ s) (hk : k < l.length), nm l[k] = s → posG nm s l = k
  | [], k, _, hk, _ => by simp at hk
  | r :: t, 0, _, _, h => by simp at h; simp [posG, h]
  | r :: t, k + 1, ha, hk, h => by
    have h0 := ha 0 (by simp) (by omega)
    simp at h0
    simp only [posG, h0, if_false]
    rw [posG_step s t k (fun j hj hjk => by have := ha (j + 1) (by simp; omega) (by omega); simpa using this) (by simpa using hk) (by simpa using h)]
theorem posG_end (s : List UInt8) : ∀ (l : List α), (∀ j (hj : j < l.length), nm l[j] ≠ s) → posG nm s l = l.length
  | [], _ => rfl
  | r :: t, h => by
    have h0 := h 0 (by simp)
    simp at h0
    simp only [posG, h0, if_false, List.length_cons]
    rw [posG_end s t (fun j hj => by have := h (j + 1) (by simp; omega); simpa using this)]
end
def findI (s : List UInt8) (l : List PF) : Int := if posG pn s l < l.length then (posG pn s l : Int) else -1
def IntB (w : World) (i : Int) (e : Ending) (w' : World) : Prop := e = .returned (.int .i64 i) ∧ Below w.heap.size w w'
set_option maxRecDepth 100000 in
set_option maxHeartbeats 1000000 in
theorem rfind_any (G : Nat → Prop) (fv : Value) (l : List PF) (left : Int) (off : Bool) (s : ByteArray) (w : World) (hF : FsM G w fv l) (hn : l.length ≤ 1000000) :
    Calls Try.prog 47 #[.agg #[fv, .int .i64 left, .bool off], .string s] w (IntB w (findI s.data.toList l)) := by
  obtain ⟨A, c, rfl, hc, hr, _, _⟩ := hF
  obtain ⟨n, hl⟩ : ∃ n, l.length = n := ⟨_, rfl⟩
  rw [hl] at hc hr hn ⊢
  obtain ⟨wa, hwa⟩ : ∃ wa, wa = w.alloc (.cells #[.slice A n c, .int .i64 left, .bool off] 52) := ⟨_, rfl⟩
  have hka : Blk wa w.heap.size 52 #[.slice A n c, .int .i64 left, .bool off] := by rw [hwa]; exact Blk.new _ _ _
  have hba : Below w.heap.size w wa := by rw [hwa]; exact (Below.refl _ _).alloc (Nat.le_refl _) _
  have hra := hr.below hba
  have x0 := hka.cell 0
  simp only [List.getElem?_toArray, List.getElem?_cons_zero] at x0
  have HWA := Lib.hid hwa
  have HB := Lib.hid hba
  have HL := Lib.hid hl
  clear hwa hka hba hr hl
  go_enter Try.func47, Try.ntmps47
  go_upto_region 1 with (fail)
  rw [← HWA.out]
  go_wp2_with fail
  go_loop [5] (fun i => ∃ k : Nat, k ≤ n ∧ i = .int .i64 k ∧ ∀ j (hj : j < l.length), j < k → pn l[j] ≠ s.data.toList) (fun i => n - (intOf i).toNat)
  case atStart => exact ⟨0, by omega, rfl, fun j _ h => absurd h (by omega)⟩
  case round =>
    obtain ⟨k, hk, rfl, hall⟩ := hrel
    have HALL := Lib.hid hall
    clear hall
    by_cases hlt : k < n
    · have hkl : k < l.length := by have := HL.out; omega
      obtain ⟨b, o, rfl, _, hc'⟩ := hra.formN (by omega) (by decide)
      have hcell := hc' _ _ (cellsP_at l k hkl).1
      unfold strV at hcell
      clear hc'
      have heqs := eq_toList l[k].1.name s
      by_cases hbf : l[k].1.name = s.data.toList
      · rw [decide_eq_true hbf] at heqs
        have HP := Lib.hid (posG_step (nm := pn) s.data.toList l k (fun j hj hjk => HALL.out j hj hjk) hkl hbf)
        clear hbf
        generalize l[k].1.name = nm at *
        go_wp2_with fail
        go_ret
        refine ⟨?_, HB.out⟩
        unfold findI
        rw [HP.out, if_pos hkl]
        rfl
      · rw [decide_eq_false hbf] at heqs
        have hnext : Hid (∀ j (hj : j < l.length), j < k + 1 → pn l[j] ≠ s.data.toList) := by
          intro j hj hjk
          by_cases e : j = k
          · subst e; exact hbf
          · exact HALL.out j hj (by omega)
        clear hbf
        generalize l[k].1.name = nm at *
        go_wp2_with fail
        go_round
        · exact ⟨k + 1, by omega, by go_num, hnext.out⟩
        · simp [intOf]; omega
    · have hkn : k = n := by omega
      have HP := Lib.hid (posG_end (nm := pn) s.data.toList l (fun j hj => HALL.out j hj (by have := HL.out; omega)))
      clear hkn
      go_wp2_with fail
      go_ret
      refine ⟨?_, HB.out⟩
      unfold findI
      rw [HP.out, if_neg (Nat.lt_irrefl _)]
      rfl
theorem rvalid_any (s : ByteArray) (w : World) (hs : s.size ≤ maxLen) : Calls Try.prog 62 #[.string s] w (RetW w (.bool (validN s))) := by
  unfold maxLen at hs
  by_cases h1 : 1 ≤ s.size
  · have hp : decide ((0 : Int) < (s.size : Int)) = true := decide_eq_true (by omega)
    by_cases h2 : s.size ≤ 32
    · have hv := Lib.hid (show validN s = true by simp [validN, h1, h2])
      have b2 : decide ((s.size : Int) ≤ 32) = true := by simp; omega
      go_enter Try.func62, Try.ntmps62
      go_wp2_with fail
      go_ret
      rw [hv.out]
      exact ⟨rfl, rfl⟩
    · have hv := Lib.hid (show validN s = false by simp [validN, h2])
      have b2 : decide ((s.size : Int) ≤ 32) = false := by simp; omega
      clear h2
      go_enter Try.func62, Try.ntmps62
      go_wp2_with fail
      go_ret
      rw [hv.out]
      exact ⟨rfl, rfl⟩
  · have hv := Lib.hid (show validN s = false by simp [validN, h1])
    have h3 : s.size < 1 := by omega
    clear h1
    go_enter Try.func62, Try.ntmps62
    go_wp2_with fail
    go_ret
    rw [hv.out]
    exact ⟨rfl, rfl⟩
set_option maxRecDepth 100000 in
set_option maxHeartbeats 2000000 in
theorem rbegin_any (G : Nat → Prop) (fv : Value) (l : List PF) (y : RY) (A : Option Addr) (m c B : Nat) (ss : List ByteArray) (w : World) (hF : FsM G w fv l) (hl : l.map Prod.fst = y.files) (hr : Reads w B 1 A m (ss.map Value.string)) (hB : B ≤ w.heap.size) (hm : ss.length = m) (hm2 : m ≤ 100) (hsz : ∀ s ∈ ss, s.size ≤ maxLen) :
    Calls Try.prog 46 #[.agg #[fv, .int .i64 y.left, .bool y.off], .slice A m c] w (Re2 G w (rBegin y (ss.all validN))) := by
  obtain ⟨files, left, off⟩ := y
  simp only at hl ⊢
  obtain ⟨hka, hkb, hba⟩ := two_blk w fv (.int .i64 left) (.bool off)
  obtain ⟨wa, hwa⟩ : ∃ wa, wa = two w fv (.int .i64 left) (.bool off) := ⟨_, rfl⟩
  rw [← hwa] at hka hkb hba
  obtain ⟨Af, cf, rfl, hF'⟩ : ∃ A c, fv = .slice A l.length c ∧ FsM G w fv l := by obtain ⟨A, c, h, h2⟩ := hF; exact ⟨A, c, h, A, c, h, h2⟩
  generalize l.length = n at *
  unfold two at hwa
  have HWA := Lib.hid hwa
  have HFS := Lib.hid (show ∀ w', Below w.heap.size w w' → FsM (UpG G w.heap.size) w' (.slice Af n cf) l from fun w' hb => (hF'.below hb).mono fun _ _ h => .inl h)
  have HL := Lib.hid hl
  have HM := Lib.hid hm
  have HSZ := Lib.hid hsz
  have HB := Lib.hid hba
  have HKB := Lib.hid hkb
  have HKA := Lib.hid hka
  have hra := hr.below (hba.mono hB)
  have x0 := hka.cell 0
  have x1 := hka.cell 1
  have x2 := hka.cell 2
  simp only [List.getElem?_toArray, List.getElem?_cons_zero, List.getElem?_cons_succ] at x0 x1 x2
  have z0 := hkb.cell 0
  have z1 := hkb.cell 1
  have z2 := hkb.cell 2
  simp only [List.getElem?_toArray, List.getElem?_cons_zero, List.getElem?_cons_succ] at z0 z1 z2
  have u0 := hka.frozen 0
  have u1 := hka.frozen 1
  have u2 := hka.frozen 2
  have y0 := hkb.frozen 0
  have y1 := hkb.frozen 1
  have y2 := hkb.frozen 2
  clear hwa hF' hF hl hm hsz hr hba hkb hka
  go_enter Try.func46, Try.ntmps46
  go_upto_region 1 with (fail)
  rw [← HWA.out]
  go_wp2_with fail
  go_loop [6] (fun i => ∃ k : Nat, k ≤ m ∧ i = .int .i64 k ∧ (ss.take k).all validN = true) (fun i => m - (intOf i).toNat)
  case atStart => exact ⟨0, by omega, rfl, rfl⟩
  case round =>
    obtain ⟨k, hk, rfl, hall⟩ := hrel
    have HA := Lib.hid hall
    clear hall
    by_cases hlt : k < m
    · have hkl : k < ss.length := by rw [HM.out]; exact hlt
      obtain ⟨b, o, rfl, hbl, hc⟩ := hra.form (by omega)
      have e0 := hc k (.string ss[k]) (by rw [List.getElem?_map, List.getElem?_eq_getElem hkl]; rfl)
      have hs1 := HSZ.out _ (List.getElem_mem hkl)
      have HST := Lib.hid (fun (h : validN ss[k] = true) => (by rw [List.take_succ_eq_append_getElem hkl, List.all_append, HA.out]; simp [h] : (ss.take (k + 1)).all validN = true))
      have HBD := Lib.hid (fun (h : validN ss[k] = false) => (by rw [List.all_eq_false]; exact ⟨ss[k], List.getElem_mem hkl, by rw [h]; decide⟩ : ss.all validN = false))
      generalize ss[k] = s at *
      clear hc
      go_wp2_with fail
      refine (rvalid_any s wa hs1).mono ?_
      rintro e w' ⟨rfl, rfl⟩
      cases hv : validN s with
      | true =>
        have hn := Lib.hid (HST.out hv)
        clear hv
        go_wp2_with fail
        go_round
        case rel => exact ⟨k + 1, by omega, by go_num, hn.out⟩
        case measure => simp [intOf]; omega
      | false =>
        have hn := Lib.hid (HBD.out hv)
        clear hv
        go_wp2_with fail
        obtain ⟨wF, hwF⟩ : ∃ wF, wF = set3 wa (w.heap.size + 1) (.slice Af n cf) (.int .i64 left) (.bool off) := ⟨_, rfl⟩
        have hkF : Blk wF (w.heap.size + 1) 52 #[(.slice Af n cf : Value), (.int .i64 left : Value), (.bool off : Value)] := by rw [hwF]; exact set3_blk HKB.out _ _ _
        have hbF : Below w.heap.size w wF := by rw [hwF]; exact set3_below HB.out HB.out.size (Nat.le_succ _) _ _ _
        have f0 := hkF.cell 0
        have f1 := hkF.cell 1
        have f2 := hkF.cell 2
        simp only [List.getElem?_toArray, List.getElem?_cons_zero, List.getElem?_cons_succ] at f0 f1 f2
        unfold set3 at hwF
        rw [← hwF]
        refine bodyPost_ret (v := .tuple #[.agg #[(.slice Af n cf : Value), (.int .i64 left : Value), (.bool off : Value)], .int .i64 13]) (by simp [results, Try.results46, go_sem, f0, f1, f2]) rfl ?_
        rw [hn.out]
        exact ⟨_, rfl, ⟨_, l, rfl, HFS.out wF hbF, HL.out⟩, hbF⟩
    · have hta : ss.all validN = true := by rw [← HA.out, List.take_of_length_le (by rw [HM.out]; omega)]
      have HT := Lib.hid hta
      clear hta
      by_cases hc : off = true ∨ left = 0
      · have HR := Lib.hid (show rBegin ⟨files, left, off⟩ (ss.all validN) = (⟨files, left, true⟩, 8) by rw [HT.out]; unfold rBegin; rw [if_neg (by decide), if_pos hc])
        have fin : ∀ (w1 : World), w1 = wa.setCell ⟨w.heap.size, 2, none⟩ (.bool true) → Blk w1 w.heap.size 52 #[.slice Af n cf, .int .i64 left, .bool true] ∧ Blk w1 (w.heap.size + 1) 52 #[.slice none 0 0, .int .i64 0, .bool false] ∧ Below w.heap.size w w1 := by
          intro w1 hw1
          have hk1 := HKA.out.set_ 2 (.bool true)
          have hk2 := HKB.out.far (p := ⟨w.heap.size, 2, none⟩) (show w.heap.size + 1 ≠ w.heap.size by omega) (.bool true)
          rw [← hw1] at hk1 hk2
          simp only [List.setIfInBounds_toArray, List.set_cons_succ, List.set_cons_zero] at hk1
          exact ⟨hk1, hk2, by rw [hw1]; exact HB.out.setCell (Nat.le_refl _) _⟩
        have FIN := Lib.hid fin
        clear fin
        by_cases ho : off = true
        · subst ho
          clear hc
          go_upto_region 8 with (fail)
          obtain ⟨w1, hw1⟩ : ∃ w1, w1 = wa.setCell ⟨w.heap.size, 2, none⟩ (.bool true) := ⟨_, rfl⟩
          rw [← hw1]
          obtain ⟨hk1, hk2, hb1⟩ := FIN.out w1 hw1
          clear hw1 x0 x1 x2 z0 z1 z2 u0 u1 u2 y0 y1 y2
          have x0 := hk1.cell 0
          have x1 := hk1.cell 1
          have x2 := hk1.cell 2
          simp only [List.getElem?_toArray, List.getElem?_cons_zero, List.getElem?_cons_succ] at x0 x1 x2
          have z0 := hk2.cell 0
          have z1 := hk2.cell 1
          have z2 := hk2.cell 2
          simp only [List.getElem?_toArray, List.getElem?_cons_zero, List.getElem?_cons_succ] at z0 z1 z2
          have y0 := hk2.frozen 0
          have y1 := hk2.frozen 1
          have y2 := hk2.frozen 2
          go_wp2_with fail
          obtain ⟨wF, hwF⟩ : ∃ wF, wF = set3 w1 (w.heap.size + 1) (.slice Af n cf) (.int .i64 left) (.bool true) := ⟨_, rfl⟩
          have hkF : Blk wF (w.heap.size + 1) 52 #[(.slice Af n cf : Value), (.int .i64 left : Value), (.bool true : Value)] := by rw [hwF]; exact set3_blk hk2 _ _ _
          have hbF : Below w.heap.size w wF := by rw [hwF]; exact set3_below hb1 hb1.size (Nat.le_succ _) _ _ _
          have f0 := hkF.cell 0
          have f1 := hkF.cell 1
          have f2 := hkF.cell 2
          simp only [List.getElem?_toArray, List.getElem?_cons_zero, List.getElem?_cons_succ] at f0 f1 f2
          unfold set3 at hwF
          rw [← hwF]
          refine bodyPost_ret (v := .tuple #[.agg #[(.slice Af n cf : Value), (.int .i64 left : Value), (.bool true : Value)], .int .i64 8]) (by simp [results, Try.results46, go_sem, f0, f1, f2]) rfl ?_
          rw [HR.out]
          exact ⟨_, rfl, ⟨_, l, rfl, HFS.out wF hbF, HL.out⟩, hbF⟩
        · have ho' : off = false := by cases off; rfl; exact absurd rfl ho
          have h0 : left = 0 := by rcases hc with h | h; exact absurd h ho; exact h
          subst ho' h0
          clear hc ho
          go_upto_region 8 with (fail)
          obtain ⟨w1, hw1⟩ : ∃ w1, w1 = wa.setCell ⟨w.heap.size, 2, none⟩ (.bool true) := ⟨_, rfl⟩
          rw [← hw1]
          obtain ⟨hk1, hk2, hb1⟩ := FIN.out w1 hw1
          clear hw1 x0 x1 x2 z0 z1 z2 u0 u1 u2 y0 y1 y2
          have x0 := hk1.cell 0
          have x1 := hk1.cell 1
          have x2 := hk1.cell 2
          simp only [List.getElem?_toArray, List.getElem?_cons_zero, List.getElem?_cons_succ] at x0 x1 x2
          have z0 := hk2.cell 0
          have z1 := hk2.cell 1
          have z2 := hk2.cell 2
          simp only [List.getElem?_toArray, List.getElem?_cons_zero, List.getElem?_cons_succ] at z0 z1 z2
          have y0 := hk2.frozen 0
          have y1 := hk2.frozen 1
          have y2 := hk2.frozen 2
          go_wp2_with fail
          obtain ⟨wF, hwF⟩ : ∃ wF, wF = set3 w1 (w.heap.size + 1) (.slice Af n cf) (.int .i64 0) (.bool true) := ⟨_, rfl⟩
          have hkF : Blk wF (w.heap.size + 1) 52 #[(.slice Af n cf : Value), (.int .i64 0 : Value), (.bool true : Value)] := by rw [hwF]; exact set3_blk hk2 _ _ _
          have hbF : Below w.heap.size w wF := by rw [hwF]; exact set3_below hb1 hb1.size (Nat.le_succ _) _ _ _
          have f0 := hkF.cell 0
          have f1 := hkF.cell 1
          have f2 := hkF.cell 2
          simp only [List.getElem?_toArray, List.getElem?_cons_zero, List.getElem?_cons_succ] at f0 f1 f2
          unfold set3 at hwF
          rw [← hwF]
          refine bodyPost_ret (v := .tuple #[.agg #[(.slice Af n cf : Value), (.int .i64 0 : Value), (.bool true : Value)], .int .i64 8]) (by simp [results, Try.results46, go_sem, f0, f1, f2]) rfl ?_
          rw [HR.out]
          exact ⟨_, rfl, ⟨_, l, rfl, HFS.out wF hbF, HL.out⟩, hbF⟩
      · have HR := Lib.hid (show rBegin ⟨files, left, off⟩ (ss.all validN) = (⟨files, left, off⟩, 0) by rw [HT.out]; unfold rBegin; rw [if_neg (by decide), if_neg hc])
        have ho : off = false := by cases off; rfl; exact absurd (.inl rfl) hc
        have h0 : (left == 0) = false := by rw [beq_eq_false_iff_ne]; exact fun e => hc (.inr e)
        subst ho
        clear hc
        go_wp2_with fail
        obtain ⟨wF, hwF⟩ : ∃ wF, wF = set3 wa (w.heap.size + 1) (.slice Af n cf) (.int .i64 left) (.bool false) := ⟨_, rfl⟩
        have hkF : Blk wF (w.heap.size + 1) 52 #[(.slice Af n cf : Value), (.int .i64 left : Value), (.bool false : Value)] := by rw [hwF]; exact set3_blk HKB.out _ _ _
        have hbF : Below w.heap.size w wF := by rw [hwF]; exact set3_below HB.out HB.out.size (Nat.le_succ _) _ _ _
        have f0 := hkF.cell 0
        have f1 := hkF.cell 1
        have f2 := hkF.cell 2
        simp only [List.getElem?_toArray, List.getElem?_cons_zero, List.getElem?_cons_succ] at f0 f1 f2
        unfold set3 at hwF
        rw [← hwF]
        refine bodyPost_ret (v := .tuple #[.agg #[(.slice Af n cf : Value), (.int .i64 left : Value), (.bool false : Value)], .int .i64 0]) (by simp [results, Try.results46, go_sem, f0, f1, f2]) rfl ?_
        rw [HR.out]
        exact ⟨_, rfl, ⟨_, l, rfl, HFS.out wF hbF, HL.out⟩, hbF⟩
end Go.Proofs.Ythmbmecodddkeaa
