/- The walk of the law FilesNames. -/
import Derived.Test.YthmbmecodddkeaaAlive
import Derived.Test.YthmbmecodddkeaaNames
namespace Go.Proofs.Ythmbmecodddkeaa
open Go.RowKit Go.WideMaps Go.Sort
/-- A system of the call's own, whatever its footprint. -/
def SysB (w0 w : World) (lo sb mb n : Nat) (st : AS) : Prop := (∃ F, SysM w lo F sb mb n st) ∧ Below w0.heap.size w0 w ∧ w0.heap.size ≤ lo
theorem SEnd.go {w0 w w' : World} {lo sb mb n n' : Nat} {F : Nat → Prop} {st st' : AS} {v : Value} {e : Ending} (hb : Below w0.heap.size w0 w) (hlo : w0.heap.size ≤ lo) (hS : SysM w lo F sb mb n st) (h : SEnd w lo F sb mb n' st' v e w') : e = .returned v ∧ SysB w0 w' lo sb mb n' st' := by
  obtain ⟨rfl, hS', hk⟩ := h
  obtain ⟨_, _, _, _, hF, _⟩ := hS
  exact ⟨rfl, ⟨_, hS'⟩, hk.below hb hb.size fun i hi => by have := hF i hi; omega, hlo⟩
theorem SysB.below {w0 w w' : World} {lo sb mb n : Nat} {st : AS} (h : SysB w0 w lo sb mb n st) (hb : Below w.heap.size w w') : SysB w0 w' lo sb mb n st := by
  obtain ⟨⟨F, h1⟩, h2, h3⟩ := h
  exact ⟨⟨F, h1.below hb⟩, h2.trans (hb.mono h2.size), h3⟩
theorem validN_or (nm : ByteArray) : validN nm = true ∨ nm.size < 1 ∨ 32 < nm.size := by
  by_cases h1 : 1 ≤ nm.size
  · by_cases h2 : nm.size ≤ 32
    · exact .inl (by simp [validN, h1, h2])
    · exact .inr (.inr (by omega))
  · exact .inr (.inl (by omega))
set_option maxRecDepth 100000 in
set_option maxHeartbeats 2000000 in
theorem fnames_good (nm : ByteArray) (w : World) (hs : nm.size ≤ maxLen) (hv : validN nm = true) : Calls Try.prog 4 #[.string nm] w (AwEnd w) := by
  have kc := fun (w : World) (C : Array Value) (n c : Nat) => Lib.run_convert_bytes_const (P := Try.prog) w 28 5 C n c Try.underlying28 Try.underlying5
  have hv' : 1 ≤ nm.size ∧ nm.size ≤ 32 := by simpa [validN] using hv
  have b3 : decide ((nm.size : Int) < 1) = false := by simp; omega
  have b4 : decide ((32 : Int) < (nm.size : Int)) = false := by simp; omega
  have hsz : nm.size ≤ 9223372036854775807 := by simpa [maxLen] using hs
  clear hv'
  go_enter Try.func4, Try.ntmps4
  go_wp2_with fail
  refine (alive_any w).mono ?_
  rintro e w0 ⟨rfl, hb0⟩
  go_wp2_with fail
  refine (newS_any w0).mono ?_
  rintro e w2 ⟨rfl, hS2, hq⟩
  have hS2 := hS2.cap
  obtain ⟨F2, hF2, hS2⟩ : ∃ F2, Hid (∀ i, F2 i → w0.heap.size ≤ i ∧ i < w2.heap.size) ∧ SysM w2 w0.heap.size F2 (w0.heap.size + 1) w0.heap.size 0 emptyA := ⟨_, fun i hi => hi, hS2⟩
  go_wp2_with fail
  have hbb := hb0.trans (hq.mono hb0.size)
  have HB := Lib.hid (hbb.alloc hbb.size (.cells #[.int .u8 120] 5 (1, 2)))
  have HS := Lib.hid hb0.size
  have hrd : Reads (w2.alloc (.cells #[.int .u8 120] 5 (1, 2))) (w2.heap.size + 1) 1 (some ⟨w2.heap.size, 0, none⟩) 1 (([120] : List UInt8).map byteV) :=
    Reads.of_alloc_mark w2 _ 5 _ (by omega) rfl
  have hS3 := hS2.below ((Below.refl w2.heap.size w2).alloc (Nat.le_refl _) (.cells #[.int .u8 120] 5 (1, 2)))
  have happ := append_any w0.heap.size (w0.heap.size + 1) w0.heap.size 0 F2 emptyA _ 1 1 _ [120] nm _ hS3 hrd (by simp) rfl (by
    intro ad e _ hf
    injection e with e
    subst e
    have := (hF2.out _ hf).2
    simp at this) (by omega) hs (by unfold maxLen; omega)
  rw [append_empty nm _ hv (by decide)] at happ
  simp only [errV_zero] at happ
  have HS3 := Lib.hid hS3
  clear hS2 hS3 hrd hq hb0 hbb
  go_wp2_with fail
  refine happ.mono ?_
  clear happ
  intro e w4 h
  obtain ⟨rfl, ⟨F4, hS4⟩, hb4, hlo⟩ := h.go HB.out HS.out HS3.out
  clear h
  have hrd := read_any w0.heap.size (w0.heap.size + 1) w0.heap.size 1 _ (one nm [120] 0) nm w4 hS4 hs
  rw [find_one] at hrd
  go_wp2_with fail
  refine hrd.mono ?_
  clear hrd
  rintro e w5 ⟨hb5, A5, c5, rfl, hown5⟩
  have hb := hb4.trans (hb5.mono hb4.size)
  have hS5 := hS4.below hb5
  have hstr := fun w' (hq : Below w5.heap.size w5 w') => str_of w' A5 1 c5 _ ([120] : List UInt8) ((Reads.of_own hown5).below hq)
  have HST := Lib.hid hstr
  have hsz := size_any w0.heap.size _ _ _ _ _ nm w5 hS5 hs
  rw [find_one] at hsz
  simp only [sizeR] at hsz
  clear hS4 hb4 hb5 hown5 hstr
  go_wp2_with fail
  refine hsz.mono ?_
  rintro e w' ⟨rfl, rfl⟩
  clear hsz
  have hstr := HST.out w5 (Below.refl _ _)
  go_wp2_with fail
  refine (namesS_any w0.heap.size _ _ _ _ _ w5 hS5 (by simp [one])).mono ?_
  rintro e w6 ⟨A6, c6, rfl, _, hq⟩
  have hb6 := hb.trans (hq.mono hb.size)
  have hS6 := hS5.below hq
  clear hS5 hb hq hstr
  go_wp2_with fail
  refine (namesS_any w0.heap.size _ _ _ _ _ w6 hS6 (by simp [one])).mono ?_
  rintro e w7 ⟨A7, c7, rfl, ho7, hq⟩
  have hb7 := hb6.trans (hq.mono hb6.size)
  obtain ⟨bb, oo, rfl, hbl, hc⟩ := (Reads.of_own ho7).form (by simp [one])
  have e0 := hc 0 (.string nm) (by simp [one, encStr])
  rw [Nat.add_zero] at e0
  clear hc hb6 hS6 hq ho7
  go_wp2_with fail
  go_ret
  exact ⟨rfl, hb7⟩
set_option maxRecDepth 100000 in
set_option maxHeartbeats 2000000 in
theorem fnames_bad (nm : ByteArray) (w : World) (hs : nm.size ≤ maxLen) (hv : validN nm = false) (hor : nm.size < 1 ∨ 32 < nm.size) : Calls Try.prog 4 #[.string nm] w (AwEnd w) := by
  have kc := fun (w : World) (C : Array Value) (n c : Nat) => Lib.run_convert_bytes_const (P := Try.prog) w 28 5 C n c Try.underlying28 Try.underlying5
  have hor2 : decide ((nm.size : Int) < 1) = true ∨ (decide ((nm.size : Int) < 1) = false ∧ decide ((32 : Int) < (nm.size : Int)) = true) := by
    by_cases h : nm.size < 1
    · exact .inl (by simp; omega)
    · exact .inr ⟨by simp; omega, by simp; omega⟩
  have HV := Lib.hid hv
  have HOR := Lib.hid hor2
  have hx : (validN nm && validN xN) = false := by rw [hv]; rfl
  have hx2 : (validN xN && validN nm) = false := by rw [hv]; rfl
  have HX := Lib.hid hx
  have HX2 := Lib.hid hx2
  have hsz : nm.size ≤ 9223372036854775807 := by simpa [maxLen] using hs
  clear hor hv hor2 hx hx2
  go_enter Try.func4, Try.ntmps4
  go_wp2_with fail
  refine (alive_any w).mono ?_
  rintro e w0 ⟨rfl, hb0⟩
  go_wp2_with fail
  refine (newS_any w0).mono ?_
  rintro e w2 ⟨rfl, hS2, hq⟩
  have hS2 := hS2.cap
  obtain ⟨F2, hF2, hS2⟩ : ∃ F2, Hid (∀ i, F2 i → w0.heap.size ≤ i ∧ i < w2.heap.size) ∧ SysM w2 w0.heap.size F2 (w0.heap.size + 1) w0.heap.size 0 emptyA := ⟨_, fun i hi => hi, hS2⟩
  go_wp2_with fail
  have hbb := hb0.trans (hq.mono hb0.size)
  have HB := Lib.hid (hbb.alloc hbb.size (.cells #[.int .u8 120] 5 (1, 2)))
  have HS := Lib.hid hb0.size
  have hrd : Reads (w2.alloc (.cells #[.int .u8 120] 5 (1, 2))) (w2.heap.size + 1) 1 (some ⟨w2.heap.size, 0, none⟩) 1 (([120] : List UInt8).map byteV) :=
    Reads.of_alloc_mark w2 _ 5 _ (by omega) rfl
  have hS3 := hS2.below ((Below.refl w2.heap.size w2).alloc (Nat.le_refl _) (.cells #[.int .u8 120] 5 (1, 2)))
  have happ := append_any w0.heap.size (w0.heap.size + 1) w0.heap.size 0 F2 emptyA _ 1 1 _ [120] nm _ hS3 hrd (by simp) rfl (by
    intro ad e _ hf
    injection e with e
    subst e
    have := (hF2.out _ hf).2
    simp at this) (by omega) hs (by unfold maxLen; omega)
  rw [append_bad emptyA nm _ HV.out] at happ
  simp only [errV_ne (show (13 : Int) ≠ 0 by decide)] at happ
  have HS3 := Lib.hid hS3
  clear hS2 hS3 hrd hq hb0 hbb
  go_wp2_with fail
  refine happ.mono ?_
  clear happ
  intro e w4 h
  obtain ⟨rfl, ⟨F4, hS4⟩, hb4, hlo⟩ := h.go HB.out HS.out HS3.out
  clear h
  have hrd := read_any w0.heap.size (w0.heap.size + 1) w0.heap.size 1 _ emptyA nm w4 hS4 hs
  rw [show findA nm.data.toList emptyA.files = none from rfl] at hrd
  go_wp2_with fail
  refine hrd.mono ?_
  clear hrd
  rintro e w5 ⟨hb5, rfl⟩
  simp only [errV_ne (show (5 : Int) ≠ 0 by decide)]
  have hb := hb4.trans (hb5.mono hb4.size)
  have hS5 := hS4.below hb5
  have hsz2 := size_any w0.heap.size _ _ _ _ _ nm w5 hS5 hs
  rw [show findA nm.data.toList emptyA.files = none from rfl] at hsz2
  simp only [sizeR, errV_ne (show (5 : Int) ≠ 0 by decide)] at hsz2
  clear hS4 hb4 hb5
  go_wp2_with fail
  refine hsz2.mono ?_
  rintro e w' ⟨rfl, rfl⟩
  clear hsz2
  rcases HOR.out with b3 | ⟨b3, b4⟩
  all_goals
    go_wp2_with fail
    refine (is_same 13 w5 (by decide)).mono ?_
    rintro e w' ⟨rfl, rfl⟩
    go_wp2_with fail
    refine (is_same 5 w5 (by decide)).mono ?_
    rintro e w' ⟨rfl, rfl⟩
    go_wp2_with fail
    refine (is_same 5 w5 (by decide)).mono ?_
    rintro e w' ⟨rfl, rfl⟩
    go_wp2_with fail
    refine (namesS_any w0.heap.size _ _ _ _ _ w5 hS5 (by simp [emptyA])).mono ?_
    rintro e w6 ⟨A6, c6, rfl, _, hq⟩
    have hb6 := hb.trans (hq.mono hb.size)
    have hS6 := hS5.below hq
    have h7 := sync_any _ _ _ _ _ _ nm w6 hS6 hs
    rw [sync_bad emptyA nm HV.out] at h7
    simp only [errV_ne (show (13 : Int) ≠ 0 by decide)] at h7
    have HS6 := Lib.hid hS6
    clear hS5 hb hq hS6
    go_wp2_with fail
    refine h7.mono ?_
    clear h7
    intro e w7 h
    obtain ⟨rfl, ⟨F7, hS7⟩, hb7, _⟩ := h.go hb6 hlo HS6.out
    have HS7 := Lib.hid hS7
    have h8 := trunc_any _ _ _ _ _ _ nm 0 w7 hS7 hs
    rw [trunc_bad emptyA nm _ HV.out] at h8
    simp only [errV_ne (show (13 : Int) ≠ 0 by decide)] at h8
    clear h hS7 hb6
    go_wp2_with fail
    refine (is_same 13 w7 (by decide)).mono ?_
    rintro e w' ⟨rfl, rfl⟩
    go_wp2_with fail
    refine h8.mono ?_
    clear h8
    intro e w8 h
    obtain ⟨rfl, ⟨F8, hS8⟩, hb8, _⟩ := h.go hb7 hlo HS7.out
    have HS8 := Lib.hid hS8
    have h9 := remove_any _ _ _ _ _ _ nm w8 hS8 hs
    rw [remove_bad emptyA nm HV.out] at h9
    simp only [errV_ne (show (13 : Int) ≠ 0 by decide)] at h9
    clear h hS8 hb7
    go_wp2_with fail
    refine (is_same 13 w8 (by decide)).mono ?_
    rintro e w' ⟨rfl, rfl⟩
    go_wp2_with fail
    refine h9.mono ?_
    clear h9
    intro e w9 h
    obtain ⟨rfl, ⟨F9, hS9⟩, hb9, _⟩ := h.go hb8 hlo HS8.out
    have HS9 := Lib.hid hS9
    have h10 := rename_any _ _ _ _ _ _ nm xN w9 hS9 hs xN_size (by unfold maxLen; omega)
    rw [rename_bad emptyA nm xN HX.out] at h10
    simp only [errV_ne (show (13 : Int) ≠ 0 by decide)] at h10
    clear h hS9 hb8
    go_wp2_with fail
    refine (is_same 13 w9 (by decide)).mono ?_
    rintro e w' ⟨rfl, rfl⟩
    go_wp2_with fail
    refine h10.mono ?_
    clear h10
    intro e w10 h
    obtain ⟨rfl, ⟨F10, hS10⟩, hb10, _⟩ := h.go hb9 hlo HS9.out
    have HS10 := Lib.hid hS10
    have h11 := rename_any _ _ _ _ _ _ xN nm w10 hS10 xN_size hs (by unfold maxLen; omega)
    rw [rename_bad emptyA xN nm HX2.out] at h11
    simp only [errV_ne (show (13 : Int) ≠ 0 by decide)] at h11
    clear h hS10 hb9
    go_wp2_with fail
    refine (is_same 13 w10 (by decide)).mono ?_
    rintro e w' ⟨rfl, rfl⟩
    go_wp2_with fail
    refine h11.mono ?_
    clear h11
    intro e w11 h
    obtain ⟨rfl, _, hb11, _⟩ := h.go hb10 hlo HS10.out
    clear h hb10
    go_wp2_with fail
    refine (is_same 13 w11 (by decide)).mono ?_
    rintro e w' ⟨rfl, rfl⟩
    go_wp2_with fail
    go_ret
    exact ⟨rfl, hb11⟩
theorem fnames_any (nm : ByteArray) (w : World) (hs : nm.size ≤ maxLen) : Calls Try.prog 4 #[.string nm] w (AwEnd w) := by
  rcases validN_or nm with h | h
  · exact fnames_good nm w hs h
  · exact fnames_bad nm w hs (by
      unfold validN
      rcases h with h | h
      · simp; omega
      · simp; omega) h
end Go.Proofs.Ythmbmecodddkeaa
