/- The walks of the parser's next and skip. -/
import Derived.Test.YtpiagfmjekcncaaDoorProg
import Derived.Test.YtpiagfmjekcncaaDoorjRx
import Derived.Test.YtpiagfmjekcncaaDoorjMem
import Derived.WalkKit
import Derived.WalkSpells
import Derived.WalkLawsBesides
import Derived.BigQuiet
import Derived.Deep.QuietTactic
import Derived.Deep.Cut
import Derived.Lib.Hide
set_option linter.unusedVariables false
set_option linter.unusedSimpArgs false
set_option linter.unusedSectionVars false
namespace Go.Proofs.YtpiagfmjekcncaaDoor
open Go.RowKit
theorem u8b (b : UInt8) : 0 ≤ (b.toNat : Int) ∧ (b.toNat : Int) ≤ 255 := by have := b.toNat_lt; omega
/-- The parser in block g reads the text T from place k on. -/
def PS (T : List UInt8) (w : World) (g k : Nat) : Prop := Blk w g 50 #[.string ⟨T.toArray⟩, .int .i64 k] ∧ k ≤ T.length ∧ T.length ≤ 262144
def failV : List PanicEntry := [{ v := .iface 53 (.agg #[]), recovered := false }]
/-- A part of the parser has returned v, and the parser stands at k'. -/
def PStep (T : List UInt8) (w : World) (g : Nat) (v : Value) (k' : Nat) (e : Ending) (w' : World) : Prop := e = .returned v ∧ PS T w' g k' ∧ Kept (isG g) w w'
/-- It has failed. -/
def PFail (T : List UInt8) (w : World) (g : Nat) (e : Ending) (w' : World) : Prop := e = .panicked failV ∧ (∃ k', PS T w' g k') ∧ Kept (isG g) w w'
section
variable {T : List UInt8} {w : World} {g k : Nat}
theorem PS.cells (h : PS T w g k) : w.cell? ⟨g, 0, none⟩ = some (.string ⟨T.toArray⟩) ∧ w.cell? ⟨g, 1, none⟩ = some (.int .i64 k) ∧ w.frozen? ⟨g, 1, none⟩ = false := by
  have h0 := h.1.cell 0
  have h1 := h.1.cell 1
  have h2 := h.1.frozen 1
  simp only [List.getElem?_toArray, List.getElem?_cons_zero, List.getElem?_cons_succ] at h0 h1
  exact ⟨h0, h1, h2⟩
theorem PS.drewN (h : PS T w g k) (n : Nat) : PS T (w.drewN n) g k := h
theorem PS.drew (h : PS T w g k) : PS T w.drew g k := h
theorem PS.go (h : PS T w g k) {k' : Nat} (hk : k' ≤ T.length) : PS T (w.setCell ⟨g, 1, none⟩ (.int .i64 k')) g k' := ⟨h.1.set_ 1 _, hk, h.2.2⟩
theorem PS.kept {F : Nat → Prop} {w' : World} (h : PS T w g k) (hk : Kept F w w') (hg : ¬ F g) : PS T w' g k := ⟨h.1.kept hk hg, h.2⟩
theorem PS.alloc (h : PS T w g k) (o : Obj) : PS T (w.alloc o) g k := ⟨h.1.alloc o, h.2⟩
theorem PS.lt (h : PS T w g k) : g < w.heap.size := h.1.lt
theorem idxT {P : Program} {t : TypeId} (ht : P.underlying t = some .string) {b : UInt8} (hb : T[k]? = some b) (w : World) : (Instr.index t (.string ⟨T.toArray⟩) (.int .i64 k)).run P w = .ok (.int .u8 b.toNat) w := by
  rw [run_index_string _ _ _ _ _ ht]
  have hl := at_lt hb
  have hs : (ByteArray.mk T.toArray).size = T.length := by simp [ByteArray.size]
  rw [dif_pos ⟨by omega, by omega⟩]
  congr 2
  have : T[k] = b := by rw [List.getElem?_eq_getElem hl] at hb; injection hb
  subst this
  rfl
end
theorem PS.moved {T : List UInt8} {w : World} {g k : Nat} (h : PS T w g k) (n : Nat) {k' : Nat} (hk : k' ≤ T.length) {x : Int} (hx : x = k') :
    PS T ((w.drewN n).setCell ⟨g, 1, none⟩ (.int .i64 x)) g k' ∧ Kept (isG g) w ((w.drewN n).setCell ⟨g, 1, none⟩ (.int .i64 x)) := by
  subst hx
  exact ⟨(h.drewN n).go hk, ((Kept.refl (isG g) w).drewN n).setCell (p := ⟨g, 1, none⟩) (.inl rfl) _⟩
theorem next_some {T : List UInt8} {g k : Nat} {b : UInt8} (w : World) (h : PS T w g k) (hb : T[k]? = some b) : Calls Tryd.prog 59 #[.pointer (some ⟨g, 0, none⟩)] w (PStep T w g (.int .u8 b.toNat) (k + 1)) := by
  obtain ⟨c0, c1, q1⟩ := h.cells
  have hl := at_lt hb
  have hix := idxT (P := Tryd.prog) Tryd.underlying9 hb
  have hsz : (ByteArray.mk T.toArray).size = T.length := by simp [ByteArray.size]
  have hne : ((k : Int) == (T.length : Int)) = false := by simp; omega
  have hT := h.2.2
  have H := Lib.hid h
  have HB := Lib.hid hb
  clear h hb
  go_enter Tryd.func59, Tryd.ntmps59
  go_wp2_with fail
  go_quiet (fail)
  go_wp2_with fail
  go_quiet (fail)
  go_wp2_with fail
  go_ret
  exact ⟨rfl, H.out.moved _ (by omega) rfl⟩
theorem next_none {T : List UInt8} {g k : Nat} (w : World) (h : PS T w g k) (hb : T[k]? = none) : Calls Tryd.prog 59 #[.pointer (some ⟨g, 0, none⟩)] w (PFail T w g) := by
  obtain ⟨c0, c1, q1⟩ := h.cells
  have hl : k = T.length := by have := List.getElem?_eq_none_iff.1 hb; have := h.2.1; omega
  have hsz : (ByteArray.mk T.toArray).size = T.length := by simp [ByteArray.size]
  have hT := h.2.2
  subst hl
  have H := Lib.hid h
  clear h hb
  go_enter Tryd.func59, Tryd.ntmps59
  go_wp2_with fail
  go_quiet (fail)
  go_wp2_with fail
  exact ⟨rfl, rfl, ⟨_, H.out.drewN _⟩, (Kept.refl _ _).drewN _⟩
def skipK (T : List UInt8) (k : Nat) (b : UInt8) : Nat := if T[k]? = some b then k + 1 else k
theorem skip_yes {T : List UInt8} {g k : Nat} {b : UInt8} (w : World) (h : PS T w g k) (hb : T[k]? = some b) : Calls Tryd.prog 33 #[.pointer (some ⟨g, 0, none⟩), .int .u8 b.toNat] w (PStep T w g (.bool true) (k + 1)) := by
  obtain ⟨c0, c1, q1⟩ := h.cells
  have hl := at_lt hb
  have hix := idxT (P := Tryd.prog) Tryd.underlying9 hb
  have hsz : (ByteArray.mk T.toArray).size = T.length := by simp [ByteArray.size]
  have hne : decide ((k : Int) < (T.length : Int)) = true := by simp; omega
  have hT := h.2.2
  have H := Lib.hid h
  have HB := Lib.hid hb
  clear h hb
  go_enter Tryd.func33, Tryd.ntmps33
  go_wp2_with fail
  go_quiet (fail)
  go_wp2_with fail
  go_ret
  exact ⟨rfl, H.out.moved _ (by omega) rfl⟩
theorem skip_no {T : List UInt8} {g k : Nat} {b : UInt8} (w : World) (h : PS T w g k) (hb : T[k]? ≠ some b) : Calls Tryd.prog 33 #[.pointer (some ⟨g, 0, none⟩), .int .u8 b.toNat] w (PStep T w g (.bool false) k) := by
  obtain ⟨c0, c1, q1⟩ := h.cells
  have hsz : (ByteArray.mk T.toArray).size = T.length := by simp [ByteArray.size]
  have hT := h.2.2
  have H := Lib.hid h
  have hk := h.2.1
  rcases hc : T[k]? with _ | c
  · have hl : k = T.length := by have := List.getElem?_eq_none_iff.1 hc; omega
    clear h hb hc hk
    subst hl
    go_enter Tryd.func33, Tryd.ntmps33
    go_wp2_with fail
    go_quiet (fail)
    go_wp2_with fail
    go_ret
    exact ⟨rfl, H.out.drewN _, (Kept.refl _ _).drewN _⟩
  · have hl := at_lt hc
    have hix := idxT (P := Tryd.prog) Tryd.underlying9 hc
    have hne : decide ((k : Int) < (T.length : Int)) = true := by simp; omega
    have hcb : ((c.toNat : Int) == (b.toNat : Int)) = false := by
      simp
      intro e
      exact hb (by rw [hc, UInt8.toNat_inj.1 (show c.toNat = b.toNat by omega)])
    clear h hb hc hk
    go_enter Tryd.func33, Tryd.ntmps33
    go_wp2_with fail
    go_quiet (fail)
    go_wp2_with fail
    go_ret
    exact ⟨rfl, H.out.drewN _, (Kept.refl _ _).drewN _⟩
end Go.Proofs.YtpiagfmjekcncaaDoor
