/- The walk of regex.measure. -/
import Derived.Test.YtpiagfmjekcncaaDoorjMeas
import Derived.Defers
import Derived.Recover
import Derived.Laws.Pointers
set_option linter.unusedVariables false
set_option linter.unusedSimpArgs false
set_option linter.unusedSectionVars false
namespace Go.Proofs.YtpiagfmjekcncaaDoor
open Go.RowKit
def largeE : Value := .iface 41 (.int .i64 9)
def msV (r : Rx) : Value := if r.fits then .tuple #[.int .i64 r.pos, .nilIface] else .tuple #[.int .i64 0, largeE]
set_option maxHeartbeats 1000000
theorem measure_any (b o : Nat) (r : Rx) (cs : List Value) (w : World) (F : Nat → Prop) (hv : RxV w F r cs) (hF : ∀ i, F i → i < w.heap.size) (hA : At8 w b o cs) (ht : r.tame) : Calls Tryd.prog 19 #[.pointer (some ⟨b, o, none⟩)] w fun e w' => e = .returned (msV r) ∧ Below w.heap.size w w' := by
  have hb := hA.1
  have hK : Kept (fun _ => False) w (w.alloc (.cells #[.int .i64 0] 80)) := (Kept.refl _ w).alloc _
  have hN := node_any w.heap.size r.size r (Nat.le_refl _) b o cs (w.alloc (.cells #[.int .i64 0] 80)) 0 1 F (hv.kept hK (fun _ _ _ => id) fun _ h _ => h) (hA.kept hK id) (by omega) (fun i hi => by have := hF i hi; omega) (Blk.new w _ _) ht (by omega) (by omega)
  have HN := Lib.hid hN
  have HB := Lib.hid (show ∀ w', Kept (isG w.heap.size) (w.alloc (.cells #[.int .i64 0] 80)) w' → Below w.heap.size w w' from fun w' hk => by
    refine hk.below ((Below.refl _ w).alloc (Nat.le_refl _) _) (by simp) fun i hi => by have e : i = w.heap.size := hi; omega)
  clear hN hK hv hF hA ht hb
  unfold msV
  by_cases hfit : fitsN 0 1 r
  · have hf1 := hfit.1
    have hf2 := hfit.2
    by_cases hp : r.pos ≤ 64
    · have hpc : r.posC = r.pos := by unfold Rx.posC capM; omega
      by_cases hw : r.wri ≤ 4096
      · have hwc : r.wriC = r.wri := by unfold Rx.wriC capM; omega
        have hfits : r.fits = true := by unfold Rx.fits; simp; omega
        rw [if_pos hfits]
        have HF := Lib.hid hfit
        have HPC := Lib.hid hpc
        have HWC := Lib.hid hwc
        have t1 : decide (64 < (r.pos : Int)) = false := by simp; omega
        have t2 : decide (4096 < (r.wri : Int)) = false := by simp; omega
        clear hfit hpc hwc hfits hf1 hf2
        go_enter Tryd.func19, Tryd.ntmps19
        go_wp2_with fail
        refine HN.out.mono ?_
        rintro e w2 ⟨hok, _, hk2⟩
        obtain ⟨rfl, _⟩ := hok HF.out
        rw [HPC.out, HWC.out]
        clear hok
        go_wp2_with fail
        go_ret2
        exact ⟨rfl, HB.out _ hk2⟩
      · have hfits : r.fits = false := by unfold Rx.fits; simp; omega
        rw [if_neg (by rw [hfits]; decide)]
        have HF := Lib.hid hfit
        have HPC := Lib.hid hpc
        have t1 : decide (64 < (r.pos : Int)) = false := by simp; omega
        have t2 : decide (4096 < (r.wriC : Int)) = true := by unfold Rx.wriC capM; simp; omega
        clear hfit hpc hfits hf1 hf2 hw
        unfold largeE
        go_enter Tryd.func19, Tryd.ntmps19
        go_wp2_with fail
        refine HN.out.mono ?_
        rintro e w2 ⟨hok, _, hk2⟩
        obtain ⟨rfl, _⟩ := hok HF.out
        rw [HPC.out]
        clear hok
        go_wp2_with fail
        go_ret2
        exact ⟨rfl, HB.out _ hk2⟩
    · have hfits : r.fits = false := by unfold Rx.fits; simp; omega
      rw [if_neg (by rw [hfits]; decide)]
      have HF := Lib.hid hfit
      have t1 : decide (64 < (r.posC : Int)) = true := by unfold Rx.posC capM; simp; omega
      clear hfit hfits hf1 hf2 hp
      unfold largeE
      go_enter Tryd.func19, Tryd.ntmps19
      go_wp2_with fail
      refine HN.out.mono ?_
      rintro e w2 ⟨hok, _, hk2⟩
      obtain ⟨rfl, _⟩ := hok HF.out
      clear hok
      go_wp2_with fail
      go_ret2
      exact ⟨rfl, HB.out _ hk2⟩
  · have hfits : r.fits = false := by
      unfold fitsN at hfit
      unfold Rx.fits
      simp
      omega
    rw [if_neg (by rw [hfits]; decide)]
    have HF := Lib.hid hfit
    clear hfit hfits
    unfold largeE
    go_enter Tryd.func19, Tryd.ntmps19
    go_wp2_with fail
    refine HN.out.mono ?_
    rintro e w2 ⟨_, hno, hk2⟩
    obtain rfl := hno HF.out
    clear hno
    go_wp2_with fail
    go_ret2
    exact ⟨rfl, HB.out _ hk2⟩
end Go.Proofs.YtpiagfmjekcncaaDoor
namespace Go.Proofs.YtpiagfmjekcncaaDoor
open Go.RowKit
theorem catch_idle (p q : Addr) (w : World) : CallsD Tryd.prog 17 #[.pointer (some p), .pointer (some q)] .returning w fun e u' w' => e = .returned (.tuple #[]) ∧ u' = .returning ∧ w' = w := by
  refine callsD_of_wpS Tryd.func17 rfl fun c₀ cs hu => ?_
  apply wpS_seq
  apply wpS_region
  simp [wpOpsS, go_sem, recoverD, hu, Tryd.ntmps17, Exit.thenS]
  refine wpS_cond (t := false) (by simp [Act.eval, Array.replicate]) ?_
  simp only [Bool.false_eq_true, if_false]
  refine wpS_of_wp (wp_skip ?_)
  cases c₀
  simp_all [bodyPostS, results, Tryd.results17]
set_option maxHeartbeats 2000000 in
theorem catch_panicking (g h : Nat) (v0 v1 v2 v3 v4 v5 v6 v7 : Value) (er : Value) (u : TypeId) (pv : Value) (older : List PanicEntry) (w : World) (hR : R8 w g v0 v1 v2 v3 v4 v5 v6 v7) (hE : Blk w h 29 #[er]) :
    CallsD Tryd.prog 17 #[.pointer (some ⟨g, 0, none⟩), .pointer (some ⟨h, 0, none⟩)] (.panicking ({ v := .iface u pv, recovered := false } :: older)) w fun e u' w' =>
      e = .returned (.tuple #[]) ∧ u' = .panicking ({ v := .iface u pv, recovered := true } :: older) ∧ w' = (set8 w g (.int .i64 0) (.int .u64 0) (.int .u64 0) (.int .u64 0) (.int .u64 0) (.int .i64 0) (.int .i64 0) (.slice none 0 0)).setCell ⟨h, 0, none⟩ formE := by
  have hgh2 : ¬ h = g := fun e => Blk.ne_ hR hE (by decide) e.symm
  obtain ⟨⟨⟨c0, c1⟩, c2, c3⟩, ⟨c4, c5⟩, c6, c7⟩ := hR.cells
  obtain ⟨⟨⟨f0, f1⟩, f2, f3⟩, ⟨f4, f5⟩, f6, f7⟩ := hR.free
  have e0 := hE.cell 0
  have e1 := hE.frozen 0
  simp only [List.getElem?_toArray, List.getElem?_cons_zero] at e0
  clear hR hE
  unfold formE set8
  refine callsD_of_wpS Tryd.func17 rfl fun c₀ cs hu => ?_
  apply wpS_seq
  apply wpS_region
  simp [wpOpsS, go_sem, recoverD, hu, Tryd.ntmps17, Exit.thenS]
  refine wpS_cond (t := true) (by simp [Act.eval, Array.replicate]) ?_
  simp only [if_true]
  apply wpS_region
  simp [wpOpsS, go_sem, c0, c1, c2, c3, c4, c5, c6, c7, f0, f1, f2, f3, f4, f5, f6, f7, e0, e1, bodyPostS, results, Tryd.results17]
end Go.Proofs.YtpiagfmjekcncaaDoor
