/- The walk of regex.measure. -/
import Derived.Test.YtfdpohceoabinaaMeas
namespace Go.Proofs.Ytfdpohceoabinaa
open Go.RowKit
def largeE : Value := .iface 33 (.int .i64 9)
def msV (r : Rx) : Value := if r.fits then .tuple #[.int .i64 r.pos, .nilIface] else .tuple #[.int .i64 0, largeE]
set_option maxHeartbeats 1000000
theorem measure_any (b o : Nat) (r : Rx) (cs : List Value) (w : World) (F : Nat → Prop) (hv : RxV w F r cs) (hF : ∀ i, F i → i < w.heap.size) (hA : At8 w b o cs) (ht : r.tame) : Calls Try.prog 23 #[.pointer (some ⟨b, o, none⟩)] w fun e w' => e = .returned (msV r) ∧ Below w.heap.size w w' := by
  have hb := hA.1
  have hK : Kept (fun _ => False) w (w.alloc (.cells #[.int .i64 0] 82)) := (Kept.refl _ w).alloc _
  have hN := node_any w.heap.size r.size r (Nat.le_refl _) b o cs (w.alloc (.cells #[.int .i64 0] 82)) 0 1 F (hv.kept hK (fun _ _ _ => id) fun _ h _ => h) (hA.kept hK id) (by omega) (fun i hi => by have := hF i hi; omega) (Blk.new w _ _) ht (by omega) (by omega)
  have HN := Lib.hid hN
  have HB := Lib.hid (show ∀ w', Kept (isG w.heap.size) (w.alloc (.cells #[.int .i64 0] 82)) w' → Below w.heap.size w w' from fun w' hk => by
    refine hk.below ((Below.refl _ w).alloc (Nat.le_refl _) _) (by simp) fun i hi => by have e : i = w.heap.size := hi; omega)
  clear hN hK hv hF hA ht hb
  unfold msV
  by_cases hfit : fitsN 0 1 r
  · have hf1 := hfit.1
    have hf2 := hfit.2
    by_cases hp : r.pos ≤ 64
    · have hpc : r.posC = r.pos := by unfold Rx.posC capM; omega
      by_cases hw : r.wri ≤ 4096
      · have hwc : r.wriC = r.wri := by unfold Rx.wriC capM; omega
        have hfits : r.fits = true := by unfold Rx.fits; simp; omega
        rw [if_pos hfits]
        have HF := Lib.hid hfit
        have HPC := Lib.hid hpc
        have HWC := Lib.hid hwc
        have t1 : decide (64 < (r.pos : Int)) = false := by simp; omega
        have t2 : decide (4096 < (r.wri : Int)) = false := by simp; omega
        clear hfit hpc hwc hfits hf1 hf2
        go_enter Try.func23, Try.ntmps23
        go_wp2_with fail
        refine HN.out.mono ?_
        rintro e w2 ⟨hok, _, hk2⟩
        obtain ⟨rfl, _⟩ := hok HF.out
        rw [HPC.out, HWC.out]
        clear hok
        go_wp2_with fail
        go_ret2
        exact ⟨rfl, HB.out _ hk2⟩
      · have hfits : r.fits = false := by unfold Rx.fits; simp; omega
        rw [if_neg (by rw [hfits]; decide)]
        have HF := Lib.hid hfit
        have HPC := Lib.hid hpc
        have t1 : decide (64 < (r.pos : Int)) = false := by simp; omega
        have t2 : decide (4096 < (r.wriC : Int)) = true := by unfold Rx.wriC capM; simp; omega
        clear hfit hpc hfits hf1 hf2 hw
        unfold largeE
        go_enter Try.func23, Try.ntmps23
        go_wp2_with fail
        refine HN.out.mono ?_
        rintro e w2 ⟨hok, _, hk2⟩
        obtain ⟨rfl, _⟩ := hok HF.out
        rw [HPC.out]
        clear hok
        go_wp2_with fail
        go_ret2
        exact ⟨rfl, HB.out _ hk2⟩
    · have hfits : r.fits = false := by unfold Rx.fits; simp; omega
      rw [if_neg (by rw [hfits]; decide)]
      have HF := Lib.hid hfit
      have t1 : decide (64 < (r.posC : Int)) = true := by unfold Rx.posC capM; simp; omega
      clear hfit hfits hf1 hf2 hp
      unfold largeE
      go_enter Try.func23, Try.ntmps23
      go_wp2_with fail
      refine HN.out.mono ?_
      rintro e w2 ⟨hok, _, hk2⟩
      obtain ⟨rfl, _⟩ := hok HF.out
      clear hok
      go_wp2_with fail
      go_ret2
      exact ⟨rfl, HB.out _ hk2⟩
  · have hfits : r.fits = false := by
      unfold fitsN at hfit
      unfold Rx.fits
      simp
      omega
    rw [if_neg (by rw [hfits]; decide)]
    have HF := Lib.hid hfit
    clear hfit hfits
    unfold largeE
    go_enter Try.func23, Try.ntmps23
    go_wp2_with fail
    refine HN.out.mono ?_
    rintro e w2 ⟨_, hno, hk2⟩
    obtain rfl := hno HF.out
    clear hno
    go_wp2_with fail
    go_ret2
    exact ⟨rfl, HB.out _ hk2⟩
end Go.Proofs.Ytfdpohceoabinaa
