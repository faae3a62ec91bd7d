/- The walks of maps.Copy and Copy: a second table with the same rows. -/
import Derived.Test.YtmondfckpgjikaaIs
import Derived.Maps.Ext
import Derived.StillTailTactics
namespace Go.Proofs.Ytmondfckpgjikaa
open Go.RowKit Go.WideMaps Go.Maps
def McEnd (w : World) (mo : Nat) (l : List Row) (e : Ending) (w' : World) : Prop :=
  e = .returned (.tuple #[]) ∧ w'.ownsMap Try.prog 9 tgtR mo l.length (datum l) ∧ w.grownBy w' (some mo)
def McRel (w : World) (mo mb n : Nat) (l : List Row) (wr : World) : Prop :=
  ∃ (left : Lit → Bool) (cnt : Nat) (D : DataW Unit), wr.ranges Try.prog 9 tgtR mb w.heap.size n (datum l) left cnt ∧ cnt ≤ l.length ∧
    wr.ownsMap Try.prog 9 tgtR mo (l.length - cnt) D ∧ Agree D (datum l) left ∧ w.grownBy wr (some mo)
set_option maxRecDepth 100000 in
set_option maxHeartbeats 1000000 in
theorem mapsCopy_any (mo mb n : Nat) (l : List Row) (w : World) (hD : w.ownsMap Try.prog 9 tgtR mo 0 (.map [])) (hS : w.ownsMap Try.prog 9 tgtR mb n (datum l)) (hne : mo ≠ mb) (hn : l.length ≤ 1000000) :
    Calls Try.prog 44 #[.map (some mo), .map (some mb)] w (McEnd w mo l) := by
  have hml := hD.lt
  have hbl := hS.lt
  have HNE := Lib.hid hne
  have HM := Lib.hid (hS.canon law9)
  clear hne
  go_enter Try.func44, Try.ntmps44
  go_wp2_with (at_range; refine wpList_range_own _ rfl _ 71 rfl 9 75 law9 Try.underlying71 _ mb n _ rfl hS ?_; intro w0 hrg0 hg0 hs0)
  clear hs0
  go_frame
  go_loopw [4] (fun _ wr => McRel w mo mb n l wr) (fun _ wr => wr.rangeLeft mb w.heap.size)
  case atStart =>
    exact ⟨_, _, .map [], hrg0, by simp [size_datum], (hD.kept hg0 (by simp)).mono (Nat.zero_le _), agree_start _, hg0.but _⟩
  case round =>
    obtain ⟨left, cnt, D, hrg, hcs, hout, hA, hnx⟩ := hrel
    go_wp2_with (at_next; refine wpList_next_ranges _ rfl _ rfl 9 law9 tgtR encStr tgtM keyStr tgtR_form mb w.heap.size n _ _ _ rfl hrg ?_ ?_)
    · intro hc0 hl0
      have he := agree_end hA hl0 (hout.canon law9) HM.out
      have HE := Lib.hid he
      have HC := Lib.hid hc0
      clear he hc0 hl0
      go_wp2_with fail
      go_end0
      have h0 := HC.out
      subst h0
      rw [HE.out] at hout
      exact ⟨rfl, hout, hnx⟩
    · intro x c kl yd yp w1 cnt1 hkey hlk hv hat hrg1 hlt hg1 hs1 hen
      obtain ⟨x', ex, rfl, _⟩ := Maps.keyOf_str Try.underlying9 hkey
      obtain rfl : x = x' := encStr_inj ex
      have hiter : some mo ≠ some w.heap.size := by intro h; injection h with h; omega
      have hout1 := hout.kept hg1 hiter
      obtain ⟨cn, ct⟩ := c
      clear hs1
      unfold tgtM at hen hv
      go_wp2_with (at_mapUpdate; refine wpList_mapUpdate_own _ rfl _ _ _ 71 rfl 9 75 law9 Try.underlying71 _ mo _ _ rfl (hout1.alloc _) (by unfold maxLen; omega) _ _ _ rfl rfl hkey _ _ hv ?_; intro w2 hout2 hg2; go_frame)
      have hb1 : some mb ≠ some mo := by intro h; injection h with h; exact HNE.out h.symm
      have hi1 : some w.heap.size ≠ some mo := by intro h; injection h with h; omega
      have hrg2 := (hrg1.alloc _).kept hg2 hb1 hi1
      go_roundw
      case rel =>
        exact ⟨_, cnt1, _, hrg2, by omega, hout2.mono (by omega), agree_step hA hout.isMap trivial hat,
          ((hnx.andThen hg1 (fun j hj => by injection hj with hj; exact .inl (by omega))).andThen (World.grownBy_alloc _ _ none) (fun j hj => by cases hj)).andThen hg2 (fun j hj => .inr hj)⟩
      case measure => rw [hrg2.left_eq, hrg.left_eq]; exact hlt
def CpEnd (w : World) (n : Nat) (l : List Row) (e : Ending) (w' : World) : Prop :=
  e = .returned (.pointer (some ⟨w.heap.size + 1, 0, none⟩)) ∧ Tab w' (w.heap.size + 1) w.heap.size n l ∧ Below w.heap.size w w'
set_option maxRecDepth 100000 in
set_option maxHeartbeats 1000000 in
theorem copy_any (tb mb n : Nat) (l : List Row) (w : World) (hT : Tab w tb mb n l) (hn : l.length ≤ 1000000) :
    Calls Try.prog 28 #[.pointer (some ⟨tb, 0, none⟩)] w (CpEnd w l.length l) := by
  have hris := hT.2.2
  go_enter Try.func28, Try.ntmps28
  go_wp2_with fail
  refine (new_any w).mono ?_
  rintro e w1 ⟨rfl, hT1, hb1⟩
  have hTo := hT.below hb1
  have c1 := hTo.cell
  have c2 := hT1.cell
  have hne : w.heap.size ≠ mb := by have := hT.lt.2; omega
  go_wp2_with fail
  go_still_tail 8, (by kernel_rfl)
  change wpList _ _ _ _ _ w1.drew
  have hbd : Below w1.heap.size w1 w1.drew := (Below.refl _ _).drew
  have hT2 := hT1.below hbd
  have hTo2 := hTo.below hbd
  have hb2 := hb1.trans (hbd.mono hb1.size)
  clear c1 c2 hT1 hTo hb1 hbd
  generalize w1.drew = w2 at *
  go_wp2_with fail
  refine (mapsCopy_any w.heap.size mb n l w2 hT2.2.1 hTo2.2.1 hne hn).mono ?_
  rintro e w3 ⟨rfl, hown, hg⟩
  have hblk := hT2.1.grown hg (by intro h; injection h with h; omega)
  have hb3 := below_tab hb2 hb2.size (Nat.le_refl _) hg
  clear hT2 hTo2 hb2 hg
  go_wp2_with fail
  go_ret
  exact ⟨rfl, ⟨hblk, hown, hris⟩, hb3⟩
end Go.Proofs.Ytmondfckpgjikaa
