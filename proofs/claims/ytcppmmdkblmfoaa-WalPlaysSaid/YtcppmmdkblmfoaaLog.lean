/- The walks of wal.Log's methods. -/
import Derived.Test.YtcppmmdkblmfoaaRFramesL
import Derived.Test.YtcppmmdkblmfoaaTrunc
import Derived.Test.YtcppmmdkblmfoaaFrame
import Derived.StillTailTactics
namespace Go.Proofs.Ytcppmmdkblmfoaa
open Go.RowKit Go.WideMaps
/-- A footprint that grew: from n on, below m. -/
def Cap (F : Nat → Prop) (n m : Nat) : Nat → Prop := fun i => (F i ∨ n ≤ i) ∧ i < m
theorem SysM.trim {w : World} {base sb mb n m : Nat} {F : Nat → Prop} {st : AS} (h : SysM w base (Grow F m) sb mb n st) : SysM w base (Cap F m w.heap.size) sb mb n st := by
  obtain ⟨frs, h1, h2, h3, h4, h5⟩ := h
  exact ⟨frs, h1, h2, fun i hi => ⟨h3 i hi, h1.foot_lt hi⟩, fun i hi => h4 i hi.1, h5⟩
def logC (sb : Nat) (nm : ByteArray) (c z : Int) (br : Bool) : Array Value := #[.pointer (some ⟨sb, 0, none⟩), .string nm, .int .i64 c, .int .i64 z, .bool br]
def ptr (b : Nat) : Value := .pointer (some ⟨b, 0, none⟩)
theorem lsize_any (lb sb : Nat) (nm : ByteArray) (c z : Int) (br : Bool) (w : World) (h : Blk w lb 78 (logC sb nm c z br)) : Calls Try.prog 23 #[.pointer (some ⟨lb, 0, none⟩)] w (RetW w (.int .i64 z)) := by
  have c0 := h.cell 3
  simp only [logC, List.getElem?_toArray, List.getElem?_cons_zero, List.getElem?_cons_succ] at c0
  clear h
  go_enter Try.func23, Try.ntmps23
  go_wp2_with fail
  go_ret
  exact ⟨rfl, rfl⟩
theorem llen_any (lb sb : Nat) (nm : ByteArray) (c z : Int) (br : Bool) (w : World) (h : Blk w lb 78 (logC sb nm c z br)) : Calls Try.prog 24 #[.pointer (some ⟨lb, 0, none⟩)] w (RetW w (.int .i64 c)) := by
  have c0 := h.cell 2
  simp only [logC, List.getElem?_toArray, List.getElem?_cons_zero, List.getElem?_cons_succ] at c0
  clear h
  go_enter Try.func24, Try.ntmps24
  go_wp2_with fail
  go_ret
  exact ⟨rfl, rfl⟩
theorem lbroken_any (lb sb : Nat) (nm : ByteArray) (c z : Int) (br : Bool) (w : World) (h : Blk w lb 78 (logC sb nm c z br)) : Calls Try.prog 27 #[.pointer (some ⟨lb, 0, none⟩)] w (RetW w (.bool br)) := by
  have c0 := h.cell 4
  simp only [logC, List.getElem?_toArray, List.getElem?_cons_zero, List.getElem?_cons_succ] at c0
  clear h
  go_enter Try.func27, Try.ntmps27
  go_wp2_with fail
  go_ret
  exact ⟨rfl, rfl⟩
theorem lsize_nil (w : World) : Calls Try.prog 23 #[.pointer none] w (RetW w (.int .i64 0)) := by
  go_enter Try.func23, Try.ntmps23
  go_wp2_with fail
  go_ret
  exact ⟨rfl, rfl⟩
theorem llen_nil (w : World) : Calls Try.prog 24 #[.pointer none] w (RetW w (.int .i64 0)) := by
  go_enter Try.func24, Try.ntmps24
  go_wp2_with fail
  go_ret
  exact ⟨rfl, rfl⟩
theorem lbroken_nil (w : World) : Calls Try.prog 27 #[.pointer none] w (RetW w (.bool false)) := by
  go_enter Try.func27, Try.ntmps27
  go_wp2_with fail
  go_ret
  exact ⟨rfl, rfl⟩
theorem lsync_nil (w : World) : Calls Try.prog 26 #[.pointer none] w (RetW w (.iface 33 (.int .i64 5))) := by
  go_enter Try.func26, Try.ntmps26
  go_wp2_with fail
  go_ret
  exact ⟨rfl, rfl⟩
theorem lapp_nil (v : Value) (w : World) : Calls Try.prog 25 #[.pointer none, v] w (RetW w (.iface 33 (.int .i64 5))) := by
  go_enter Try.func25, Try.ntmps25
  go_wp2_with fail
  go_ret
  exact ⟨rfl, rfl⟩
theorem open_nil (nm : ByteArray) (w : World) : Calls Try.prog 22 #[.pointer none, .string nm] w (RetW w (.tuple #[.pointer none, .slice none 0 0, .iface 33 (.int .i64 5)])) := by
  go_enter Try.func22, Try.ntmps22
  go_wp2_with fail
  go_ret3
  exact ⟨rfl, rfl⟩
/-- A system, and a log on it. -/
def LogM (w : World) (base : Nat) (F : Nat → Prop) (sb mb n : Nat) (st : AS) (lb : Nat) (nm : ByteArray) (c z : Int) (br : Bool) : Prop :=
  SysM w base F sb mb n st ∧ Blk w lb 78 (logC sb nm c z br) ∧ ¬ F lb ∧ base ≤ lb ∧ ∀ i, F i → i < w.heap.size
def LEnd (w : World) (base : Nat) (F : Nat → Prop) (sb mb n : Nat) (st : AS) (lb : Nat) (nm : ByteArray) (c z : Int) (br : Bool) (v : Value) (e : Ending) (w' : World) : Prop :=
  e = .returned v ∧ LogM w' base (Cap F w.heap.size w'.heap.size) sb mb n st lb nm c z br ∧ Kept (fun i => F i ∨ i = lb) w w'
section
variable {w w' w2 : World} {base sb mb n n' lb : Nat} {F : Nat → Prop} {st st' : AS} {nm : ByteArray} {c z c' z' : Int} {br br' : Bool}
theorem LogM.lt (h : LogM w base F sb mb n st lb nm c z br) : lb < w.heap.size := h.2.1.lt
theorem LogM.keep (h : LogM w base F sb mb n st lb nm c z br) (hn : n ≤ n') : LogM w base (Cap F w.heap.size w.heap.size) sb mb n' st lb nm c z br := by
  obtain ⟨h1, h2, h3, h4, h5⟩ := h
  refine ⟨(h1.wide (w := w) h1.base_le).trim |>.mono hn, h2, ?_, h4, fun i hi => hi.2⟩
  rintro ⟨hi | hi, _⟩
  · exact h3 hi
  · have := h2.lt; omega
theorem LogM.below (h : LogM w base F sb mb n st lb nm c z br) (hb : Below w.heap.size w w') : LogM w' base F sb mb n st lb nm c z br := by
  obtain ⟨h1, h2, h3, h4, h5⟩ := h
  exact ⟨h1.below hb, h2.below hb h2.lt, h3, h4, fun i hi => Nat.lt_of_lt_of_le (h5 i hi) hb.size⟩
/-- A write to the system, then one to the log. -/
theorem LogM.write (h : LogM w base F sb mb n st lb nm c z br) (hb : Below w.heap.size w w') (hs : SysM w2 base (Grow F w'.heap.size) sb mb n' st') (hk : Kept F w' w2) {w3 : World} (hk3 : Kept (fun i => i = lb) w2 w3) (hb3 : Blk w3 lb 78 (logC sb nm c' z' br')) :
    LogM w3 base (Cap F w.heap.size w3.heap.size) sb mb n' st' lb nm c' z' br' ∧ Kept (fun i => F i ∨ i = lb) w w3 := by
  obtain ⟨h1, h2, h3, h4, h5⟩ := h
  have hlt := h2.lt
  have hFb : ∀ i, F i → base ≤ i := by
    obtain ⟨_, _, _, _, h4, _⟩ := h1
    exact h4
  have hbl := h1.base_le
  have hs3 : SysM w3 base (Grow F w'.heap.size) sb mb n' st' := hs.kept hk3 fun i hi e => by
    subst e
    rcases hi with hi | hi
    · exact h3 hi
    · have := hb.size; omega
  have hs4 : SysM w3 base (Grow F w.heap.size) sb mb n' st' := hs3.grow (fun i hi => by
    rcases hi with hi | hi
    · exact .inl hi
    · exact .inr (Nat.le_trans hb.size hi)) fun i hi => by
    rcases hi with hi | hi
    · exact hFb i hi
    · omega
  refine ⟨⟨hs4.trim, hb3, ?_, h4, fun i hi => hi.2⟩, ?_⟩
  · rintro ⟨hi | hi, _⟩
    · exact h3 hi
    · omega
  · exact ((Kept.of_below hb).trans (hk.mono fun i hi => .inl (.inl hi))).trans (hk3.mono fun i hi => .inl (.inr hi))
end
def lsyncA (st : AS) (nm : ByteArray) (c : Int) (br : Bool) : AS × Bool × Int :=
  if br = true then (st, br, 7) else if c = 0 then (st, br, 0) else if (syncA st nm).2 = 0 then ((syncA st nm).1, br, 0) else ((syncA st nm).1, true, (syncA st nm).2)
set_option maxRecDepth 100000 in
set_option maxHeartbeats 1000000 in
theorem lsync_any (base sb mb n : Nat) (F : Nat → Prop) (st : AS) (lb : Nat) (nm : ByteArray) (c z : Int) (br : Bool) (w : World) (hL : LogM w base F sb mb n st lb nm c z br) (hs : nm.size ≤ maxLen) :
    Calls Try.prog 26 #[.pointer (some ⟨lb, 0, none⟩)] w (LEnd w base F sb mb n (lsyncA st nm c br).1 lb nm c z (lsyncA st nm c br).2.1 (errV (lsyncA st nm c br).2.2)) := by
  have hkeep := Lib.hid (hL.keep (n' := n) (Nat.le_refl _))
  have hsync := sync_any base sb mb n F st nm w hL.1 hs
  have HL := Lib.hid hL
  have hlf := Lib.hid (show ¬ F lb from hL.2.2.1)
  obtain ⟨_, hblk, _⟩ := hL
  have HB := Lib.hid hblk
  have c0 := hblk.cell 0
  have c1 := hblk.cell 1
  have c2 := hblk.cell 2
  have c3 := hblk.cell 3
  have c4 := hblk.cell 4
  have f4 := hblk.frozen 4
  simp only [logC, List.getElem?_toArray, List.getElem?_cons_zero, List.getElem?_cons_succ] at c0 c1 c2 c3 c4
  clear hblk
  rename_i hx; clear hx
  by_cases hbr : br = true
  · subst hbr
    go_enter Try.func26, Try.ntmps26
    go_wp2_with fail
    go_ret
    exact ⟨rfl, hkeep.out, Kept.refl _ _⟩
  · have hbr : br = false := by simpa using hbr
    subst hbr
    by_cases hc : c = 0
    · subst hc
      go_enter Try.func26, Try.ntmps26
      go_wp2_with fail
      go_ret
      exact ⟨rfl, hkeep.out, Kept.refl _ _⟩
    · have hcb : (c == 0) = false := by simpa using hc
      have HD := Lib.hid (show lsyncA st nm c false = if (syncA st nm).2 = 0 then ((syncA st nm).1, false, 0) else ((syncA st nm).1, true, (syncA st nm).2) by unfold lsyncA; rw [if_neg (by decide), if_neg hc])
      go_enter Try.func26, Try.ntmps26
      go_wp2_with fail
      go_still_tail 8, (by kernel_rfl)
      change wpList _ _ _ _ _ w.drew
      have hd : Below w.heap.size w w.drew := (Below.refl _ _).drew
      have hS1 := HL.out.1.below hd
      have hsync := sync_any base sb mb n F st nm w.drew hS1 hs
      have HB1 := Lib.hid hd
      clear c0 c1 c2 c3 c4 f4 hS1 hd
      generalize w.drew = w1 at *
      go_wp2_with fail
      refine hsync.mono ?_
      rintro e w2 ⟨rfl, hS2, hk2⟩
      have hblk3 := ((HB.out.below HB1.out HB.out.lt).kept hk2 hlf.out)
      have HF := Lib.hid (fun (w3 : World) (br' : Bool) (hk3 : Kept (fun i => i = lb) w2 w3) (hb3 : Blk w3 lb 78 (logC sb nm c z br')) => HL.out.write HB1.out hS2 hk2 hk3 hb3)
      have f4 := hblk3.frozen 4
      have c4 := hblk3.cell 4
      simp only [logC, List.getElem?_toArray, List.getElem?_cons_zero, List.getElem?_cons_succ] at c4
      have HB3 := Lib.hid hblk3
      clear hblk3 hS2 hk2 hsync
      by_cases hz : (syncA st nm).2 = 0
      · have HD2 := Lib.hid (show lsyncA st nm c false = ((syncA st nm).1, false, 0) by rw [HD.out, if_pos hz])
        rw [hz, errV_zero]
        clear hz
        go_wp2_with fail
        go_ret
        rw [HD2.out]
        exact ⟨rfl, HF.out w2 false (Kept.refl _ _) HB3.out⟩
      · have HD2 := Lib.hid (show lsyncA st nm c false = ((syncA st nm).1, true, (syncA st nm).2) by rw [HD.out, if_neg hz])
        have hev : errV (syncA st nm).2 = .iface 33 (.int .i64 (syncA st nm).2) := by unfold errV; rw [if_neg hz]
        have HE := Lib.hid hev
        rw [hev]
        clear hz hev
        have HS := Lib.hid (rfl : (syncA st nm).2 = (syncA st nm).2)
        go_wp2_with fail
        go_ret
        rw [HD2.out]
        exact ⟨by rw [HE.out]; rfl, HF.out _ true (kept_set w2 lb 4 _) (by have := HB3.out.set_ 4 (.bool true); simpa [logC] using this)⟩
end Go.Proofs.Ytcppmmdkblmfoaa
