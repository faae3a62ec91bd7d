/- The walk of wal.Log's Append. -/
import Derived.Test.YtcppmmdkblmfoaaLog
namespace Go.Proofs.Ytcppmmdkblmfoaa
open Go.RowKit Go.WideMaps
structure LR where
  st : AS
  c : Int
  z : Int
  br : Bool
  code : Int
def lappA (st : AS) (nm : ByteArray) (c z : Int) (br : Bool) (b : List UInt8) : LR :=
  if br = true then ⟨st, c, z, br, 7⟩ else if b.length = 0 then ⟨st, c, z, br, 4⟩ else if 1048576 < b.length then ⟨st, c, z, br, 9⟩
  else if (appendA st nm (frameL b)).2 = 0 then ⟨(appendA st nm (frameL b)).1, c + 1, z + (b.length + 8 : Nat), br, 0⟩ else ⟨(appendA st nm (frameL b)).1, c, z, true, (appendA st nm (frameL b)).2⟩
theorem LEnd.keep {w : World} {base : Nat} {F : Nat → Prop} {sb mb n : Nat} {st : AS} {lb : Nat} {nm : ByteArray} {c z : Int} {br : Bool} {v : Value} (h : LogM w base F sb mb n st lb nm c z br) : LEnd w base F sb mb (n + 1) st lb nm c z br v (.returned v) w :=
  ⟨rfl, h.keep (Nat.le_succ _), Kept.refl _ _⟩
theorem frameL_len (b : List UInt8) : (frameL b).length = b.length + 8 := by
  simp [frameL, be4b]
set_option maxRecDepth 100000 in
set_option maxHeartbeats 1000000 in
theorem lapp_any (base sb mb n : Nat) (F : Nat → Prop) (st : AS) (lb : Nat) (nm : ByteArray) (c z : Int) (br : Bool) (A : Option Addr) (m cap B : Nat) (b : List UInt8) (w : World) (hL : LogM w base F sb mb n st lb nm c z br) (hr : Reads w B 1 A m (b.map byteV)) (hB : B ≤ w.heap.size)
    (hm : b.length = m) (hs : nm.size ≤ maxLen) (hn : n < maxLen) (hc0 : 0 ≤ c) (hc1 : c ≤ 1000000000000) (hz0 : 0 ≤ z) (hz1 : z ≤ 1000000000000) :
    Calls Try.prog 25 #[.pointer (some ⟨lb, 0, none⟩), .slice A m cap] w (LEnd w base F sb mb (n + 1) (lappA st nm c z br b).st lb nm (lappA st nm c z br b).c (lappA st nm c z br b).z (lappA st nm c z br b).br (errV (lappA st nm c z br b).code)) := by
  have HK := Lib.hid (fun (v : Value) => LEnd.keep (v := v) hL)
  have HL := Lib.hid hL
  have hlf := Lib.hid (show ¬ F lb from hL.2.2.1)
  obtain ⟨_, hblk, _⟩ := hL
  have HM := Lib.hid hm
  have HB := Lib.hid hblk
  have c0 := hblk.cell 0
  have c1 := hblk.cell 1
  have c4 := hblk.cell 4
  simp only [logC, List.getElem?_toArray, List.getElem?_cons_zero, List.getElem?_cons_succ] at c0 c1 c4
  clear hblk hm
  rename_i hx; clear hx
  by_cases hbr : br = true
  · subst hbr
    have HD := Lib.hid (show lappA st nm c z true b = ⟨st, c, z, true, 7⟩ by unfold lappA; rw [if_pos rfl])
    go_enter Try.func25, Try.ntmps25
    go_wp2_with fail
    go_ret
    rw [HD.out]
    exact HK.out _
  have hbr : br = false := by simpa using hbr
  subst hbr
  by_cases h0 : m = 0
  · have HD := Lib.hid (show lappA st nm c z false b = ⟨st, c, z, false, 4⟩ by unfold lappA; rw [if_neg (by decide), if_pos (by rw [HM.out]; exact h0)])
    subst h0
    go_enter Try.func25, Try.ntmps25
    go_wp2_with fail
    refine (frame_none A cap w).mono ?_
    rintro e w1 ⟨rfl, rfl⟩
    go_wp2_with fail
    go_ret
    rw [HD.out]
    exact HK.out _
  by_cases h1 : 1048576 < m
  · have HD := Lib.hid (show lappA st nm c z false b = ⟨st, c, z, false, 9⟩ by unfold lappA; rw [if_neg (by decide), if_neg (by rw [HM.out]; exact h0), if_pos (by rw [HM.out]; exact h1)])
    have hfr := frame_large A m cap w h1
    clear h0 h1 hr
    go_enter Try.func25, Try.ntmps25
    go_wp2_with fail
    refine hfr.mono ?_
    rintro e w1 ⟨rfl, rfl⟩
    go_wp2_with fail
    go_ret
    rw [HD.out]
    exact HK.out _
  have HD := Lib.hid (show lappA st nm c z false b = if (appendA st nm (frameL b)).2 = 0 then ⟨(appendA st nm (frameL b)).1, c + 1, z + (m + 8 : Nat), false, 0⟩ else ⟨(appendA st nm (frameL b)).1, c, z, true, (appendA st nm (frameL b)).2⟩ by
    unfold lappA; rw [if_neg (by decide), if_neg (by rw [HM.out]; exact h0), if_neg (by rw [HM.out]; exact h1), HM.out])
  have hfr := frame_ok A m cap B b w hr hB (by omega) (by omega)
  have hm8 : m + 8 ≤ 1000000000 := by omega
  clear h0 h1 hr HK
  go_enter Try.func25, Try.ntmps25
  go_wp2_with fail
  refine hfr.mono ?_
  rintro e w1 ⟨A1, k1, rfl, hown1, hb1⟩
  have c0' := (HB.out.below hb1 HB.out.lt).cell 0
  have c1' := (HB.out.below hb1 HB.out.lt).cell 1
  simp only [logC, List.getElem?_toArray, List.getElem?_cons_zero, List.getElem?_cons_succ] at c0' c1'
  clear hfr c0 c1 c4
  go_wp2_with fail
  go_still_tail 9, (by kernel_rfl)
  change wpList _ _ _ _ _ w1.drew
  have hd : Below w1.heap.size w1 w1.drew := (Below.refl _ _).drew
  have hb2 := hb1.trans (hd.mono hb1.size)
  have hown2 := own_below hown1 hd
  have HFT := Lib.hid (show ∀ i, F i → i < w.heap.size from HL.out.2.2.2.2)
  have happ := append_any base sb mb n F st A1 (m + 8) k1 _ (frameL b) nm w1.drew (HL.out.1.below hb2) (Reads.of_own hown2) (Nat.le_refl _) (by rw [frameL_len, HM.out]) (by
    rintro ad rfl _ hf
    have h1 := HFT.out _ hf
    obtain ⟨g, cg, hv, hg, _⟩ := hown2.form (by omega)
    injection hv with hv
    injection hv with hv
    subst hv
    simp at h1
    omega) hm8 hs hn
  have HB2 := Lib.hid hb2
  clear c0' c1' hown1 hb1 hd hown2 hb2
  generalize w1.drew = w2 at *
  go_wp2_with fail
  refine happ.mono ?_
  rintro e w3 ⟨rfl, hS3, hk3⟩
  have hblk3 := ((HB.out.below HB2.out HB.out.lt).kept hk3 hlf.out)
  have HF := Lib.hid (fun (w4 : World) (c' z' : Int) (br' : Bool) (hk4 : Kept (fun i => i = lb) w3 w4) (hb4 : Blk w4 lb 78 (logC sb nm c' z' br')) => HL.out.write HB2.out hS3 hk3 hk4 hb4)
  clear hS3 hk3 happ
  have f2 := hblk3.frozen 2
  have f3 := hblk3.frozen 3
  have f4 := hblk3.frozen 4
  have c2 := hblk3.cell 2
  have c3 := hblk3.cell 3
  have c4 := hblk3.cell 4
  simp only [logC, List.getElem?_toArray, List.getElem?_cons_zero, List.getElem?_cons_succ] at c2 c3 c4
  have HB3 := Lib.hid hblk3
  clear hblk3
  by_cases hz : (appendA st nm (frameL b)).2 = 0
  · have HD2 := Lib.hid (show lappA st nm c z false b = ⟨(appendA st nm (frameL b)).1, c + 1, z + (m + 8 : Nat), false, 0⟩ by rw [HD.out, if_pos hz])
    rw [hz, errV_zero]
    clear hz
    go_wp2_with fail
    go_ret
    rw [HD2.out]
    exact ⟨rfl, HF.out _ _ _ false ((kept_set w3 lb 2 _).trans ((kept_set _ lb 3 _).mono fun i hi => .inl hi)) (by have := (HB3.out.set_ 2 (.int .i64 (c + 1))).set_ 3 (.int .i64 (z + (m + 8 : Nat))); simpa [logC] using this)⟩
  · have HD2 := Lib.hid (show lappA st nm c z false b = ⟨(appendA st nm (frameL b)).1, c, z, true, (appendA st nm (frameL b)).2⟩ by rw [HD.out, if_neg hz])
    have hev : errV (appendA st nm (frameL b)).2 = .iface 33 (.int .i64 (appendA st nm (frameL b)).2) := by unfold errV; rw [if_neg hz]
    have HE := Lib.hid hev
    rw [hev]
    clear hz hev
    go_wp2_with fail
    go_ret
    rw [HD2.out]
    exact ⟨by rw [HE.out]; rfl, HF.out _ c z true (kept_set w3 lb 4 _) (by have := HB3.out.set_ 4 (.bool true); simpa [logC] using this)⟩
end Go.Proofs.Ytcppmmdkblmfoaa
