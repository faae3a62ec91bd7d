/- The player's state; the walk of is (func 32). -/
import Derived.Test.YtcppmmdkblmfoaaPlPlain
import Derived.Deep.CutRange
import Derived.Deep.QuietTactic
import Derived.BigQuiet
namespace Go.Proofs.Ytcppmmdkblmfoaa
open Go.RowKit Go.WideMaps
structure PlM (w : World) (base : Nat) (F : Nat → Prop) (sb mb n pb : Nat) (G : Nat → Prop) (st : AS) (r : RL) (lv : Value) : Prop where
  sys : SysM w base F sb mb n st
  cap : ∀ i, F i → i < w.heap.size
  str : StR st r
  blk : ∃ A1 n1 c1 A2 n2 c2, Blk w pb 59 #[.pointer (some ⟨sb, 0, none⟩), lv, .slice A1 n1 c1, .slice A2 n2 c2, .int .i64 r.left, .bool r.off, .bool r.br] ∧ PayG G w (.slice A1 n1 c1) r.syn ∧ PayG G w (.slice A2 n2 c2) r.more
  pbF : ¬ F pb
  gF : ∀ i, G i → ¬ F i ∧ i ≠ pb
  log : lv = .pointer none ∨ (Whole r ∧ ∃ lb c z, lv = .pointer (some ⟨lb, 0, none⟩) ∧ Blk w lb 78 (logC sb logN c z r.br) ∧ ¬ F lb ∧ lb ≠ pb ∧ ¬ G lb ∧ base ≤ lb ∧ c = ((frames (r.syn ++ r.more)).1.length : Int) ∧ z = ((frames (r.syn ++ r.more)).2 : Int))
  small : (r.syn ++ r.more).length ≤ 100000
theorem quietW {f : FuncId} {args : Array Value} {w : World} {n : Nat} {v : Value} (h : Calls Try.prog f args (w.drewN n) (RetW (w.drewN n) v)) : Calls Try.prog f args (w.drewN n) fun e w'' => e = .returned v ∧ ∃ m, w'' = w.drewN m :=
  h.mono fun _ _ ⟨he, hm⟩ => ⟨he, n, hm.symm⟩
def BoolBelow (w : World) (b : Bool) (e : Ending) (w' : World) : Prop := e = .returned (.bool b) ∧ Below w.heap.size w w'
set_option maxRecDepth 100000 in
set_option maxHeartbeats 4000000 in
theorem is_any {w : World} {base : Nat} {F : Nat → Prop} {sb mb n pb : Nat} {G : Nat → Prop} {st : AS} {r : RL} {lv : Value} (h : PlM w base F sb mb n pb G st r lv) :
    Calls Try.prog 32 #[.pointer (some ⟨pb, 0, none⟩)] w (BoolBelow w true) := by
  obtain ⟨A1, n1, c1, A2, n2, c2, hblk, hp1, hp2⟩ := h.blk
  have hread := read_any base sb mb n F st logN w h.sys logN_size
  have hlog := h.log
  have hfiles := h.str.files
  have hsm := h.small
  obtain ⟨syn, more, left, off, br⟩ := r
  simp only at hblk hp1 hp2 hlog hfiles hsm
  obtain ⟨e1, hc1, hr1⟩ := hp1.reads
  obtain ⟨e2, hc2, hr2⟩ := hp2.reads
  have hdl : (syn ++ more).length = n1 + n2 := by rw [List.length_append, e1, e2]
  have hnn : n1 + n2 ≤ 100000 := by omega
  have hfl := (frames_len _ (syn ++ more) (Nat.le_refl _)).1
  obtain ⟨m, hm⟩ : ∃ m, m = (frames (syn ++ more)).2 := ⟨_, rfl⟩
  obtain ⟨L, hL⟩ : ∃ L, L = (frames (syn ++ more)).1.length := ⟨_, rfl⟩
  have HM := Lib.hid hm
  have HLL := Lib.hid hL
  have HDL := Lib.hid hdl
  have HR := Lib.hid (show ∀ w', Below w.heap.size w w' → Reads w' w.heap.size 1 A1 n1 (syn.map byteV) ∧ Reads w' w.heap.size 1 A2 n2 (more.map byteV) from fun w' hb => ⟨hr1.below hb, hr2.below hb⟩)
  have HF := Lib.hid (show ∀ (w1 : World) (A3 : Option Addr) (c3 : Nat), w1.ownsRow w.heap.size 5 1 (.slice A3 (n1 + n2) c3) (n1 + n2) ((syn ++ more).map byteV) → Calls Try.prog 18 #[.slice A3 (n1 + n2) c3] w1 (FrShort w1 L m) from fun w1 A3 c3 h => by
    refine (rframes_any A3 (n1 + n2) c3 w1.heap.size (syn ++ more) w1 (Reads.of_own h) (Nat.le_refl _) (by omega) (own_le h)).mono ?_
    rintro e w' ⟨A, c, vs, rfl, _, _, hb⟩
    rw [← HM.out, ← HLL.out]
    exact ⟨A, c, rfl, hb⟩)
  have HB := Lib.hid (show ∀ w', Below w.heap.size w w' → Blk w' pb 59 #[.pointer (some ⟨sb, 0, none⟩), lv, .slice A1 n1 c1, .slice A2 n2 c2, .int .i64 left, .bool off, .bool br] from fun w' hb => hblk.below hb hblk.lt)
  have HLG := Lib.hid (show lv = .pointer none ∨ (∃ lb, lv = .pointer (some ⟨lb, 0, none⟩) ∧ ∀ w', Below w.heap.size w w' → Blk w' lb 78 (logC sb logN L m br)) from by
    rcases hlog with h1 | ⟨_, lb, c, z, h1, h2, _, _, _, _, h3, h4⟩
    · exact .inl h1
    · refine .inr ⟨lb, h1, fun w' hb => ?_⟩
      rw [h3, h4] at h2
      rw [HM.out, HLL.out]
      exact h2.below hb h2.lt)
  have p0 := hblk.cell 0
  simp only [List.getElem?_toArray, List.getElem?_cons_zero] at p0
  clear hp1 hp2 hr1 hr2 e1 e2 hm hL hdl hc1 hc2 hfl hlog hblk hsm
  rcases hfiles with ⟨hf, hs0, hm0⟩ | hf
  · have hn0 : n1 + n2 = 0 := by rw [← HDL.out, hs0, hm0]; rfl
    rw [hf] at hread
    have HN0 := Lib.hid hn0
    clear hf hs0 hm0 hn0
    go_enter Try.func32, Try.ntmps32
    go_wp2_with fail
    refine hread.mono ?_
    rintro e w1 ⟨hb1, hq⟩
    simp only [findA, findG] at hq
    subst hq
    clear hread p0
    have hk1 := HB.out w1 hb1
    have x2 := hk1.cell 2
    have x3 := hk1.cell 3
    have x4 := hk1.cell 4
    have x5 := hk1.cell 5
    have x6 := hk1.cell 6
    simp only [List.getElem?_toArray, List.getElem?_cons_zero, List.getElem?_cons_succ] at x2 x3 x4 x5 x6
    have hall := all_any A1 A2 n1 c1 n2 c2 w.heap.size syn more left off br w1 ((HR.out w1 hb1).1) ((HR.out w1 hb1).2) hb1.size (by omega) (by omega)
    unfold rlV at hall
    clear hk1
    go_wp2_with fail
    refine hall.mono ?_
    rintro e w2 ⟨A3, c3, rfl, hown3, hq⟩
    clear hall x2 x3 x4 x5 x6
    rw [HDL.out] at hown3 ⊢
    have hb2 := hb1.trans (hq.mono hb1.size)
    have hfr := HF.out w2 A3 c3 (own_low hown3 hb1.size)
    clear hq
    go_wp2_with fail
    refine hfr.mono ?_
    rintro e w3 ⟨A4, c4, rfl, hq⟩
    clear hfr
    have hb3 := hb2.trans (hq.mono hb2.size)
    have hz0 : decide ((0 : Int) < (n1 : Int) + (n2 : Int)) = false := by have := HN0.out; simp; omega
    clear hq hown3 hb1 hb2
    unfold errV
    go_upto_region 6 with (fail)
    have hk3 := HB.out w3 hb3
    have p1 := hk3.cell 1
    simp only [List.getElem?_toArray, List.getElem?_cons_zero, List.getElem?_cons_succ] at p1
    rcases HLG.out with rfl | ⟨lb, rfl, hbl⟩
    · clear hk3
      go_quiet (fail)
      go_wp2_with fail
      go_ret
      exact ⟨rfl, hb3.trans ⟨rfl, rfl, rfl, Nat.le_refl _, fun _ _ => rfl⟩⟩
    · have hlb := hbl w3 hb3
      have p6 := hk3.cell 6
      simp only [List.getElem?_toArray, List.getElem?_cons_zero, List.getElem?_cons_succ] at p6
      clear hk3 hbl
      go_quiet ((first | (go_at_call 24; exact quietW (llen_any lb sb logN L m br _ hlb)) | (go_at_call 23; exact quietW (lsize_any lb sb logN L m br _ hlb)) | (go_at_call 27; exact quietW (lbroken_any lb sb logN L m br _ hlb))))
      go_wp2_with fail
      go_ret
      exact ⟨rfl, hb3.trans ⟨rfl, rfl, rfl, Nat.le_refl _, fun _ _ => rfl⟩⟩
  · have hfd : findA logN.data.toList st.files = some ⟨logN.data.toList, syn ++ more, syn.length⟩ := by rw [hf]; unfold findA; simp only [findG, if_true]
    rw [hfd] at hread
    clear hf hfd
    go_enter Try.func32, Try.ntmps32
    go_wp2_with fail
    refine hread.mono ?_
    rintro e w1 ⟨hb1, A5, c5, rfl, hown5⟩
    simp only at hown5
    rw [HDL.out] at hown5 ⊢
    clear hread p0
    have hk1 := HB.out w1 hb1
    have x2 := hk1.cell 2
    have x3 := hk1.cell 3
    have x4 := hk1.cell 4
    have x5 := hk1.cell 5
    have x6 := hk1.cell 6
    simp only [List.getElem?_toArray, List.getElem?_cons_zero, List.getElem?_cons_succ] at x2 x3 x4 x5 x6
    have hall := all_any A1 A2 n1 c1 n2 c2 w.heap.size syn more left off br w1 ((HR.out w1 hb1).1) ((HR.out w1 hb1).2) hb1.size (by omega) (by omega)
    unfold rlV at hall
    clear hk1
    go_wp2_with fail
    refine hall.mono ?_
    rintro e w2 ⟨A3, c3, rfl, hown3, hq⟩
    clear hall x2 x3 x4 x5 x6
    rw [HDL.out] at hown3 ⊢
    have hb2 := hb1.trans (hq.mono hb1.size)
    have hfr := HF.out w2 A3 c3 (own_low hown3 hb1.size)
    have hown5 := own_below hown5 hq
    clear hq
    go_wp2_with fail
    refine hfr.mono ?_
    rintro e w3 ⟨A4, c4, rfl, hq⟩
    clear hfr
    have hb3 := hb2.trans (hq.mono hb2.size)
    have hbe := bytes_eq A5 A3 (n1 + n2) (n1 + n2) c5 c3 _ _ (syn ++ more) (syn ++ more) w3 (Reads.of_own (own_below hown5 hq)) (Reads.of_own (own_below hown3 hq))
    rw [beq_self_eq_true] at hbe
    clear hq hown3 hown5 hb1 hb2
    go_wp2_with fail
    refine hbe.mono ?_
    rintro e w3' ⟨rfl, rfl⟩
    clear hbe
    go_upto_region 6 with (fail)
    have hk3 := HB.out w3 hb3
    have p1 := hk3.cell 1
    simp only [List.getElem?_toArray, List.getElem?_cons_zero, List.getElem?_cons_succ] at p1
    rcases HLG.out with rfl | ⟨lb, rfl, hbl⟩
    · clear hk3
      go_quiet (fail)
      go_wp2_with fail
      go_ret
      exact ⟨rfl, hb3.trans ⟨rfl, rfl, rfl, Nat.le_refl _, fun _ _ => rfl⟩⟩
    · have hlb := hbl w3 hb3
      have p6 := hk3.cell 6
      simp only [List.getElem?_toArray, List.getElem?_cons_zero, List.getElem?_cons_succ] at p6
      clear hk3 hbl
      go_quiet ((first | (go_at_call 24; exact quietW (llen_any lb sb logN L m br _ hlb)) | (go_at_call 23; exact quietW (lsize_any lb sb logN L m br _ hlb)) | (go_at_call 27; exact quietW (lbroken_any lb sb logN L m br _ hlb))))
      go_wp2_with fail
      go_ret
      exact ⟨rfl, hb3.trans ⟨rfl, rfl, rfl, Nat.le_refl _, fun _ _ => rfl⟩⟩
end Go.Proofs.Ytcppmmdkblmfoaa
