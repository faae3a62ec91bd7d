/- The walk of Truncate of the file system. -/
import Derived.Test.YthmbmecodddkeaaSync
namespace Go.Proofs.Ythmbmecodddkeaa
open Go.RowKit Go.WideMaps
def truncA (st : AS) (nm : ByteArray) (k : Int) : AS × Int :=
  if (beginA st (validN nm)).2 ≠ 0 then beginA st (validN nm)
  else match findA nm.data.toList st.files with
    | none => (st, 5)
    | some f => if k < 0 ∨ (f.data.length : Int) < k then (st, 1) else ({ st with files := putG AF.name ⟨nm.data.toList, f.data.take k.toNat, min f.sync k.toNat⟩ st.files, left := leftA st.lim st.left }, 0)
theorem truncA_ok {st : AS} {nm : ByteArray} {k : Int} (h : (beginA st (validN nm)).2 = 0) : truncA st nm k = match findA nm.data.toList st.files with
    | none => (st, 5)
    | some f => if k < 0 ∨ (f.data.length : Int) < k then (st, 1) else ({ st with files := putG AF.name ⟨nm.data.toList, f.data.take k.toNat, min f.sync k.toNat⟩ st.files, left := leftA st.lim st.left }, 0) := by
  unfold truncA
  rw [if_neg (by rw [h]; decide)]
theorem ownBlock_cut (A : Option Addr) (j k c : Nat) : (Value.slice A j c).ownBlock = (Value.slice A k c).ownBlock := by cases A <;> rfl
theorem own_cut {w : World} {base n c k : Nat} {A : Option Addr} {l : List UInt8} (h : w.ownsRow base 5 1 (.slice A n c) n (l.map byteV)) (hl : l.length = n) (hk : k ≤ n) : w.ownsRow base 5 1 (.slice A k c) (l.take k).length ((l.take k).map byteV) := by
  have hkl : (l.take k).length = k := by simp; omega
  rw [hkl]
  refine ⟨by simp; omega, ?_⟩
  rcases h.2 with ⟨h1, h2⟩ | ⟨g, cap, cur, h1, h2, h3, h4, h5, h6, h7⟩
  · injection h1 with e1 e2 e3
    subst e1 e2 e3
    obtain rfl : k = 0 := by omega
    exact .inl ⟨rfl, rfl⟩
  · injection h1 with e1 e2 e3
    subst e1 e3
    refine .inr ⟨g, c, cur, rfl, h2, h3, by omega, h5, h6, ?_⟩
    have : (cur.toList.take (n * 1)).take k = (l.map byteV).take k := by rw [h7]
    rw [List.take_take, Nat.mul_one, Nat.min_eq_left hk] at this
    rw [Nat.mul_one, this, List.map_take]
set_option maxRecDepth 100000 in
set_option maxHeartbeats 4000000 in
theorem trunc_any (base sb mb n : Nat) (F : Nat → Prop) (st : AS) (nm : ByteArray) (k : Int) (w : World) (hS : SysM w base F sb mb n st) (hs : nm.size ≤ maxLen) :
    Calls Try.prog 16 #[.pointer (some ⟨sb, 0, none⟩), .string nm, .int .i64 k] w (SEnd w base F sb mb n (truncA st nm k).1 (errV (truncA st nm k).2)) := by
  have hbs := hS.base_le
  have hFb : ∀ i, F i → base ≤ i := by
    obtain ⟨_, _, _, _, h4, _⟩ := hS
    exact h4
  obtain ⟨hleft0, hleft2⟩ := hS.left_ok
  obtain ⟨w1, hw1⟩ : ∃ w1, w1 = w.alloc (.cells #[.string nm] 9) := ⟨_, rfl⟩
  have hb1 : Below w.heap.size w w1 := by rw [hw1]; exact (Below.refl _ _).alloc (Nat.le_refl _) _
  have hrn : Reads w1 (w.heap.size + 1) 1 (some ⟨w.heap.size, 0, none⟩) 1 ([nm].map Value.string) := by
    rw [hw1]
    exact Reads.of_alloc w #[.string nm] 9 (by omega) rfl
  have hbeg := begin_any base sb mb n F st _ 1 1 _ [nm] w1 (hS.below hb1) hrn rfl (by omega) (by simpa using hs)
  rw [show [nm].all validN = validN nm by simp] at hbeg
  have HW1 := Lib.hid hw1
  have HFB := Lib.hid hFb
  clear hS hrn hw1 hFb
  obtain ⟨files, off, lim, left⟩ := st
  simp only at hleft0 hleft2
  go_enter Try.func16, Try.ntmps16
  go_wp2_with fail
  rw [← HW1.out]
  refine hbeg.mono ?_
  rintro e w2 ⟨rfl, hS2, hk2⟩
  rcases begin_cases ⟨files, off, lim, left⟩ (validN nm) with ⟨h0, hst, hok, hoff, hnz⟩ | hcode
  · have HAPP := Lib.hid (truncA_ok (k := k) h0)
    rw [h0, errV_zero]
    rw [hst] at hS2
    obtain ⟨frs, hSP, habs, hfoot, hFg, _⟩ := hS2
    have hleft1 : lim = true → 1 ≤ left := fun h => by have := hnz h; simp only at this; omega
    have hlk := look_file hSP.2.1 nm hs
    have hfa := find_abs habs nm.data.toList
    have c0 := hSP.1.cell 0
    simp only [sysC, List.getElem?_toArray, List.getElem?_cons_zero] at c0
    have hK2 : Kept F w w2 := (Kept.of_below hb1).trans (hk2.mono fun i hi => .inl hi)
    have hws : w.heap.size ≤ w2.heap.size := hK2.size
    have hf12 : ∀ i, Grow F w1.heap.size i → Grow F w.heap.size i := fun i hi => by
      rcases hi with hi | hi
      · exact .inl hi
      · exact .inr (Nat.le_trans hb1.size hi)
    have HF12 := Lib.hid hf12
    have hFb := HFB.out
    have hSM2 := Lib.hid (show SysM w2 base (Grow F w.heap.size) sb mb n ⟨files, off, lim, left⟩ from ⟨frs, hSP, habs, fun i hi => hf12 i (hfoot i hi), fun i hi => (by
      rcases hi with hi | hi
      · exact hFb i hi
      · omega), hleft0, hleft2⟩)
    clear h0 hst hoff hnz hbeg hk2 hf12 hFg
    cases hfind : findG FR.name nm.data.toList frs with
    | none =>
      rw [hfind] at hlk hfa
      simp only [Option.map_none] at hfa
      simp only at hlk
      have FIN := Lib.hid (show truncA ⟨files, off, lim, left⟩ nm k = (⟨files, off, lim, left⟩, 5) by rw [HAPP.out]; simp only [hfa])
      clear hfa hfind hSP habs
      go_wp2_with fail
      go_ret
      rw [FIN.out]
      exact ⟨rfl, hSM2.out, hK2⟩
    | some f =>
      rw [hfind] at hlk hfa
      simp only [Option.map_some] at hfa
      simp only at hlk
      obtain ⟨hfn, hfmem⟩ := findG_name hfind
      obtain ⟨fname, fg, fv, fdata, fsync⟩ := f
      simp only at hfn
      subst hfn
      obtain ⟨hfm, hfgb⟩ := hSP.2.2.2.1 _ hfmem
      have hap : ∀ r ∈ frs, r.name ≠ nm.data.toList → Apart ⟨nm.data.toList, fg, fv, fdata, fsync⟩ r := fun r hr hne => by
        have hp := hSP.2.2.2.2.1
        obtain ⟨i, hi, hri⟩ := List.getElem_of_mem hr
        obtain ⟨j, hj, hfj⟩ := List.getElem_of_mem hfmem
        have hij : i ≠ j := fun e => by subst e; rw [hri] at hfj; subst hfj; exact hne rfl
        have hpw := List.pairwise_iff_getElem.1 hp
        rcases Nat.lt_or_gt_of_ne hij with h | h
        · have := hpw i j hi hj h
          rw [hri, hfj] at this
          exact this.symm
        · have := hpw j i hj hi h
          rw [hri, hfj] at this
          exact this
      have hFf : F fg ∨ w.heap.size ≤ fg := HF12.out _ (hfoot _ (.inr (.inr ⟨_, hfmem, .inl rfl⟩)))
      have hFo : ∀ g, fv.ownBlock = some g → F g ∨ w.heap.size ≤ g := fun g hg => HF12.out _ (hfoot _ (.inr (.inr ⟨_, hfmem, .inr hg⟩)))
      have hrowsame : ∀ fx : FR, fx.row = FR.row ⟨nm.data.toList, fg, fv, fdata, fsync⟩ → putR fx.row (frs.map FR.row) = frs.map FR.row := fun fx hx => by
        rw [hx, put_rows, putG_same hSP.2.2.1 hfind]
      have HRS := Lib.hid hrowsame
      have HFA := Lib.hid hfa
      clear hfa hfind hfmem hrowsame
      have HSP := Lib.hid hSP
      have HFM := Lib.hid hfm
      have hownf : w2.ownsRow base 5 1 fv fdata.length (fdata.map byteV) := hfm.2.1
      have hblkf : Blk w2 fg 71 #[fv, .int .i64 fsync] := hfm.1
      have hdl : fdata.length ≤ 16777216 := hfm.2.2.2
      have hsl : fsync ≤ fdata.length := hfm.2.2.1
      have hsbne : fg ≠ sb := Blk.ne_ hblkf hSP.1 (by decide)
      have hmbne : fg ≠ mb := hSP.blk_ne_mb hblkf
      have hsbmb := hSP.sb_ne_mb
      have hown_sb := own_blk_ne hownf hSP.1 (by decide)
      have hown_fg := own_blk_ne hownf hblkf (by decide)
      have hbw := hSP.1
      have hmap := hSP.2.1
      clear hfm hSP
      obtain ⟨fA, fc, rfl⟩ := own_form hownf
      have x0 := hblkf.cell 0
      have x1 := hblkf.cell 1
      have xf0 := hblkf.frozen 0
      have xf1 := hblkf.frozen 1
      simp only [List.getElem?_toArray, List.getElem?_cons_zero, List.getElem?_cons_succ] at x0 x1
      by_cases hk0 : k < 0
      · have FIN := Lib.hid (show truncA ⟨files, off, lim, left⟩ nm k = (⟨files, off, lim, left⟩, 1) by rw [HAPP.out]; simp only [HFA.out, FR.abs]; rw [if_pos (.inl hk0)])
        go_wp2_with fail
        go_ret
        rw [FIN.out]
        exact ⟨rfl, hSM2.out, hK2⟩
      obtain ⟨j, rfl⟩ : ∃ j : Nat, k = j := ⟨k.toNat, by omega⟩
      by_cases hkn : fdata.length < j
      · have FIN := Lib.hid (show truncA ⟨files, off, lim, left⟩ nm j = (⟨files, off, lim, left⟩, 1) by rw [HAPP.out]; simp only [HFA.out, FR.abs]; rw [if_pos (.inr (by omega))])
        clear hk0
        go_wp2_with fail
        go_ret
        rw [FIN.out]
        exact ⟨rfl, hSM2.out, hK2⟩
      have FIN := Lib.hid (show truncA ⟨files, off, lim, left⟩ nm j = (⟨putG AF.name ⟨nm.data.toList, fdata.take j, min fsync j⟩ files, off, lim, leftA lim left⟩, 0) by rw [HAPP.out]; simp only [HFA.out, FR.abs]; rw [if_neg (by omega)]; rfl)
      have hjn : j ≤ fdata.length := by omega
      have hfc := own_le hownf
      have q0 : (0 : Int) ≤ (j : Int) := by omega
      have q1 : (j : Int) ≤ (fdata.length : Int) := by omega
      have q2 : (j : Int) ≤ (fc : Int) := by omega
      have q3 : j ≤ fc := by omega
      clear hk0 hkn
      by_cases hsj : fsync ≤ j
      · have hmin : min fsync j = fsync := Nat.min_eq_left hsj
        have q4 : (fsync : Int) ≤ (j : Int) := by omega
        have HMIN := Lib.hid hmin
        clear hmin
        obtain ⟨w4, hw4⟩ : ∃ w4, w4 = w2.setCell ⟨fg, 0, none⟩ (.slice fA j fc) := ⟨_, rfl⟩
        have hblk4 : Blk w4 fg 71 #[.slice fA j fc, .int .i64 fsync] := by
          have := hblkf.set_ 0 (.slice fA j fc)
          rw [← hw4] at this
          simpa using this
        obtain ⟨w5, hw5⟩ : ∃ w5, w5 = w4.setCell ⟨fg, 1, none⟩ (.int .i64 (fsync : Nat)) := ⟨_, rfl⟩
        have hblk5 : Blk w5 fg 71 #[.slice fA j fc, .int .i64 (fsync : Nat)] := by
          have := hblk4.set_ 1 (.int .i64 (fsync : Nat))
          rw [← hw5] at this
          simpa using this
        have y1 := hblk4.cell 1
        have yf1 := hblk4.frozen 1
        simp only [List.getElem?_toArray, List.getElem?_cons_zero, List.getElem?_cons_succ] at y1
        have HW5 := Lib.hid hw5
        have HW4 := Lib.hid hw4

        have hK5 : Kept (fun i => i = fg) w2 w5 := by rw [hw5, hw4]; exact (kept_set w2 fg 0 _).trans ((kept_set _ fg 1 _).mono fun i hi => .inl hi)
        have hb5 := hbw.kept hK5 (fun e => hsbne e.symm)
        have hm5 := map_kept hmap hK5 (fun e => hmbne e.symm)
        have HK5 := Lib.hid hK5
        have HB5 := Lib.hid hblk5
        have hdone := done_any sb mb off lim left w5 hb5 hleft1 hleft2
        clear hw5 hw4 hblk5 hblk4 hK5 hbw hmap hblkf

        go_wp2_with fail
        rw [← HW4.out, ← HW5.out]
        clear x0 x1 xf0 xf1 y1 yf1

        refine hdone.mono ?_
        rintro e w7 ⟨rfl, hb7, hk7⟩
        have HK7 := Lib.hid hk7
        have hm7 := map_kept hm5 hk7 (Ne.symm hsbmb)
        clear hdone hb5 hm5 hk7
        go_wp2_with fail
        go_ret
        rw [FIN.out]
        rw [HMIN.out]
        have hblk7 := HB5.out.kept HK7.out hsbne
        have hK27 : Kept (Touch sb mb ⟨nm.data.toList, fg, .slice fA fdata.length fc, fdata, fsync⟩) w2 w7 :=
          (HK5.out.mono fun i hi => .inl hi).trans (HK7.out.mono fun i hi => .inl (.inr (.inr (.inr hi))))
        have hown7 := own_keptF (own_keptF (own_cut hownf rfl hjn) HK5.out fun g hg e => hown_fg (by rw [← e, ownBlock_cut fA fdata.length j fc]; exact hg)) HK7.out fun g hg e => hown_sb (by rw [← e, ownBlock_cut fA fdata.length j fc]; exact hg)
        have hf' : FileM w7 base ⟨nm.data.toList, fg, (Value.slice fA j fc), (fdata.take j), fsync⟩ := ⟨hblk7, hown7, by simp; omega, by simp; omega⟩
        have hmr : w7.ownsMap Try.prog 9 ptrR mb n (datum (putR (FR.row ⟨nm.data.toList, fg, (Value.slice fA j fc), (fdata.take j), fsync⟩) (frs.map FR.row))) := by rw [HRS.out ⟨nm.data.toList, fg, (Value.slice fA j fc), (fdata.take j), fsync⟩ rfl]; exact hm7
        have hvl : (Value.slice fA j fc).ownBlock = (Value.slice fA fdata.length fc).ownBlock ∨ (Value.slice fA j fc).ownBlock = none ∨ (Value.slice fA j fc).ownBlock = some w2.heap.size := .inl (ownBlock_cut _ _ _ _)
        have hfin := sys_write (n' := n) (off' := off) (lim' := lim) (left' := leftA lim left) HSP.out HFM.out hfgb hap (f' := ⟨nm.data.toList, fg, (Value.slice fA j fc), (fdata.take j), fsync⟩) rfl rfl hvl hK27 hf' hmr hb7
        have hft := foot_write (w := w2) (F := Grow F w.heap.size) (B := w2.heap.size) (f := ⟨nm.data.toList, fg, .slice fA fdata.length fc, fdata, fsync⟩) (f' := ⟨nm.data.toList, fg, (Value.slice fA j fc), (fdata.take j), fsync⟩) (fun i hi => HF12.out i (hfoot i hi)) (.inl hFf) (fun g hg => .inl (hFo g hg)) rfl hvl (Nat.le_refl _)
        refine ⟨rfl, ⟨_, hfin, ?_, ?_, ?_, ?_⟩, hK2.trans (hK27.mono fun i hi => by
          rcases hi with h | h | h | h
          · subst h; exact hFf
          · exact hFo i h
          · subst h; exact HF12.out _ (hfoot _ (.inr (.inl rfl)))
          · subst h; exact HF12.out _ (hfoot _ (.inl rfl)))⟩
        · show (putG FR.name _ frs).map FR.abs = _
          have := putG_map FR.abs AF.name (⟨nm.data.toList, fg, (Value.slice fA j fc), (fdata.take j), fsync⟩ : FR) frs
          rw [show (fun a => AF.name (FR.abs a)) = FR.name from rfl, habs] at this
          exact this
        · exact fun i hi => by
            rcases hft i hi with h | h
            · exact h
            · exact .inr (Nat.le_trans hws h)
        · intro i hi
          rcases hi with hi | hi
          · exact hFb i hi
          · omega
        · exact leftA_ok hleft1 hleft0 hleft2

      · have hmin : min fsync j = j := Nat.min_eq_right (by omega)
        have q4 : (j : Int) < (fsync : Int) := by omega
        have HMIN := Lib.hid hmin
        clear hmin
        obtain ⟨w4, hw4⟩ : ∃ w4, w4 = w2.setCell ⟨fg, 0, none⟩ (.slice fA j fc) := ⟨_, rfl⟩
        have hblk4 : Blk w4 fg 71 #[.slice fA j fc, .int .i64 fsync] := by
          have := hblkf.set_ 0 (.slice fA j fc)
          rw [← hw4] at this
          simpa using this
        obtain ⟨w5, hw5⟩ : ∃ w5, w5 = w4.setCell ⟨fg, 1, none⟩ (.int .i64 (j : Nat)) := ⟨_, rfl⟩
        have hblk5 : Blk w5 fg 71 #[.slice fA j fc, .int .i64 (j : Nat)] := by
          have := hblk4.set_ 1 (.int .i64 (j : Nat))
          rw [← hw5] at this
          simpa using this
        have y1 := hblk4.cell 1
        have yf1 := hblk4.frozen 1
        simp only [List.getElem?_toArray, List.getElem?_cons_zero, List.getElem?_cons_succ] at y1
        have HW5 := Lib.hid hw5
        have HW4 := Lib.hid hw4

        have hK5 : Kept (fun i => i = fg) w2 w5 := by rw [hw5, hw4]; exact (kept_set w2 fg 0 _).trans ((kept_set _ fg 1 _).mono fun i hi => .inl hi)
        have hb5 := hbw.kept hK5 (fun e => hsbne e.symm)
        have hm5 := map_kept hmap hK5 (fun e => hmbne e.symm)
        have HK5 := Lib.hid hK5
        have HB5 := Lib.hid hblk5
        have hdone := done_any sb mb off lim left w5 hb5 hleft1 hleft2
        clear hw5 hw4 hblk5 hblk4 hK5 hbw hmap hblkf

        go_wp2_with fail
        rw [← HW4.out, ← HW5.out]
        clear x0 x1 xf0 xf1 y1 yf1

        refine hdone.mono ?_
        rintro e w7 ⟨rfl, hb7, hk7⟩
        have HK7 := Lib.hid hk7
        have hm7 := map_kept hm5 hk7 (Ne.symm hsbmb)
        clear hdone hb5 hm5 hk7
        go_wp2_with fail
        go_ret
        rw [FIN.out]
        rw [HMIN.out]
        have hblk7 := HB5.out.kept HK7.out hsbne
        have hK27 : Kept (Touch sb mb ⟨nm.data.toList, fg, .slice fA fdata.length fc, fdata, fsync⟩) w2 w7 :=
          (HK5.out.mono fun i hi => .inl hi).trans (HK7.out.mono fun i hi => .inl (.inr (.inr (.inr hi))))
        have hown7 := own_keptF (own_keptF (own_cut hownf rfl hjn) HK5.out fun g hg e => hown_fg (by rw [← e, ownBlock_cut fA fdata.length j fc]; exact hg)) HK7.out fun g hg e => hown_sb (by rw [← e, ownBlock_cut fA fdata.length j fc]; exact hg)
        have hf' : FileM w7 base ⟨nm.data.toList, fg, (Value.slice fA j fc), (fdata.take j), j⟩ := ⟨hblk7, hown7, by simp; omega, by simp; omega⟩
        have hmr : w7.ownsMap Try.prog 9 ptrR mb n (datum (putR (FR.row ⟨nm.data.toList, fg, (Value.slice fA j fc), (fdata.take j), j⟩) (frs.map FR.row))) := by rw [HRS.out ⟨nm.data.toList, fg, (Value.slice fA j fc), (fdata.take j), j⟩ rfl]; exact hm7
        have hvl : (Value.slice fA j fc).ownBlock = (Value.slice fA fdata.length fc).ownBlock ∨ (Value.slice fA j fc).ownBlock = none ∨ (Value.slice fA j fc).ownBlock = some w2.heap.size := .inl (ownBlock_cut _ _ _ _)
        have hfin := sys_write (n' := n) (off' := off) (lim' := lim) (left' := leftA lim left) HSP.out HFM.out hfgb hap (f' := ⟨nm.data.toList, fg, (Value.slice fA j fc), (fdata.take j), j⟩) rfl rfl hvl hK27 hf' hmr hb7
        have hft := foot_write (w := w2) (F := Grow F w.heap.size) (B := w2.heap.size) (f := ⟨nm.data.toList, fg, .slice fA fdata.length fc, fdata, fsync⟩) (f' := ⟨nm.data.toList, fg, (Value.slice fA j fc), (fdata.take j), j⟩) (fun i hi => HF12.out i (hfoot i hi)) (.inl hFf) (fun g hg => .inl (hFo g hg)) rfl hvl (Nat.le_refl _)
        refine ⟨rfl, ⟨_, hfin, ?_, ?_, ?_, ?_⟩, hK2.trans (hK27.mono fun i hi => by
          rcases hi with h | h | h | h
          · subst h; exact hFf
          · exact hFo i h
          · subst h; exact HF12.out _ (hfoot _ (.inr (.inl rfl)))
          · subst h; exact HF12.out _ (hfoot _ (.inl rfl)))⟩
        · show (putG FR.name _ frs).map FR.abs = _
          have := putG_map FR.abs AF.name (⟨nm.data.toList, fg, (Value.slice fA j fc), (fdata.take j), j⟩ : FR) frs
          rw [show (fun a => AF.name (FR.abs a)) = FR.name from rfl, habs] at this
          exact this
        · exact fun i hi => by
            rcases hft i hi with h | h
            · exact h
            · exact .inr (Nat.le_trans hws h)
        · intro i hi
          rcases hi with hi | hi
          · exact hFb i hi
          · omega
        · exact leftA_ok hleft1 hleft0 hleft2
  · have hne0 : (beginA ⟨files, off, lim, left⟩ (validN nm)).2 ≠ 0 := by rcases hcode with h | h <;> rw [h] <;> decide
    have hap : truncA ⟨files, off, lim, left⟩ nm k = beginA ⟨files, off, lim, left⟩ (validN nm) := by unfold truncA; rw [if_pos hne0]
    have hev : errV (beginA ⟨files, off, lim, left⟩ (validN nm)).2 = .iface 30 (.int .i64 (beginA ⟨files, off, lim, left⟩ (validN nm)).2) := by unfold errV; rw [if_neg hne0]
    have hfin := SEnd.of (n' := n) hb1 hS2 hk2 hbs HFB.out (Nat.le_refl _)
    have HP := Lib.hid hap
    have HF := Lib.hid hfin
    have HE := Lib.hid hev
    obtain ⟨code, hc⟩ : ∃ code, code = (beginA ⟨files, off, lim, left⟩ (validN nm)).2 := ⟨_, rfl⟩
    have HC := Lib.hid hc
    rw [hev, ← hc]
    clear hcode hap hfin hev hbeg hS2 hk2 hne0 hc
    go_wp2_with fail
    go_ret
    rw [HP.out]
    exact ⟨by rw [HE.out, ← HC.out]; rfl, HF.out.1, HF.out.2⟩
end Go.Proofs.Ythmbmecodddkeaa
