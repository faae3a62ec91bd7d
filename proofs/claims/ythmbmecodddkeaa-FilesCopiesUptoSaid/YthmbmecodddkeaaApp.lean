/- The walk of Append of the file system. -/
import Derived.Test.YthmbmecodddkeaaWrite
import Derived.OwnWalk
import Derived.Deep.Cut
namespace Go.Proofs.Ythmbmecodddkeaa
open Go.RowKit Go.WideMaps
theorem infoB : (Try.prog.info? 5).map (fun i => (i.zero, i.size, i.bytes)) = some (some (.int .u8 0), 1, 1) := by kernel_rfl
theorem oneBV (l : List UInt8) : ∀ u ∈ l.map byteV, u.oneCell' = true := by
  intro u hu; simp only [List.mem_map] at hu; obtain ⟨x, _, rfl⟩ := hu; rfl
theorem SysP.base_le {w : World} {base sb mb n : Nat} {off lim : Bool} {left : Int} {frs : List FR} (h : SysP w base sb mb n off lim left frs) : base ≤ w.heap.size := Nat.le_trans h.2.2.2.2.2.1 (Nat.le_of_lt h.1.lt)
theorem leftA_ok {lim : Bool} {left : Int} (h1 : lim = true → 1 ≤ left) (h0 : 0 ≤ left) (h2 : left ≤ 9223372036854775807) : 0 ≤ leftA lim left ∧ leftA lim left ≤ 9223372036854775807 := by
  unfold leftA
  split
  · rename_i h; have := h1 h; omega
  · exact ⟨h0, h2⟩
theorem begin_cases (st : AS) (ok : Bool) : ((beginA st ok).2 = 0 ∧ (beginA st ok).1 = st ∧ ok = true ∧ st.off = false ∧ (st.lim = true → st.left ≠ 0)) ∨ (beginA st ok).2 = 13 ∨ (beginA st ok).2 = 8 := by
  unfold beginA
  split
  · exact .inr (.inl rfl)
  · split
    · exact .inr (.inr rfl)
    · rename_i h1 h2
      refine .inl ⟨rfl, rfl, by simpa using h1, by simpa using fun h => h2 (.inl h), fun h3 h4 => h2 (.inr ⟨h3, h4⟩)⟩
def findA (nm : List UInt8) (l : List AF) : Option AF := findG AF.name nm l
def appendA (st : AS) (nm : ByteArray) (b : List UInt8) : AS × Int :=
  if (beginA st (validN nm)).2 ≠ 0 then beginA st (validN nm)
  else
    let f := (findA nm.data.toList st.files).getD ⟨nm.data.toList, [], 0⟩
    if 16777216 < f.data.length + b.length then (st, 9) else ({ st with files := putG AF.name ⟨nm.data.toList, f.data ++ b, f.sync⟩ st.files, left := leftA st.lim st.left }, 0)
theorem appendA_ok {st : AS} {nm : ByteArray} {b : List UInt8} (h : (beginA st (validN nm)).2 = 0) : appendA st nm b =
    if 16777216 < ((findA nm.data.toList st.files).getD ⟨nm.data.toList, [], 0⟩).data.length + b.length then (st, 9) else ({ st with files := putG AF.name ⟨nm.data.toList, ((findA nm.data.toList st.files).getD ⟨nm.data.toList, [], 0⟩).data ++ b, ((findA nm.data.toList st.files).getD ⟨nm.data.toList, [], 0⟩).sync⟩ st.files, left := leftA st.lim st.left }, 0) := by
  unfold appendA
  rw [if_neg (by rw [h]; decide)]
theorem find_abs {frs : List FR} {files : List AF} (habs : frs.map FR.abs = files) (nm : List UInt8) : findA nm files = (findG FR.name nm frs).map FR.abs := by
  unfold findA
  rw [← habs, findG_map FR.abs AF.name]
  rfl
theorem reads_keptP {F : Nat → Prop} {w w' : World} {B size n : Nat} {A : Option Addr} {xs : List Value} (h : Reads w B size A n xs) (hk : Kept F w w') (hB : B ≤ w.heap.size) (hF : ∀ ad, A = some ad → 0 < n → ¬ F ad.block) : Reads w' B size A n xs := by
  rcases Nat.eq_zero_or_pos n with rfl | hn
  · exact ⟨h.1, fun h => absurd h (by omega)⟩
  · exact reads_keptF h hk hB fun ad e => hF ad e hn
theorem SEnd.of {w w1 w2 : World} {base sb mb n n' : Nat} {F : Nat → Prop} {st : AS} (hb : Below w.heap.size w w1) (hs : SysM w2 base (Grow F w1.heap.size) sb mb n st) (hk : Kept F w1 w2) (hbs : base ≤ w.heap.size) (hF : ∀ i, F i → base ≤ i) (hn : n ≤ n') : SysM w2 base (Grow F w.heap.size) sb mb n' st ∧ Kept F w w2 :=
  ⟨(hs.mono hn).grow (fun i hi => by
      rcases hi with hi | hi
      · exact .inl hi
      · exact .inr (Nat.le_trans hb.size hi)) (fun i hi => by
      rcases hi with hi | hi
      · exact hF i hi
      · omega), (Kept.of_below hb).trans (hk.mono fun i hi => .inl hi)⟩
set_option maxRecDepth 100000 in
set_option maxHeartbeats 4000000 in
theorem append_any (base sb mb n : Nat) (F : Nat → Prop) (st : AS) (A : Option Addr) (m c B : Nat) (b : List UInt8) (nm : ByteArray) (w : World) (hS : SysM w base F sb mb n st) (hr : Reads w B 1 A m (b.map byteV)) (hB : B ≤ w.heap.size) (hm : b.length = m)
    (hA : ∀ ad, A = some ad → 0 < m → ¬ F ad.block) (hmb : m ≤ 1000000000) (hs : nm.size ≤ maxLen) (hn : n < maxLen) :
    Calls Try.prog 10 #[.pointer (some ⟨sb, 0, none⟩), .string nm, .slice A m c] w (SEnd w base F sb mb (n + 1) (appendA st nm b).1 (errV (appendA st nm b).2)) := by
  obtain ⟨i0, hi, hz0, hz1, hz2⟩ := info_parts infoB
  have HM := Lib.hid hm
  have hbs := hS.base_le
  have hFb : ∀ i, F i → base ≤ i := by
    obtain ⟨_, _, _, _, h4, _⟩ := hS
    exact h4
  obtain ⟨hleft0, hleft2⟩ := hS.left_ok
  obtain ⟨w1, hw1⟩ : ∃ w1, w1 = w.alloc (.cells #[.string nm] 9) := ⟨_, rfl⟩
  have hb1 : Below w.heap.size w w1 := by rw [hw1]; exact (Below.refl _ _).alloc (Nat.le_refl _) _
  have hrn : Reads w1 (w.heap.size + 1) 1 (some ⟨w.heap.size, 0, none⟩) 1 ([nm].map Value.string) := by
    rw [hw1]
    exact Reads.of_alloc w #[.string nm] 9 (by omega) rfl
  have hbeg := begin_any base sb mb n F st _ 1 1 _ [nm] w1 (hS.below hb1) hrn rfl (by omega) (by simpa using hs)
  rw [show [nm].all validN = validN nm by simp] at hbeg
  have HW1 := Lib.hid hw1
  have hr1 := hr.below (hb1.mono hB)
  have HFB := Lib.hid hFb
  have HA := Lib.hid hA
  clear hS hm hrn hw1 hr hA hFb
  obtain ⟨files, off, lim, left⟩ := st
  simp only at hleft0 hleft2
  go_enter Try.func10, Try.ntmps10
  go_wp2_with fail
  rw [← HW1.out]
  refine hbeg.mono ?_
  rintro e w2 ⟨rfl, hS2, hk2⟩
  rcases begin_cases ⟨files, off, lim, left⟩ (validN nm) with ⟨h0, hst, hok, hoff, hnz⟩ | hcode
  · have HAPP := Lib.hid (appendA_ok (b := b) h0)
    rw [h0, errV_zero]
    rw [hst] at hS2
    obtain ⟨frs, hSP2, habs, hfoot, hFg, _⟩ := hS2
    have hleft1 : lim = true → 1 ≤ left := fun h => by have := hnz h; simp only at this; omega
    have hr2 := reads_keptP hr1 hk2 (Nat.le_trans hB hb1.size) HA.out
    have hlk := look_file hSP2.2.1 nm hs
    have hfa := find_abs habs nm.data.toList
    have c0 := hSP2.1.cell 0
    simp only [sysC, List.getElem?_toArray, List.getElem?_cons_zero] at c0
    have hK2 : Kept F w w2 := (Kept.of_below hb1).trans (hk2.mono fun i hi => .inl hi)
    have hws : w.heap.size ≤ w2.heap.size := hK2.size
    have hB2 : B ≤ w2.heap.size := Nat.le_trans hB hws
    have hf12 : ∀ i, Grow F w1.heap.size i → Grow F w.heap.size i := fun i hi => by
      rcases hi with hi | hi
      · exact .inl hi
      · exact .inr (Nat.le_trans hb1.size hi)
    have HF12 := Lib.hid hf12
    have hFb := HFB.out
    have hSM2 := Lib.hid (show SysM w2 base (Grow F w.heap.size) sb mb (n + 1) ⟨files, off, lim, left⟩ from SysM.mono (n := n) ⟨frs, hSP2, habs, fun i hi => hf12 i (hfoot i hi), fun i hi => (by
      rcases hi with hi | hi
      · exact hFb i hi
      · omega), hleft0, hleft2⟩ (by omega))
    clear h0 hst hoff hnz hbeg hr1 hk2 hf12 hFg
    cases hfind : findG FR.name nm.data.toList frs with
    | some f =>
      rw [hfind] at hlk hfa
      simp only [Option.map_some] at hfa
      simp only at hlk
      obtain ⟨hfn, hfmem⟩ := findG_name hfind
      obtain ⟨fname, fg, fv, fdata, fsync⟩ := f
      simp only at hfn
      subst hfn
      obtain ⟨hfm, hfgb⟩ := hSP2.2.2.2.1 _ hfmem
      have hap : ∀ r ∈ frs, r.name ≠ nm.data.toList → Apart ⟨nm.data.toList, fg, fv, fdata, fsync⟩ r := fun r hr hne => by
        have hp := hSP2.2.2.2.2.1
        obtain ⟨i, hi, hri⟩ := List.getElem_of_mem hr
        obtain ⟨j, hj, hfj⟩ := List.getElem_of_mem hfmem
        have hij : i ≠ j := fun e => by subst e; rw [hri] at hfj; subst hfj; exact hne rfl
        have hpw := List.pairwise_iff_getElem.1 hp
        rcases Nat.lt_or_gt_of_ne hij with h | h
        · have := hpw i j hi hj h
          rw [hri, hfj] at this
          exact this.symm
        · have := hpw j i hj hi h
          rw [hri, hfj] at this
          exact this
      have HAP : Hid (appendA ⟨files, off, lim, left⟩ nm b = if 16777216 < fdata.length + b.length then (⟨files, off, lim, left⟩, 9) else (⟨putG AF.name ⟨nm.data.toList, fdata ++ b, fsync⟩ files, off, lim, leftA lim left⟩, 0)) := Lib.hid (by
        rw [HAPP.out]
        simp only [hfa, Option.getD_some, FR.abs])
      have hFf : F fg ∨ w.heap.size ≤ fg := HF12.out _ (hfoot _ (.inr (.inr ⟨_, hfmem, .inl rfl⟩)))
      have hFo : ∀ g, fv.ownBlock = some g → F g ∨ w.heap.size ≤ g := fun g hg => HF12.out _ (hfoot _ (.inr (.inr ⟨_, hfmem, .inr hg⟩)))
      clear hfa hfind hfmem
      obtain ⟨w3, hw3⟩ : ∃ w3, w3 = w2 := ⟨_, rfl⟩
      subst hw3
      have hSP := hSP2
      have hr3 := hr2
      have hK3 := hK2
      have hws3 := hws

      have HSP := Lib.hid hSP
      have HFM := Lib.hid hfm
      have hblkf : Blk w3 fg 71 #[fv, .int .i64 fsync] := hfm.1
      have hownf : w3.ownsRow base 5 1 fv fdata.length (fdata.map byteV) := hfm.2.1
      have hdl : fdata.length ≤ 16777216 := hfm.2.2.2
      have x0 := hblkf.cell 0
      have x1 := hblkf.cell 1
      have xf := hblkf.frozen 0
      simp only [List.getElem?_toArray, List.getElem?_cons_zero, List.getElem?_cons_succ] at x0 x1
      have hfl := hblkf.lt
      have hbw3 := hSP.1
      have hmap3 := hSP.2.1
      have hrow3 := rising_rows hSP.2.2.1
      have hne1 := own_blk_ne hownf hblkf (by decide)
      have hsbne : fg ≠ sb := Blk.ne_ hblkf hSP.1 (by decide)
      have hmbne : fg ≠ mb := hSP.blk_ne_mb hblkf
      have hown_mb := hSP.row_ne_mb hownf
      have hown_sb := own_blk_ne hownf hSP.1 (by decide)
      have hsbmb := hSP.sb_ne_mb
      have hb3 := hSP.base_le
      clear hfm hSP
      obtain ⟨fA, fc, rfl⟩ := own_form hownf
      by_cases hbig : 16777216 < fdata.length + m
      · have hbg : (16777216 : Int) - (fdata.length : Int) < (m : Int) := by omega
        have FIN := Lib.hid (show appendA ⟨files, off, lim, left⟩ nm b = (⟨files, off, lim, left⟩, 9) by rw [HAP.out, if_pos (by rw [HM.out]; exact hbig)])
        clear hbig
        go_wp2_with fail
        go_ret
        rw [FIN.out]
        exact ⟨rfl, hSM2.out, hK3⟩
      · have hbg : (m : Int) ≤ (16777216 : Int) - (fdata.length : Int) := by omega
        have FIN := Lib.hid (show appendA ⟨files, off, lim, left⟩ nm b = (⟨putG AF.name ⟨nm.data.toList, fdata ++ b, fsync⟩ files, off, lim, leftA lim left⟩, 0) by rw [HAP.out, if_neg (by rw [HM.out]; exact hbig)])
        have hlb : fdata.length + m ≤ 16777216 := by omega
        clear hbig
        go_wp2_with (at_builtin; refine wpList_append_any _ rfl _ _ 28 rfl base 5 i0 (.int .u8 0) 1 1 Try.underlying28 hi hz0 hz1 hz2 rfl (by decide) _ _ _ rfl hownf B _ _ _ (b.map byteV) rfl hr3 (oneBV b) (by unfold maxLen; omega) (by omega) hb3 ?_)
        intro v4 w4 hown4 hg4 hloc4
        obtain ⟨A4, c4, rfl⟩ := own_form hown4
        rw [← List.map_append] at hown4
        have hblk4 := hblkf.grown hg4 hne1.symm
        have y0 := hblk4.cell 0
        have yf := hblk4.frozen 0
        simp only [List.getElem?_toArray, List.getElem?_cons_zero] at y0
        have hg4s := hg4.size
        have HO4 := Lib.hid hown4
        have HL4 := Lib.hid hloc4
        have hK4 := Lib.hid (Kept.of_grown (F := Touch sb mb ⟨nm.data.toList, fg, .slice fA fdata.length fc, fdata, fsync⟩) hg4 (fun g hg => .inr (.inl hg)))
        have hm4 := hmap3.kept hg4 (Ne.symm hown_mb)
        have hb4 := hbw3.grown hg4 (Ne.symm hown_sb)
        clear hown4 hloc4 hg4 x0 x1 xf hr3 hownf hne1
        obtain ⟨w5, hw5⟩ : ∃ w5, w5 = w4.setCell ⟨fg, 0, none⟩ (.slice A4 (fdata.length + m) c4) := ⟨_, rfl⟩
        have hset5 := kept_set w4 fg 0 (.slice A4 (fdata.length + m) c4)
        rw [← hw5] at hset5
        have hblk5 : Blk w5 fg 71 #[(.slice A4 (fdata.length + m) c4), .int .i64 fsync] := by
          have := hblk4.set_ 0 (.slice A4 (fdata.length + m) c4)
          rw [← hw5] at this
          simpa using this
        have hm5 := map_kept hm4 hset5 (fun e => hmbne e.symm)
        have hb5 := hb4.kept hset5 (fun e => hsbne e.symm)
        have HS5 := Lib.hid hset5
        have HW5 := Lib.hid hw5
        have hset := set_any sb mb n off lim left (frs.map FR.row) nm fg w5 hb5 hm5 hrow3 hn hs
        clear hset5 hw5 hm4 hb4 hm5 hmap3 hbw3
        go_wp2_with fail
        rw [← HW5.out]
        refine hset.mono ?_
        rintro e w6 ⟨rfl, hm6, hg6⟩
        have hb6 := hb5.grown hg6 (by intro e; injection e with e; exact hsbmb e)
        have hblk6 := hblk5.grown hg6 (by intro e; injection e with e; exact hmbne e)
        have HG6 := Lib.hid hg6
        have hdone := done_any sb mb off lim left w6 hb6 hleft1 hleft2
        clear hset hb5 hblk5 hg6 y0 yf
        go_wp2_with fail
        refine hdone.mono ?_
        rintro e w7 ⟨rfl, hb7, hk7⟩
        have hblk7 := hblk6.kept hk7 hsbne
        have hm7 := map_kept hm6 hk7 (Ne.symm hsbmb)
        have HK7 := Lib.hid hk7
        clear hdone hb6 hblk6 hm6 hk7
        go_wp2_with fail
        go_ret
        rw [FIN.out]
        have hT4 := hK4.out
        have hsz3 := hT4.size
        have hK37 : Kept (Touch sb mb ⟨nm.data.toList, fg, .slice fA fdata.length fc, fdata, fsync⟩) w3 w7 :=
          ((hT4.trans (HS5.out.mono fun i hi => .inl (.inl hi))).trans ((Kept.of_grown HG6.out (fun g hg => by injection hg with hg; exact hg.symm) : Kept (fun i => i = mb) _ _).mono fun i hi => .inl (.inr (.inr (.inl hi))))).trans (HK7.out.mono fun i hi => .inl (.inr (.inr (.inr hi))))
        have hvloc : (Value.slice A4 (fdata.length + m) c4).ownBlock = (Value.slice fA fdata.length fc).ownBlock ∨ (Value.slice A4 (fdata.length + m) c4).ownBlock = none ∨ (Value.slice A4 (fdata.length + m) c4).ownBlock = some w3.heap.size := by
          rcases HL4.out with h | h
          · exact .inl h
          · exact .inr (.inr h)
        have hown7 : w7.ownsRow base 5 1 (.slice A4 (fdata.length + m) c4) (fdata ++ b).length ((fdata ++ b).map byteV) := by
          have h5 := HO4.out
          have e : (fdata ++ b).length = fdata.length + m := by rw [List.length_append, HM.out]
          rw [e]
          have hv4 : ∀ g, (Value.slice A4 (fdata.length + m) c4).ownBlock = some g → g ≠ fg ∧ g ≠ mb ∧ g ≠ sb := fun g hg => by
            rcases HL4.out with h | h
            · rw [h] at hg
              exact ⟨fun e => by subst e; exact own_blk_ne HFM.out.2.1 HFM.out.1 (by decide) hg, fun e => by subst e; exact hown_mb hg, fun e => by subst e; exact hown_sb hg⟩
            · rw [h] at hg
              injection hg with hg
              have := HSP.out.1.lt
              have := HSP.out.2.1.lt
              exact ⟨by omega, by omega, by omega⟩
          have h6 := own_keptF h5 HS5.out fun g hg => (hv4 g hg).1
          have h7 := own_keptF h6 (Kept.of_grown HG6.out (fun g hg => by injection hg with hg; exact hg.symm) : Kept (fun i => i = mb) _ _) fun g hg => (hv4 g hg).2.1
          exact own_keptF h7 HK7.out fun g hg => (hv4 g hg).2.2
        have hf' : FileM w7 base ⟨nm.data.toList, fg, (.slice A4 (fdata.length + m) c4), fdata ++ b, fsync⟩ := ⟨hblk7, hown7, Nat.le_trans HFM.out.2.2.1 (by show fdata.length ≤ _; rw [List.length_append]; omega), by rw [List.length_append, HM.out]; exact hlb⟩
        have hfin := sys_write (n' := n + 1) (off' := off) (lim' := lim) (left' := leftA lim left) HSP.out HFM.out hfgb hap (f' := ⟨nm.data.toList, fg, (.slice A4 (fdata.length + m) c4), fdata ++ b, fsync⟩) rfl rfl hvloc hK37 hf' hm7 hb7
        have hft := foot_write (w := w3) (F := Grow F w.heap.size) (B := w3.heap.size) (f := ⟨nm.data.toList, fg, .slice fA fdata.length fc, fdata, fsync⟩) (f' := ⟨nm.data.toList, fg, (.slice A4 (fdata.length + m) c4), fdata ++ b, fsync⟩) (fun i hi => HF12.out i (hfoot i hi)) (.inl hFf) (fun g hg => .inl (hFo g hg)) rfl hvloc (Nat.le_refl _)
        refine ⟨rfl, ⟨_, hfin, ?_, ?_, ?_, ?_⟩, hK3.trans (hK37.mono fun i hi => by
          rcases hi with h | h | h | h
          · subst h; exact hFf
          · exact hFo i h
          · subst h; exact HF12.out _ (hfoot _ (.inr (.inl rfl)))
          · subst h; exact HF12.out _ (hfoot _ (.inl rfl)))⟩
        · show (putG FR.name _ frs).map FR.abs = _
          have := putG_map FR.abs AF.name (⟨nm.data.toList, fg, (.slice A4 (fdata.length + m) c4), fdata ++ b, fsync⟩ : FR) frs
          rw [show (fun a => AF.name (FR.abs a)) = FR.name from rfl, habs] at this
          exact this
        · exact fun i hi => by
            rcases hft i hi with h | h
            · exact h
            · exact .inr (Nat.le_trans hws3 h)
        · intro i hi
          rcases hi with hi | hi
          · exact hFb i hi
          · omega
        · exact leftA_ok hleft1 hleft0 hleft2
    | none =>
      rw [hfind] at hlk hfa
      simp only [Option.map_none] at hfa
      simp only at hlk
      have hfnone := findG_none hfind
      obtain ⟨w3, hw3⟩ : ∃ w3, w3 = w2.alloc (.cells #[.slice none 0 0, .int .i64 0] 71) := ⟨_, rfl⟩
      have hb23 : Below w2.heap.size w2 w3 := by rw [hw3]; exact (Below.refl _ _).alloc (Nat.le_refl _) _
      obtain ⟨fg, hfg⟩ : ∃ fg, fg = w2.heap.size := ⟨_, rfl⟩
      obtain ⟨fdata, hfd⟩ : ∃ fdata : List UInt8, fdata = [] := ⟨_, rfl⟩
      obtain ⟨fsync, hfs⟩ : ∃ fsync : Nat, fsync = 0 := ⟨_, rfl⟩
      have hSP := hSP2.kept (G := fun _ => False) (Kept.of_below hb23) (fun _ _ h => h)
      have hfm : FileM w3 base ⟨nm.data.toList, fg, .slice none 0 0, fdata, fsync⟩ := by
        subst hfg hfd hfs
        exact ⟨by rw [hw3]; exact Blk.new _ _ _, ⟨rfl, .inl ⟨rfl, rfl⟩⟩, by simp, by simp⟩
      have hfgb : base ≤ fg := by rw [hfg]; exact Nat.le_trans hbs hws
      have hap : ∀ r ∈ frs, r.name ≠ nm.data.toList → Apart ⟨nm.data.toList, fg, .slice none 0 0, fdata, fsync⟩ r := fun r hr _ =>
        ⟨fun e => by
          have := (hSP2.2.2.2.1 r hr).1.1.lt
          simp only at e
          omega, fun g hg => by simp [Value.ownBlock] at hg⟩
      have HAP : Hid (appendA ⟨files, off, lim, left⟩ nm b = if 16777216 < fdata.length + b.length then (⟨files, off, lim, left⟩, 9) else (⟨putG AF.name ⟨nm.data.toList, fdata ++ b, fsync⟩ files, off, lim, leftA lim left⟩, 0)) := Lib.hid (by
        subst hfd hfs
        rw [HAPP.out]
        simp only [hfa, Option.getD_none])
      have hFf : F fg ∨ w.heap.size ≤ fg := .inr (by rw [hfg]; exact hws)
      have hFo : ∀ g, (Value.slice none 0 0).ownBlock = some g → F g ∨ w.heap.size ≤ g := fun g hg => by simp [Value.ownBlock] at hg
      have hr3 := hr2.below (hb23.mono hB2)
      have hK3 : Kept F w w3 := hK2.trans (Kept.of_below hb23)
      have hws3 : w.heap.size ≤ w3.heap.size := Nat.le_trans hws hb23.size
      have hSM3 := Lib.hid (hSM2.out.below hb23)
      have HW3 := Lib.hid hw3
      have HD := Lib.hid hfd
      have HSY := Lib.hid hfs
      have HFG := Lib.hid hfg
      clear hfa hfind hfnone hb23 hw3 hfd hfs hfg hSP2 hr2 hK2
      go_upto_region 7 with (fail)
      rw [← HW3.out, ← HFG.out]
      have HSP := Lib.hid hSP
      have HFM := Lib.hid hfm
      have hblkf : Blk w3 fg 71 #[.slice none 0 0, .int .i64 fsync] := hfm.1
      have hownf : w3.ownsRow base 5 1 (.slice none 0 0) fdata.length (fdata.map byteV) := hfm.2.1
      have hdl : fdata.length ≤ 16777216 := hfm.2.2.2
      have x0 := hblkf.cell 0
      have x1 := hblkf.cell 1
      have xf := hblkf.frozen 0
      simp only [List.getElem?_toArray, List.getElem?_cons_zero, List.getElem?_cons_succ] at x0 x1
      have hfl := hblkf.lt
      have hbw3 := hSP.1
      have hmap3 := hSP.2.1
      have hrow3 := rising_rows hSP.2.2.1
      have hne1 := own_blk_ne hownf hblkf (by decide)
      have hsbne : fg ≠ sb := Blk.ne_ hblkf hSP.1 (by decide)
      have hmbne : fg ≠ mb := hSP.blk_ne_mb hblkf
      have hown_mb := hSP.row_ne_mb hownf
      have hown_sb := own_blk_ne hownf hSP.1 (by decide)
      have hsbmb := hSP.sb_ne_mb
      have hb3 := hSP.base_le
      clear hfm hSP
      by_cases hbig : 16777216 < fdata.length + m
      · have hbg : (16777216 : Int) < (m : Int) := by rw [HD.out] at hbig; simp at hbig; omega
        have FIN := Lib.hid (show appendA ⟨files, off, lim, left⟩ nm b = (⟨files, off, lim, left⟩, 9) by rw [HAP.out, if_pos (by rw [HM.out]; exact hbig)])
        clear hbig
        go_wp2_with fail
        go_ret
        rw [FIN.out]
        exact ⟨rfl, hSM3.out, hK3⟩
      · have hbg : (m : Int) ≤ 16777216 := by rw [HD.out] at hbig; simp at hbig; omega
        have FIN := Lib.hid (show appendA ⟨files, off, lim, left⟩ nm b = (⟨putG AF.name ⟨nm.data.toList, fdata ++ b, fsync⟩ files, off, lim, leftA lim left⟩, 0) by rw [HAP.out, if_neg (by rw [HM.out]; exact hbig)])
        have hlb : fdata.length + m ≤ 16777216 := by omega
        clear hbig
        go_wp2_with (at_builtin; refine wpList_append_any _ rfl _ _ 28 rfl base 5 i0 (.int .u8 0) 1 1 Try.underlying28 hi hz0 hz1 hz2 rfl (by decide) _ _ _ rfl hownf B _ _ _ (b.map byteV) rfl hr3 (oneBV b) (by unfold maxLen; omega) (by omega) hb3 ?_)
        intro v4 w4 hown4 hg4 hloc4
        obtain ⟨A4, c4, rfl⟩ := own_form hown4
        rw [← List.map_append] at hown4
        have hblk4 := hblkf.grown hg4 hne1.symm
        have y0 := hblk4.cell 0
        have yf := hblk4.frozen 0
        simp only [List.getElem?_toArray, List.getElem?_cons_zero] at y0
        have hg4s := hg4.size
        have HO4 := Lib.hid hown4
        have HL4 := Lib.hid hloc4
        have hK4 := Lib.hid (Kept.of_grown (F := Touch sb mb ⟨nm.data.toList, fg, .slice none 0 0, fdata, fsync⟩) hg4 (fun g hg => .inr (.inl hg)))
        have hm4 := hmap3.kept hg4 (Ne.symm hown_mb)
        have hb4 := hbw3.grown hg4 (Ne.symm hown_sb)
        clear hown4 hloc4 hg4 x0 x1 xf hr3 hownf hne1
        obtain ⟨w5, hw5⟩ : ∃ w5, w5 = w4.setCell ⟨fg, 0, none⟩ (.slice A4 (fdata.length + m) c4) := ⟨_, rfl⟩
        have hset5 := kept_set w4 fg 0 (.slice A4 (fdata.length + m) c4)
        rw [← hw5] at hset5
        have hblk5 : Blk w5 fg 71 #[(.slice A4 (fdata.length + m) c4), .int .i64 fsync] := by
          have := hblk4.set_ 0 (.slice A4 (fdata.length + m) c4)
          rw [← hw5] at this
          simpa using this
        have hm5 := map_kept hm4 hset5 (fun e => hmbne e.symm)
        have hb5 := hb4.kept hset5 (fun e => hsbne e.symm)
        have HS5 := Lib.hid hset5
        have HW5 := Lib.hid hw5
        have hset := set_any sb mb n off lim left (frs.map FR.row) nm fg w5 hb5 hm5 hrow3 hn hs
        clear hset5 hw5 hm4 hb4 hm5 hmap3 hbw3
        go_wp2_with fail
        rw [← HW5.out]
        refine hset.mono ?_
        rintro e w6 ⟨rfl, hm6, hg6⟩
        have hb6 := hb5.grown hg6 (by intro e; injection e with e; exact hsbmb e)
        have hblk6 := hblk5.grown hg6 (by intro e; injection e with e; exact hmbne e)
        have HG6 := Lib.hid hg6
        have hdone := done_any sb mb off lim left w6 hb6 hleft1 hleft2
        clear hset hb5 hblk5 hg6 y0 yf
        go_wp2_with fail
        refine hdone.mono ?_
        rintro e w7 ⟨rfl, hb7, hk7⟩
        have hblk7 := hblk6.kept hk7 hsbne
        have hm7 := map_kept hm6 hk7 (Ne.symm hsbmb)
        have HK7 := Lib.hid hk7
        clear hdone hb6 hblk6 hm6 hk7
        go_wp2_with fail
        go_ret
        rw [FIN.out]
        have hT4 := hK4.out
        have hsz3 := hT4.size
        have hK37 : Kept (Touch sb mb ⟨nm.data.toList, fg, .slice none 0 0, fdata, fsync⟩) w3 w7 :=
          ((hT4.trans (HS5.out.mono fun i hi => .inl (.inl hi))).trans ((Kept.of_grown HG6.out (fun g hg => by injection hg with hg; exact hg.symm) : Kept (fun i => i = mb) _ _).mono fun i hi => .inl (.inr (.inr (.inl hi))))).trans (HK7.out.mono fun i hi => .inl (.inr (.inr (.inr hi))))
        have hvloc : (Value.slice A4 (fdata.length + m) c4).ownBlock = (Value.slice none 0 0).ownBlock ∨ (Value.slice A4 (fdata.length + m) c4).ownBlock = none ∨ (Value.slice A4 (fdata.length + m) c4).ownBlock = some w3.heap.size := by
          rcases HL4.out with h | h
          · exact .inl h
          · exact .inr (.inr h)
        have hown7 : w7.ownsRow base 5 1 (.slice A4 (fdata.length + m) c4) (fdata ++ b).length ((fdata ++ b).map byteV) := by
          have h5 := HO4.out
          have e : (fdata ++ b).length = fdata.length + m := by rw [List.length_append, HM.out]
          rw [e]
          have hv4 : ∀ g, (Value.slice A4 (fdata.length + m) c4).ownBlock = some g → g ≠ fg ∧ g ≠ mb ∧ g ≠ sb := fun g hg => by
            rcases HL4.out with h | h
            · rw [h] at hg
              exact ⟨fun e => by subst e; exact own_blk_ne HFM.out.2.1 HFM.out.1 (by decide) hg, fun e => by subst e; exact hown_mb hg, fun e => by subst e; exact hown_sb hg⟩
            · rw [h] at hg
              injection hg with hg
              have := HSP.out.1.lt
              have := HSP.out.2.1.lt
              exact ⟨by omega, by omega, by omega⟩
          have h6 := own_keptF h5 HS5.out fun g hg => (hv4 g hg).1
          have h7 := own_keptF h6 (Kept.of_grown HG6.out (fun g hg => by injection hg with hg; exact hg.symm) : Kept (fun i => i = mb) _ _) fun g hg => (hv4 g hg).2.1
          exact own_keptF h7 HK7.out fun g hg => (hv4 g hg).2.2
        have hf' : FileM w7 base ⟨nm.data.toList, fg, (.slice A4 (fdata.length + m) c4), fdata ++ b, fsync⟩ := ⟨hblk7, hown7, Nat.le_trans HFM.out.2.2.1 (by show fdata.length ≤ _; rw [List.length_append]; omega), by rw [List.length_append, HM.out]; exact hlb⟩
        have hfin := sys_write (n' := n + 1) (off' := off) (lim' := lim) (left' := leftA lim left) HSP.out HFM.out hfgb hap (f' := ⟨nm.data.toList, fg, (.slice A4 (fdata.length + m) c4), fdata ++ b, fsync⟩) rfl rfl hvloc hK37 hf' hm7 hb7
        have hft := foot_write (w := w3) (F := Grow F w.heap.size) (B := w3.heap.size) (f := ⟨nm.data.toList, fg, .slice none 0 0, fdata, fsync⟩) (f' := ⟨nm.data.toList, fg, (.slice A4 (fdata.length + m) c4), fdata ++ b, fsync⟩) (fun i hi => HF12.out i (hfoot i hi)) (.inl hFf) (fun g hg => .inl (hFo g hg)) rfl hvloc (Nat.le_refl _)
        refine ⟨rfl, ⟨_, hfin, ?_, ?_, ?_, ?_⟩, hK3.trans (hK37.mono fun i hi => by
          rcases hi with h | h | h | h
          · subst h; exact hFf
          · exact hFo i h
          · subst h; exact HF12.out _ (hfoot _ (.inr (.inl rfl)))
          · subst h; exact HF12.out _ (hfoot _ (.inl rfl)))⟩
        · show (putG FR.name _ frs).map FR.abs = _
          have := putG_map FR.abs AF.name (⟨nm.data.toList, fg, (.slice A4 (fdata.length + m) c4), fdata ++ b, fsync⟩ : FR) frs
          rw [show (fun a => AF.name (FR.abs a)) = FR.name from rfl, habs] at this
          exact this
        · exact fun i hi => by
            rcases hft i hi with h | h
            · exact h
            · exact .inr (Nat.le_trans hws3 h)
        · intro i hi
          rcases hi with hi | hi
          · exact hFb i hi
          · omega
        · exact leftA_ok hleft1 hleft0 hleft2
  · have hne0 : (beginA ⟨files, off, lim, left⟩ (validN nm)).2 ≠ 0 := by rcases hcode with h | h <;> rw [h] <;> decide
    have hap : appendA ⟨files, off, lim, left⟩ nm b = beginA ⟨files, off, lim, left⟩ (validN nm) := by unfold appendA; rw [if_pos hne0]
    have hev : errV (beginA ⟨files, off, lim, left⟩ (validN nm)).2 = .iface 30 (.int .i64 (beginA ⟨files, off, lim, left⟩ (validN nm)).2) := by unfold errV; rw [if_neg hne0]
    have hfin := SEnd.of (n' := n + 1) hb1 hS2 hk2 hbs HFB.out (by omega)
    have HP := Lib.hid hap
    have HF := Lib.hid hfin
    have HE := Lib.hid hev
    obtain ⟨code, hc⟩ : ∃ code, code = (beginA ⟨files, off, lim, left⟩ (validN nm)).2 := ⟨_, rfl⟩
    have HC := Lib.hid hc
    rw [hev, ← hc]
    clear hcode hap hfin hev hbeg hr1 hS2 hk2 hne0 hc
    go_wp2_with fail
    go_ret
    rw [HP.out]
    exact ⟨by rw [HE.out, ← HC.out]; rfl, HF.out.1, HF.out.2⟩
end Go.Proofs.Ythmbmecodddkeaa
