/- The walk of Rename of the file system. -/
import Derived.Test.YthmbmecodddkeaaRemove
namespace Go.Proofs.Ythmbmecodddkeaa
open Go.RowKit Go.WideMaps
theorem SysP.put {w w' : World} {base sb mb n n' : Nat} {off lim : Bool} {left : Int} {frs : List FR} {f : FR} (h : SysP w base sb mb n off lim left frs) (hg : w.grownBy w' (some mb)) (hm : w'.ownsMap Try.prog 9 ptrR mb n' (datum ((putG FR.name f frs).map FR.row)))
    (hf : FileM w base f) (hfg : base ≤ f.g) (hap : ∀ r ∈ frs, Apart f r) : SysP w' base sb mb n' off lim left (putG FR.name f frs) := by
  have hk : Kept (fun i => i = mb) w w' := Kept.of_grown hg fun g e => by injection e with e; exact e.symm
  have hkf : ∀ r : FR, FileM w base r → FileM w' base r := fun r hr => hr.kept hk (h.blk_ne_mb hr.1) fun g hg e => h.row_ne_mb hr.2.1 (by rw [← e]; exact hg)
  refine ⟨h.1.kept hk h.sb_ne_mb, hm, risingG_put _ _ h.2.2.1, fun r hr => ?_, pairwise_putG (fun a b => Apart.symm a b) f frs h.2.2.1 h.2.2.2.2.1 fun r hr _ => hap r hr, h.2.2.2.2.2⟩
  rcases mem_putG f frs r hr with rfl | ⟨hr, _⟩
  · exact ⟨hkf _ hf, hfg⟩
  · exact ⟨hkf _ (h.2.2.2.1 r hr).1, (h.2.2.2.1 r hr).2⟩
def renameA (st : AS) (nm nw : ByteArray) : AS × Int :=
  if (beginA st (validN nm && validN nw)).2 ≠ 0 then beginA st (validN nm && validN nw)
  else match findA nm.data.toList st.files with
    | none => (st, 5)
    | some f => ({ st with files := putG AF.name ⟨nw.data.toList, f.data, f.sync⟩ (dropG AF.name nm.data.toList st.files), left := leftA st.lim st.left }, 0)
theorem renameA_ok {st : AS} {nm nw : ByteArray} (h : (beginA st (validN nm && validN nw)).2 = 0) : renameA st nm nw = match findA nm.data.toList st.files with
    | none => (st, 5)
    | some f => ({ st with files := putG AF.name ⟨nw.data.toList, f.data, f.sync⟩ (dropG AF.name nm.data.toList st.files), left := leftA st.lim st.left }, 0) := by
  unfold renameA
  rw [if_neg (by rw [h]; decide)]
set_option maxRecDepth 100000 in
set_option maxHeartbeats 4000000 in
theorem rename_any (base sb mb n : Nat) (F : Nat → Prop) (st : AS) (nm nw : ByteArray) (w : World) (hS : SysM w base F sb mb n st) (hs : nm.size ≤ maxLen) (hs2 : nw.size ≤ maxLen) (hn : n < maxLen) :
    Calls Try.prog 18 #[.pointer (some ⟨sb, 0, none⟩), .string nm, .string nw] w (SEnd w base F sb mb (n + 1) (renameA st nm nw).1 (errV (renameA st nm nw).2)) := by
  have hbs := hS.base_le
  have hFb : ∀ i, F i → base ≤ i := by
    obtain ⟨_, _, _, _, h4, _⟩ := hS
    exact h4
  obtain ⟨hleft0, hleft2⟩ := hS.left_ok
  obtain ⟨w1, hw1⟩ : ∃ w1, w1 = w.alloc (.cells #[.string nm, .string nw] 9) := ⟨_, rfl⟩
  have hb1 : Below w.heap.size w w1 := by rw [hw1]; exact (Below.refl _ _).alloc (Nat.le_refl _) _
  have hrn : Reads w1 (w.heap.size + 1) 1 (some ⟨w.heap.size, 0, none⟩) 2 ([nm, nw].map Value.string) := by
    rw [hw1]
    exact Reads.of_alloc w #[.string nm, .string nw] 9 (by omega) rfl
  have hbeg := begin_any base sb mb n F st _ 2 2 _ [nm, nw] w1 (hS.below hb1) hrn rfl (by omega) (by simp [hs, hs2])
  rw [show [nm, nw].all validN = (validN nm && validN nw) by simp] at hbeg
  have HW1 := Lib.hid hw1
  have HFB := Lib.hid hFb
  clear hS hrn hw1 hFb
  obtain ⟨files, off, lim, left⟩ := st
  simp only at hleft0 hleft2
  go_enter Try.func18, Try.ntmps18
  go_wp2_with fail
  rw [← HW1.out]
  refine hbeg.mono ?_
  rintro e w2 ⟨rfl, hS2, hk2⟩
  rcases begin_cases ⟨files, off, lim, left⟩ (validN nm && validN nw) with ⟨h0, hst, hok, hoff, hnz⟩ | hcode
  · have HAPP := Lib.hid (renameA_ok h0)
    rw [h0, errV_zero]
    rw [hst] at hS2
    obtain ⟨frs, hSP, habs, hfoot, hFg, _⟩ := hS2
    have hleft1 : lim = true → 1 ≤ left := fun h => by have := hnz h; simp only at this; omega
    have hlk := look_file hSP.2.1 nm hs
    have hfa := find_abs habs nm.data.toList
    have c0 := hSP.1.cell 0
    simp only [sysC, List.getElem?_toArray, List.getElem?_cons_zero] at c0
    have hK2 : Kept F w w2 := (Kept.of_below hb1).trans (hk2.mono fun i hi => .inl hi)
    have hws : w.heap.size ≤ w2.heap.size := hK2.size
    have hf12 : ∀ i, Grow F w1.heap.size i → Grow F w.heap.size i := fun i hi => by
      rcases hi with hi | hi
      · exact .inl hi
      · exact .inr (Nat.le_trans hb1.size hi)
    have HF12 := Lib.hid hf12
    have hFb := HFB.out
    have hSM2 := Lib.hid (show SysM w2 base (Grow F w.heap.size) sb mb n ⟨files, off, lim, left⟩ from ⟨frs, hSP, habs, fun i hi => hf12 i (hfoot i hi), fun i hi => (by
      rcases hi with hi | hi
      · exact hFb i hi
      · omega), hleft0, hleft2⟩)
    clear h0 hst hoff hnz hbeg hk2 hf12 hFg
    cases hfind : findG FR.name nm.data.toList frs with
    | none =>
      rw [hfind] at hlk hfa
      simp only [Option.map_none] at hfa
      simp only at hlk
      have FIN := Lib.hid (show renameA ⟨files, off, lim, left⟩ nm nw = (⟨files, off, lim, left⟩, 5) by rw [HAPP.out]; simp only [hfa])
      clear hfa hfind hSP habs
      go_wp2_with fail
      go_ret
      rw [FIN.out]
      exact ⟨rfl, hSM2.out.mono (Nat.le_succ _), hK2⟩
    | some f =>
      rw [hfind] at hlk hfa
      simp only [Option.map_some] at hfa
      simp only at hlk
      obtain ⟨hfn, hfmem⟩ := findG_name hfind
      obtain ⟨fname, fg, fv, fdata, fsync⟩ := f
      simp only at hfn hlk
      subst hfn
      have FIN := Lib.hid (show renameA ⟨files, off, lim, left⟩ nm nw = (⟨putG AF.name ⟨nw.data.toList, fdata, fsync⟩ (dropG AF.name nm.data.toList files), off, lim, leftA lim left⟩, 0) by rw [HAPP.out]; simp only [hfa, FR.abs])
      obtain ⟨w3, hrun, hm3, hg3⟩ := map_strike hSP.2.1 nm hs 0
      have hsub : (dropG FR.name nm.data.toList frs).Sublist frs := List.filter_sublist
      have hSP3 := hSP.strike hg3 hm3 hsub
      have hab3 := drop_abs frs nm.data.toList
      rw [habs] at hab3
      have hFmb : Grow F w.heap.size mb := HF12.out _ (hfoot _ (.inr (.inl rfl)))
      have hFsb : Grow F w.heap.size sb := HF12.out _ (hfoot _ (.inl rfl))
      have hap := file_apart hSP hfmem
      have hf3 : FileM w3 base ⟨nw.data.toList, fg, fv, fdata, fsync⟩ ∧ base ≤ fg := by
        obtain ⟨h1, h2⟩ := hSP.2.2.2.1 _ hfmem
        exact ⟨h1.kept (F := fun i => i = mb) (Kept.of_grown hg3 fun g e => by injection e with e; exact e.symm) (hSP.blk_ne_mb h1.1) fun g hg e => hSP.row_ne_mb h1.2.1 (by rw [← e]; exact hg), h2⟩
      have hset := set_any sb mb n off lim left _ nw fg w3 hSP3.1 hSP3.2.1 (rising_rows hSP3.2.2.1) hn hs2
      have HSP3 := Lib.hid hSP3
      have HAB3 := Lib.hid hab3
      have HG3 := Lib.hid hg3
      have HF3 := Lib.hid hf3
      have HAPT := Lib.hid (fun (r : FR) (hr : r ∈ dropG FR.name nm.data.toList frs) => hap r (hsub.subset hr) (by have := (List.mem_filter.1 hr).2; simpa using this))
      have HFT := Lib.hid (fun i (hi : Foot sb mb (dropG FR.name nm.data.toList frs) i) => HF12.out i (hfoot i (foot_sub hsub hi)))
      have HFF := Lib.hid (show Grow F w.heap.size fg ∧ ∀ g, fv.ownBlock = some g → Grow F w.heap.size g from ⟨HF12.out _ (hfoot _ (.inr (.inr ⟨_, hfmem, .inl rfl⟩))), fun g hg => HF12.out _ (hfoot _ (.inr (.inr ⟨_, hfmem, .inr hg⟩)))⟩)
      clear hfa hfind hSP habs hm3 hg3 hSP3 hab3 hsub hfoot hf3 hap hfmem
      go_wp2_with fail
      refine hset.mono ?_
      rintro e w5 ⟨rfl, hm5, hg5⟩
      rw [show (⟨nw.data.toList, fg, false⟩ : Row) = FR.row ⟨nw.data.toList, fg, fv, fdata, fsync⟩ from rfl, put_rows] at hm5
      have hSP5 := HSP3.out.put hg5 hm5 HF3.out.1 HF3.out.2 HAPT.out
      have HSP5 := Lib.hid hSP5
      have HG5 := Lib.hid hg5
      have hdone := done_any sb mb off lim left w5 hSP5.1 hleft1 hleft2
      clear hset hm5 hg5 hSP5
      go_wp2_with fail
      refine hdone.mono ?_
      rintro e w7 ⟨rfl, hb7, hk7⟩
      have HK7 := Lib.hid hk7
      have HB7 := Lib.hid hb7
      clear hdone hb7 hk7
      go_wp2_with fail
      go_ret
      rw [FIN.out]
      refine ⟨rfl, ⟨_, HSP5.out.flags HK7.out HB7.out, ?_, ?_, ?_, leftA_ok hleft1 hleft0 hleft2⟩, ((hK2.trans (Kept.of_grown HG3.out fun g e => by injection e with e; rw [← e]; exact hFmb)).trans (Kept.of_grown HG5.out fun g e => by injection e with e; rw [← e]; exact hFmb)).trans (HK7.out.mono fun i hi => by
        subst hi
        exact hFsb)⟩
      · have := putG_map FR.abs AF.name (⟨nw.data.toList, fg, fv, fdata, fsync⟩ : FR) (dropG FR.name nm.data.toList frs)
        rw [show (fun a => AF.name (FR.abs a)) = FR.name from rfl, HAB3.out] at this
        exact this
      · rintro i (hi | hi | ⟨r, hr, hi⟩)
        · exact HFT.out i (.inl hi)
        · exact HFT.out i (.inr (.inl hi))
        · rcases mem_putG _ _ r hr with rfl | ⟨hr, _⟩
          · rcases hi with hi | hi
            · subst hi; exact HFF.out.1
            · exact HFF.out.2 i hi
          · exact HFT.out i (.inr (.inr ⟨r, hr, hi⟩))
      intro i hi
      rcases hi with hi | hi
      · exact hFb i hi
      · omega
  · have hne0 : (beginA ⟨files, off, lim, left⟩ (validN nm && validN nw)).2 ≠ 0 := by rcases hcode with h | h <;> rw [h] <;> decide
    have hap : renameA ⟨files, off, lim, left⟩ nm nw = beginA ⟨files, off, lim, left⟩ (validN nm && validN nw) := by unfold renameA; rw [if_pos hne0]
    have hev : errV (beginA ⟨files, off, lim, left⟩ (validN nm && validN nw)).2 = .iface 30 (.int .i64 (beginA ⟨files, off, lim, left⟩ (validN nm && validN nw)).2) := by unfold errV; rw [if_neg hne0]
    have hfin := SEnd.of (n' := n + 1) hb1 hS2 hk2 hbs HFB.out (Nat.le_succ _)
    have HP := Lib.hid hap
    have HF := Lib.hid hfin
    have HE := Lib.hid hev
    obtain ⟨code, hc⟩ : ∃ code, code = (beginA ⟨files, off, lim, left⟩ (validN nm && validN nw)).2 := ⟨_, rfl⟩
    have HC := Lib.hid hc
    rw [hev, ← hc]
    clear hcode hap hfin hev hbeg hS2 hk2 hne0 hc
    go_wp2_with fail
    go_ret
    rw [HP.out]
    exact ⟨by rw [HE.out, ← HC.out]; rfl, HF.out.1, HF.out.2⟩
end Go.Proofs.Ythmbmecodddkeaa
