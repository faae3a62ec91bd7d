/- The walks of Size, Off and Remove of the file system. -/
import Derived.Test.YthmbmecodddkeaaSync
namespace Go.Proofs.Ythmbmecodddkeaa
open Go.RowKit Go.WideMaps
def sizeR (r : Option AF) : Value := match r with
  | some f => .tuple #[.int .i64 (f.data.length : Int), .nilIface]
  | none => .tuple #[.int .i64 0, errV 5]
set_option maxRecDepth 100000 in
set_option maxHeartbeats 400000 in
theorem size_any (base sb mb n : Nat) (F : Nat → Prop) (st : AS) (nm : ByteArray) (w : World) (hS : SysM w base F sb mb n st) (hs : nm.size ≤ maxLen) :
    Calls Try.prog 13 #[.pointer (some ⟨sb, 0, none⟩), .string nm] w (RetW w (sizeR (findA nm.data.toList st.files))) := by
  obtain ⟨frs, hSP, habs, _⟩ := hS
  have hlk := look_file hSP.2.1 nm hs
  have hfa := find_abs habs nm.data.toList
  have c0 := hSP.1.cell 0
  simp only [sysC, List.getElem?_toArray, List.getElem?_cons_zero] at c0
  cases hfind : findG FR.name nm.data.toList frs with
  | some f =>
    rw [hfind] at hlk hfa
    simp only [Option.map_some] at hfa
    simp only at hlk
    obtain ⟨hfn, hfmem⟩ := findG_name hfind
    obtain ⟨hfm, _⟩ := hSP.2.2.2.1 _ hfmem
    obtain ⟨fname, fg, fv, fdata, fsync⟩ := f
    have hown : w.ownsRow base 5 1 fv fdata.length (fdata.map byteV) := hfm.2.1
    have hblk : Blk w fg 71 #[fv, .int .i64 fsync] := hfm.1
    have hdl : fdata.length ≤ 16777216 := hfm.2.2.2
    obtain ⟨A1, c1, rfl⟩ := own_form hown
    have x0 := hblk.cell 0
    simp only [List.getElem?_toArray, List.getElem?_cons_zero] at x0
    have HFA := Lib.hid hfa
    clear hfa hfind hfm hfn hfmem hSP habs hown hblk
    go_enter Try.func13, Try.ntmps13
    go_wp2_with fail
    go_ret2
    unfold RetW
    rw [HFA.out]
    exact ⟨rfl, rfl⟩
  | none =>
    rw [hfind] at hlk hfa
    simp only [Option.map_none] at hfa
    simp only at hlk
    have HFA := Lib.hid hfa
    clear hfa hfind hSP habs
    go_enter Try.func13, Try.ntmps13
    go_wp2_with fail
    go_ret2
    unfold RetW
    rw [HFA.out]
    exact ⟨rfl, rfl⟩
set_option maxRecDepth 100000 in
set_option maxHeartbeats 400000 in
theorem off_any (base sb mb n : Nat) (F : Nat → Prop) (st : AS) (w : World) (hS : SysM w base F sb mb n st) :
    Calls Try.prog 22 #[.pointer (some ⟨sb, 0, none⟩)] w (RetW w (.bool st.off)) := by
  obtain ⟨hblk, _, _⟩ := hS.cells
  have c1 := hblk.cell 1
  simp only [sysC, List.getElem?_toArray, List.getElem?_cons_zero, List.getElem?_cons_succ] at c1
  clear hblk hS
  go_enter Try.func22, Try.ntmps22
  go_wp2_with fail
  go_ret
  exact ⟨rfl, rfl⟩
theorem SysP.strike {w w' : World} {base sb mb n n' : Nat} {off lim : Bool} {left : Int} {frs frs' : List FR} (h : SysP w base sb mb n off lim left frs) (hg : w.grownBy w' (some mb)) (hm : w'.ownsMap Try.prog 9 ptrR mb n' (datum (frs'.map FR.row))) (hsub : frs'.Sublist frs) : SysP w' base sb mb n' off lim left frs' := by
  have hk : Kept (fun i => i = mb) w w' := Kept.of_grown hg fun g e => by injection e with e; exact e.symm
  refine ⟨h.1.kept hk h.sb_ne_mb, hm, h.2.2.1.sublist hsub, fun f hf => ?_, h.2.2.2.2.1.sublist hsub, h.2.2.2.2.2⟩
  obtain ⟨h1, h2⟩ := h.2.2.2.1 f (hsub.subset hf)
  exact ⟨h1.kept hk (h.blk_ne_mb h1.1) fun g hg e => h.row_ne_mb h1.2.1 (by rw [← e]; exact hg), h2⟩
theorem drop_rows (frs : List FR) (s : List UInt8) : dropR s (frs.map FR.row) = (dropG FR.name s frs).map FR.row := (dropG_map FR.row Row.name s frs).symm
theorem drop_abs (frs : List FR) (s : List UInt8) : (dropG FR.name s frs).map FR.abs = dropG AF.name s (frs.map FR.abs) := dropG_map FR.abs AF.name s frs
theorem map_strike {w : World} {mb n : Nat} {frs : List FR} (h : w.ownsMap Try.prog 9 ptrR mb n (datum (frs.map FR.row))) (s : ByteArray) (hs : s.size ≤ maxLen) (ty : TypeId) :
    ∃ w', (Builtin.delete_ #[64, 9] ty #[.map (some mb), .string s]).run Try.prog w = .ok (.tuple #[]) w' ∧ w'.ownsMap Try.prog 9 ptrR mb n (datum ((dropG FR.name s.data.toList frs).map FR.row)) ∧ w.grownBy w' (some mb) := by
  obtain ⟨w', hrun, hown, ht⟩ := h.drop (t := 64) (e := 68) lawS Try.underlying64 (keyOf_string_mk Try.underlying9 hs) ty
  have hg := ht.grown
  refine ⟨w', hrun, ?_, hg⟩
  rw [← drop_rows, ← del_datum]; exact hown
def removeA (st : AS) (nm : ByteArray) : AS × Int :=
  if (beginA st (validN nm)).2 ≠ 0 then beginA st (validN nm)
  else match findA nm.data.toList st.files with
    | none => (st, 5)
    | some _ => ({ st with files := dropG AF.name nm.data.toList st.files, left := leftA st.lim st.left }, 0)
theorem removeA_ok {st : AS} {nm : ByteArray} (h : (beginA st (validN nm)).2 = 0) : removeA st nm = match findA nm.data.toList st.files with
    | none => (st, 5)
    | some _ => ({ st with files := dropG AF.name nm.data.toList st.files, left := leftA st.lim st.left }, 0) := by
  unfold removeA
  rw [if_neg (by rw [h]; decide)]
theorem foot_sub {sb mb : Nat} {frs frs' : List FR} (hsub : frs'.Sublist frs) {i : Nat} (h : Foot sb mb frs' i) : Foot sb mb frs i := by
  rcases h with h | h | ⟨f, hf, h⟩
  · exact .inl h
  · exact .inr (.inl h)
  · exact .inr (.inr ⟨f, hsub.subset hf, h⟩)
set_option maxRecDepth 100000 in
set_option maxHeartbeats 4000000 in
theorem remove_any (base sb mb n : Nat) (F : Nat → Prop) (st : AS) (nm : ByteArray) (w : World) (hS : SysM w base F sb mb n st) (hs : nm.size ≤ maxLen) :
    Calls Try.prog 17 #[.pointer (some ⟨sb, 0, none⟩), .string nm] w (SEnd w base F sb mb n (removeA st nm).1 (errV (removeA st nm).2)) := by
  have hbs := hS.base_le
  have hFb : ∀ i, F i → base ≤ i := by
    obtain ⟨_, _, _, _, h4, _⟩ := hS
    exact h4
  obtain ⟨hleft0, hleft2⟩ := hS.left_ok
  obtain ⟨w1, hw1⟩ : ∃ w1, w1 = w.alloc (.cells #[.string nm] 9) := ⟨_, rfl⟩
  have hb1 : Below w.heap.size w w1 := by rw [hw1]; exact (Below.refl _ _).alloc (Nat.le_refl _) _
  have hrn : Reads w1 (w.heap.size + 1) 1 (some ⟨w.heap.size, 0, none⟩) 1 ([nm].map Value.string) := by
    rw [hw1]
    exact Reads.of_alloc w #[.string nm] 9 (by omega) rfl
  have hbeg := begin_any base sb mb n F st _ 1 1 _ [nm] w1 (hS.below hb1) hrn rfl (by omega) (by simpa using hs)
  rw [show [nm].all validN = validN nm by simp] at hbeg
  have HW1 := Lib.hid hw1
  have HFB := Lib.hid hFb
  clear hS hrn hw1 hFb
  obtain ⟨files, off, lim, left⟩ := st
  simp only at hleft0 hleft2
  go_enter Try.func17, Try.ntmps17
  go_wp2_with fail
  rw [← HW1.out]
  refine hbeg.mono ?_
  rintro e w2 ⟨rfl, hS2, hk2⟩
  rcases begin_cases ⟨files, off, lim, left⟩ (validN nm) with ⟨h0, hst, hok, hoff, hnz⟩ | hcode
  · have HAPP := Lib.hid (removeA_ok h0)
    rw [h0, errV_zero]
    rw [hst] at hS2
    obtain ⟨frs, hSP, habs, hfoot, hFg, _⟩ := hS2
    have hleft1 : lim = true → 1 ≤ left := fun h => by have := hnz h; simp only at this; omega
    have hlk := look_file hSP.2.1 nm hs
    have hfa := find_abs habs nm.data.toList
    have c0 := hSP.1.cell 0
    simp only [sysC, List.getElem?_toArray, List.getElem?_cons_zero] at c0
    have hK2 : Kept F w w2 := (Kept.of_below hb1).trans (hk2.mono fun i hi => .inl hi)
    have hws : w.heap.size ≤ w2.heap.size := hK2.size
    have hf12 : ∀ i, Grow F w1.heap.size i → Grow F w.heap.size i := fun i hi => by
      rcases hi with hi | hi
      · exact .inl hi
      · exact .inr (Nat.le_trans hb1.size hi)
    have HF12 := Lib.hid hf12
    have hFb := HFB.out
    have hSM2 := Lib.hid (show SysM w2 base (Grow F w.heap.size) sb mb n ⟨files, off, lim, left⟩ from ⟨frs, hSP, habs, fun i hi => hf12 i (hfoot i hi), fun i hi => (by
      rcases hi with hi | hi
      · exact hFb i hi
      · omega), hleft0, hleft2⟩)
    clear h0 hst hoff hnz hbeg hk2 hf12 hFg
    cases hfind : findG FR.name nm.data.toList frs with
    | none =>
      rw [hfind] at hlk hfa
      simp only [Option.map_none] at hfa
      simp only at hlk
      have FIN := Lib.hid (show removeA ⟨files, off, lim, left⟩ nm = (⟨files, off, lim, left⟩, 5) by rw [HAPP.out]; simp only [hfa])
      clear hfa hfind hSP habs
      go_wp2_with fail
      go_ret
      rw [FIN.out]
      exact ⟨rfl, hSM2.out, hK2⟩
    | some f =>
      rw [hfind] at hlk hfa
      simp only [Option.map_some] at hfa
      simp only at hlk
      have FIN := Lib.hid (show removeA ⟨files, off, lim, left⟩ nm = (⟨dropG AF.name nm.data.toList files, off, lim, leftA lim left⟩, 0) by rw [HAPP.out]; simp only [hfa])
      obtain ⟨w3, hrun, hm3, hg3⟩ := map_strike hSP.2.1 nm hs 0
      have hsub : (dropG FR.name nm.data.toList frs).Sublist frs := List.filter_sublist
      have hSP3 := hSP.strike hg3 hm3 hsub
      have hab3 := drop_abs frs nm.data.toList
      rw [habs] at hab3
      have hFmb : Grow F w.heap.size mb := HF12.out _ (hfoot _ (.inr (.inl rfl)))
      have hFsb : Grow F w.heap.size sb := HF12.out _ (hfoot _ (.inl rfl))
      have hdone := done_any sb mb off lim left w3 hSP3.1 hleft1 hleft2
      have HSP3 := Lib.hid hSP3
      have HAB3 := Lib.hid hab3
      have HG3 := Lib.hid hg3
      have HFT := Lib.hid (fun i hi => HF12.out i (hfoot i (foot_sub hsub hi)))
      clear hfa hfind hSP habs hm3 hg3 hSP3 hab3 hsub hfoot
      go_wp2_with fail
      refine hdone.mono ?_
      rintro e w7 ⟨rfl, hb7, hk7⟩
      have HK7 := Lib.hid hk7
      have HB7 := Lib.hid hb7
      clear hdone hb7 hk7
      go_wp2_with fail
      go_ret
      rw [FIN.out]
      refine ⟨rfl, ⟨_, HSP3.out.flags HK7.out HB7.out, HAB3.out, HFT.out, ?_, leftA_ok hleft1 hleft0 hleft2⟩, (hK2.trans (Kept.of_grown HG3.out fun g e => by injection e with e; rw [← e]; exact hFmb)).trans (HK7.out.mono fun i hi => by
        subst hi
        rcases hFsb with h | h
        · exact .inl h
        · exact .inr h)⟩
      intro i hi
      rcases hi with hi | hi
      · exact hFb i hi
      · omega
  · have hne0 : (beginA ⟨files, off, lim, left⟩ (validN nm)).2 ≠ 0 := by rcases hcode with h | h <;> rw [h] <;> decide
    have hap : removeA ⟨files, off, lim, left⟩ nm = beginA ⟨files, off, lim, left⟩ (validN nm) := by unfold removeA; rw [if_pos hne0]
    have hev : errV (beginA ⟨files, off, lim, left⟩ (validN nm)).2 = .iface 30 (.int .i64 (beginA ⟨files, off, lim, left⟩ (validN nm)).2) := by unfold errV; rw [if_neg hne0]
    have hfin := SEnd.of (n' := n) hb1 hS2 hk2 hbs HFB.out (Nat.le_refl _)
    have HP := Lib.hid hap
    have HF := Lib.hid hfin
    have HE := Lib.hid hev
    obtain ⟨code, hc⟩ : ∃ code, code = (beginA ⟨files, off, lim, left⟩ (validN nm)).2 := ⟨_, rfl⟩
    have HC := Lib.hid hc
    rw [hev, ← hc]
    clear hcode hap hfin hev hbeg hS2 hk2 hne0 hc
    go_wp2_with fail
    go_ret
    rw [HP.out]
    exact ⟨by rw [HE.out, ← HC.out]; rfl, HF.out.1, HF.out.2⟩
end Go.Proofs.Ythmbmecodddkeaa
