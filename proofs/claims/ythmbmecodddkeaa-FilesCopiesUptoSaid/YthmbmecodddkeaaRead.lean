/- The walks of bytes.Clone, New, Read and Size of the file system. -/
import Derived.Test.YthmbmecodddkeaaApp
namespace Go.Proofs.Ythmbmecodddkeaa
open Go.RowKit Go.WideMaps
def ClEnd (w : World) (l : List UInt8) (e : Ending) (w' : World) : Prop :=
  ∃ A c, e = .returned (.slice A l.length c) ∧ w'.ownsRow w.heap.size 5 1 (.slice A l.length c) l.length (l.map byteV) ∧ Below w.heap.size w w'
set_option maxRecDepth 100000 in
set_option maxHeartbeats 400000 in
theorem clone_any (A : Option Addr) (n c B : Nat) (l : List UInt8) (w : World) (hr : Reads w B 1 A n (l.map byteV)) (hB : B ≤ w.heap.size) (h1 : n ≤ 1000000000) :
    Calls Try.prog 34 #[.slice A n c] w (ClEnd w l) := by
  obtain ⟨i0, hi, hz0, hz1, hz2⟩ := info_parts infoB
  have hl : l.length = n := by have := hr.1; simpa using this
  have HL := Lib.hid hl
  clear hl
  rcases A with _ | ad
  · have hn : n = 0 := by
      rcases Nat.eq_zero_or_pos n with h | h
      · exact h
      · obtain ⟨ad, e, _⟩ := hr.2 h
        cases e
    have HN := Lib.hid hn
    have heq := fun w => Lib.run_eql_slice_nil (P := Try.prog) w 28 5 none n c 0 0 Try.underlying28
    clear hn
    go_enter Try.func34, Try.ntmps34
    go_wp2_with fail
    go_ret
    have h0 : l = [] := List.eq_nil_of_length_eq_zero (by rw [HL.out, HN.out])
    subst h0
    exact ⟨none, 0, rfl, World.ownsRow_nil _ _ _ _, Below.refl _ _⟩
  · have hown0 := World.ownsRow_lit (e := 5) (size := 1) w #[] 0 (Nat.le_refl _) (by decide) rfl
    have hr0 := hr.alloc hB (.cells #[] 5)
    have heq := fun w => Lib.run_eql_slice_nil (P := Try.prog) w 28 5 (some ad) n c 0 0 Try.underlying28
    go_enter Try.func34, Try.ntmps34
    go_wp2_with (at_builtin; refine wpList_append_any _ rfl _ _ 28 rfl w.heap.size 5 i0 (.int .u8 0) 1 1 Try.underlying28 hi hz0 hz1 hz2 rfl (by decide) _ _ _ rfl hown0 B _ n c (l.map byteV) rfl hr0 (oneBV l) (by unfold maxLen; omega) (by omega) (by simp) ?_)
    intro v5 w5 hown5 hg5 _
    obtain ⟨A5, c5, rfl⟩ := own_form hown5
    have hb5 := below_own ((Below.refl w.heap.size w).alloc (Nat.le_refl _) (.cells #[] 5)) (by simp) (Nat.le_refl _) hown0 hg5
    clear hg5 hown0 hr0
    go_wp2
    go_ret
    unfold ClEnd
    rw [HL.out]
    exact ⟨A5, c5, rfl, hown5, hb5⟩
def emptyA : AS := ⟨[], false, false, 0⟩
def NewEnd (w : World) (e : Ending) (w' : World) : Prop :=
  e = .returned (.pointer (some ⟨w.heap.size + 1, 0, none⟩)) ∧ SysM w' w.heap.size (fun i => w.heap.size ≤ i) (w.heap.size + 1) w.heap.size 0 emptyA ∧ Below w.heap.size w w'
set_option maxRecDepth 100000 in
theorem newS_any (w : World) : Calls Try.prog 9 #[] w (NewEnd w) := by
  have hmm := @run_makeMap Try.prog
  go_enter Try.func9, Try.ntmps9
  go_wp2
  go_ret
  refine ⟨rfl, ⟨[], ⟨?_, ?_, by simp [RisingG], fun f hf => (by cases hf), by simp, by omega, by omega⟩, rfl, ?_, fun i hi => hi, by decide, by decide⟩, ((Below.refl _ _).alloc (Nat.le_refl _) _).alloc (by simp) _⟩
  · have := Blk.new (w.alloc (.map #[] 0)) 66 (sysC w.heap.size false false 0)
    simpa [sysC, emptyA] using this
  · exact (World.ownsMap_made w Try.prog 9 ptrR).alloc _
  · rintro i (rfl | rfl | ⟨f, hf, _⟩)
    · omega
    · omega
    · cases hf
/-- What Read returns. -/
def RdEnd (w : World) (r : Option AF) (e : Ending) (w' : World) : Prop :=
  Below w.heap.size w w' ∧ match r with
    | some f => ∃ A c, e = .returned (.tuple #[.slice A f.data.length c, .nilIface]) ∧ w'.ownsRow w.heap.size 5 1 (.slice A f.data.length c) f.data.length (f.data.map byteV)
    | none => e = .returned (.tuple #[.slice none 0 0, errV 5])
set_option maxRecDepth 100000 in
set_option maxHeartbeats 1000000 in
theorem read_any (base sb mb n : Nat) (F : Nat → Prop) (st : AS) (nm : ByteArray) (w : World) (hS : SysM w base F sb mb n st) (hs : nm.size ≤ maxLen) :
    Calls Try.prog 14 #[.pointer (some ⟨sb, 0, none⟩), .string nm] w (RdEnd w (findA nm.data.toList st.files)) := by
  obtain ⟨frs, hSP, habs, _⟩ := hS
  have hlk := look_file hSP.2.1 nm hs
  have hfa := find_abs habs nm.data.toList
  have c0 := hSP.1.cell 0
  simp only [sysC, List.getElem?_toArray, List.getElem?_cons_zero] at c0
  cases hfind : findG FR.name nm.data.toList frs with
  | some f =>
    rw [hfind] at hlk hfa
    simp only [Option.map_some] at hfa
    simp only at hlk
    obtain ⟨hfn, hfmem⟩ := findG_name hfind
    obtain ⟨hfm, _⟩ := hSP.2.2.2.1 _ hfmem
    obtain ⟨fname, fg, fv, fdata, fsync⟩ := f
    have hown : w.ownsRow base 5 1 fv fdata.length (fdata.map byteV) := hfm.2.1
    have hblk : Blk w fg 71 #[fv, .int .i64 fsync] := hfm.1
    have hdl : fdata.length ≤ 16777216 := hfm.2.2.2
    obtain ⟨A1, c1, rfl⟩ := own_form hown
    have x0 := hblk.cell 0
    simp only [List.getElem?_toArray, List.getElem?_cons_zero] at x0
    have HFA := Lib.hid hfa
    have hcl := clone_any A1 _ c1 _ fdata w (Reads.of_own hown) (Nat.le_refl _) (by omega)
    clear hfa hfind hfm hfn hfmem hSP habs hown hblk
    go_enter Try.func14, Try.ntmps14
    go_wp2_with fail
    refine hcl.mono ?_
    rintro e w1 ⟨A2, c2, rfl, hown2, hb2⟩
    clear hcl
    go_wp2_with fail
    go_ret2
    unfold RdEnd
    rw [HFA.out]
    exact ⟨hb2, A2, c2, rfl, hown2⟩
  | none =>
    rw [hfind] at hlk hfa
    simp only [Option.map_none] at hfa
    simp only at hlk
    have HFA := Lib.hid hfa
    clear hfa hfind hSP habs
    go_enter Try.func14, Try.ntmps14
    go_wp2_with fail
    go_ret2
    unfold RdEnd
    rw [HFA.out]
    exact ⟨Below.refl _ _, rfl⟩
end Go.Proofs.Ythmbmecodddkeaa
