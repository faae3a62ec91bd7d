/- The walks of set and done, and what a lookup in the map gives. -/
import Derived.Test.YthmbmecodddkeaaBegin
namespace Go.Proofs.Ythmbmecodddkeaa
open Go.RowKit Go.WideMaps
theorem lawS : Maps.Keyed Try.prog 9 := Maps.string_keyed Try.underlying9
theorem zeroP (w : World) : (zeroValue 68).run Try.prog w = .ok (.pointer none) w := by kernel_rfl
def rowN (l : List Row) (nm : List UInt8) : Int := match findR nm l with | some r => r.n | none => -1
theorem look_row {w : World} {mb n : Nat} {l : List Row} (h : w.ownsMap Try.prog 9 ptrR mb n (datum l)) (s : ByteArray) (hs : s.size ≤ maxLen) :
    (Instr.lookup 64 (.map (some mb)) (.string s) true).run Try.prog w = .ok (.tuple #[ptrV (rowN l s.data.toList), .bool (findR s.data.toList l).isSome]) w := by
  obtain ⟨v, ps, hrun, hv⟩ := h.look_ok (t := 64) (e := 68) lawS Try.underlying64 (zeroP w) (show ptrR (.pointer none) = some (tgt (-1) false, []) from rfl) (keyOf_string_mk Try.underlying9 hs)
  rw [has_datum] at hrun
  rw [atKey_datum] at hv
  rw [hrun]
  unfold rowN
  cases hf : findR s.data.toList l with
  | none => rw [hf] at hv; rw [ptrR_inv hv]
  | some r => rw [hf] at hv; rw [ptrR_inv hv]
/-- The lookup of a file, in the words of the list of files. -/
theorem look_file {w : World} {mb n : Nat} {frs : List FR} (h : w.ownsMap Try.prog 9 ptrR mb n (datum (frs.map FR.row))) (s : ByteArray) (hs : s.size ≤ maxLen) :
    (Instr.lookup 64 (.map (some mb)) (.string s) true).run Try.prog w = .ok (match findG FR.name s.data.toList frs with | some f => .tuple #[.pointer (some ⟨f.g, 0, none⟩), .bool true] | none => .tuple #[.pointer none, .bool false]) w := by
  rw [look_row h s hs]
  unfold rowN
  rw [findR_G, findG_map FR.row Row.name]
  have e : (fun a => Row.name (FR.row a)) = FR.name := rfl
  rw [e]
  cases findG FR.name s.data.toList frs with
  | none => rfl
  | some f =>
    simp only [Option.map_some, FR.row, Option.isSome_some]
    unfold ptrV
    rw [if_neg (by omega)]
    rfl
theorem put_rows (frs : List FR) (f : FR) : putR f.row (frs.map FR.row) = (putG FR.name f frs).map FR.row := by
  rw [putR_G, ← putG_map FR.row Row.name]
  rfl
set_option maxRecDepth 100000 in
set_option maxHeartbeats 400000 in
theorem set_any (sb mb n : Nat) (off lim : Bool) (left : Int) (l : List Row) (s : ByteArray) (g : Nat) (w : World) (hb : Blk w sb 66 (sysC mb off lim left)) (hm : w.ownsMap Try.prog 9 ptrR mb n (datum l)) (hR : Rising l) (hn : n < maxLen) (hs : s.size ≤ maxLen) :
    Calls Try.prog 30 #[.pointer (some ⟨sb, 0, none⟩), .string s, .pointer (some ⟨g, 0, none⟩)] w fun e w' => e = .returned (.tuple #[]) ∧ w'.ownsMap Try.prog 9 ptrR mb (n + 1) (datum (putR ⟨s.data.toList, g, false⟩ l)) ∧ w.grownBy w' (some mb) := by
  obtain ⟨w', hrun, hown, hg⟩ := hm.update (t := 64) (e := 68) lawS Try.underlying64 hn (keyOf_string_mk Try.underlying9 hs) (ptrR_mk g)
  have hput := Lib.hid (put_datum l ⟨s.data.toList, g, false⟩ hR)
  have c0 := hb.cell 0
  simp only [sysC, List.getElem?_toArray, List.getElem?_cons_zero] at c0
  have heq := fun w => run_eql_map_nil (P := Try.prog) w 64 9 68 (some mb) Try.underlying64
  go_enter Try.func30, Try.ntmps30
  go_wp2_with fail
  go_end0
  rw [← hput.out]
  exact ⟨rfl, hown, hg⟩
def leftA (lim : Bool) (left : Int) : Int := if lim = true then left - 1 else left
set_option maxRecDepth 100000 in
set_option maxHeartbeats 400000 in
theorem done_any (sb mb : Nat) (off lim : Bool) (left : Int) (w : World) (hb : Blk w sb 66 (sysC mb off lim left)) (hl : lim = true → 1 ≤ left) (hl2 : left ≤ 9223372036854775807) :
    Calls Try.prog 31 #[.pointer (some ⟨sb, 0, none⟩)] w fun e w' => e = .returned (.tuple #[]) ∧ Blk w' sb 66 (sysC mb off lim (leftA lim left)) ∧ Kept (fun i => i = sb) w w' := by
  have c2 := hb.cell 2
  have c3 := hb.cell 3
  have f3 := hb.frozen 3
  simp only [sysC, List.getElem?_toArray, List.getElem?_cons_zero, List.getElem?_cons_succ] at c2 c3
  have HB := Lib.hid hb
  clear hb
  cases lim
  · clear hl
    go_enter Try.func31, Try.ntmps31
    go_wp2_with fail
    go_end0
    exact ⟨rfl, HB.out, Kept.refl _ _⟩
  · have h1 := hl rfl
    clear hl
    go_enter Try.func31, Try.ntmps31
    go_wp2_with fail
    go_end0
    refine ⟨rfl, ?_, kept_set w sb 3 _⟩
    have := HB.out.set_ 3 (.int .i64 (left - 1))
    simpa [sysC, leftA] using this
end Go.Proofs.Ythmbmecodddkeaa
