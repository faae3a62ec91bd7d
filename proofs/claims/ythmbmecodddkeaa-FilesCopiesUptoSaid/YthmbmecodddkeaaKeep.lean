/- Plain: what the operations do to a system with one file; words for laws over a system. -/
import Derived.Test.YthmbmecodddkeaaRename
import Derived.Test.YthmbmecodddkeaaTrunc
import Derived.Test.YthmbmecodddkeaaBase
namespace Go.Proofs.Ythmbmecodddkeaa
open Go.RowKit Go.WideMaps
def AwEnd (w : World) (e : Ending) (w' : World) : Prop := e = .returned (.bool true) ∧ Below w.heap.size w w'
theorem Reads.of_alloc_mark (w : World) (cs : Array Value) (t : TypeId) (fr : Nat × Nat) {B n : Nat} (hB : w.heap.size < B) (hn : cs.size = n) : Reads (w.alloc (.cells cs t fr)) B 1 (some ⟨w.heap.size, 0, none⟩) n cs.toList :=
  ⟨by simp [hn], fun _ => ⟨_, rfl, hB, fun j u h => by
    rw [addr_add, Nat.zero_add, cell_of_row _ _ _ cs t fr (heap_alloc_new w _)]
    simpa using h⟩⟩
theorem SysM.cap {w : World} {base sb mb n : Nat} {F : Nat → Prop} {st : AS} (h : SysM w base F sb mb n st) : SysM w base (fun i => F i ∧ i < w.heap.size) sb mb n st := by
  obtain ⟨frs, h1, h2, h3, h4, h5⟩ := h
  exact ⟨frs, h1, h2, fun i hi => ⟨h3 i hi, h1.foot_lt hi⟩, fun i hi => h4 i hi.1, h5⟩
/-- The footprint lies between two block numbers. -/
def SysO (w : World) (lo : Nat) (F : Nat → Prop) (sb mb n : Nat) (st : AS) : Prop := Hid (∀ i, F i → lo ≤ i ∧ i < w.heap.size) ∧ SysM w lo F sb mb n st
theorem SysO.to {w w' : World} {lo : Nat} {F : Nat → Prop} {sb mb n : Nat} {st : AS} (h : Hid (∀ i, F i → lo ≤ i ∧ i < w.heap.size)) (hw : lo ≤ w.heap.size) (hs : SysM w' lo (Grow F w.heap.size) sb mb n st) : ∃ F', (∀ i, F' i ↔ (F i ∨ w.heap.size ≤ i) ∧ i < w'.heap.size) ∧ SysO w' lo F' sb mb n st :=
  ⟨fun i => Grow F w.heap.size i ∧ i < w'.heap.size, fun i => Iff.rfl, fun i hi => ⟨by
    rcases hi.1 with h1 | h1
    · exact (h.out _ h1).1
    · omega, hi.2⟩, hs.cap⟩
theorem SysO.below {w w' : World} {lo : Nat} {F : Nat → Prop} {sb mb n : Nat} {st : AS} (h : SysO w lo F sb mb n st) (hb : Below w.heap.size w w') : SysO w' lo F sb mb n st :=
  ⟨fun i hi => ⟨(h.1.out i hi).1, Nat.lt_of_lt_of_le (h.1.out i hi).2 hb.size⟩, h.2.below hb⟩
theorem begin_ok (st : AS) (nm : ByteArray) (h : validN nm = true) (h1 : st.off = false) (h2 : st.lim = false) : beginA st (validN nm) = (st, 0) := by
  unfold beginA
  rw [h, if_neg (by decide), if_neg (by rw [h1, h2]; simp)]
theorem begin_bad (st : AS) : beginA st false = (st, 13) := rfl
def one (nm : ByteArray) (d : List UInt8) (s : Nat) : AS := ⟨[⟨nm.data.toList, d, s⟩], false, false, 0⟩
theorem find_one (nm : ByteArray) (d : List UInt8) (s : Nat) : findA nm.data.toList (one nm d s).files = some ⟨nm.data.toList, d, s⟩ := by
  unfold findA one
  simp only [findG, if_true]
theorem put_one (nm : ByteArray) (d d' : List UInt8) (s s' : Nat) : putG AF.name ⟨nm.data.toList, d', s'⟩ (one nm d s).files = (one nm d' s').files := by
  unfold one
  simp only [putG, if_true]
theorem append_empty (nm : ByteArray) (d : List UInt8) (hv : validN nm = true) (hd : d.length ≤ 16777216) : appendA emptyA nm d = (one nm d 0, 0) := by
  rw [appendA_ok (by rw [begin_ok _ _ hv rfl rfl])]
  rw [show findA nm.data.toList emptyA.files = none from rfl]
  simp only [Option.getD_none, List.length_nil, List.nil_append]
  rw [if_neg (by omega)]
  rfl
theorem append_big (nm : ByteArray) (d : List UInt8) (hv : validN nm = true) (hd : 16777216 < d.length) : appendA emptyA nm d = (emptyA, 9) := by
  rw [appendA_ok (by rw [begin_ok _ _ hv rfl rfl])]
  rw [show findA nm.data.toList emptyA.files = none from rfl]
  simp only [Option.getD_none, List.length_nil]
  rw [if_pos (by omega)]
theorem append_one (nm : ByteArray) (d b : List UInt8) (s : Nat) (hv : validN nm = true) (hd : d.length + b.length ≤ 16777216) : appendA (one nm d s) nm b = (one nm (d ++ b) s, 0) := by
  rw [appendA_ok (by rw [begin_ok _ _ hv rfl rfl]), find_one]
  simp only [Option.getD_some]
  rw [if_neg (by omega), put_one]
  rfl
theorem append_one_big (nm : ByteArray) (d b : List UInt8) (s : Nat) (hv : validN nm = true) (hd : 16777216 < d.length + b.length) : appendA (one nm d s) nm b = (one nm d s, 9) := by
  rw [appendA_ok (by rw [begin_ok _ _ hv rfl rfl]), find_one]
  simp only [Option.getD_some]
  rw [if_pos (by omega)]
theorem append_bad (st : AS) (nm : ByteArray) (d : List UInt8) (hv : validN nm = false) : appendA st nm d = (st, 13) := by
  unfold appendA
  rw [hv, begin_bad, if_pos (show (13 : Int) ≠ 0 by decide)]
theorem sync_bad (st : AS) (nm : ByteArray) (hv : validN nm = false) : syncA st nm = (st, 13) := by
  unfold syncA
  rw [hv, begin_bad, if_pos (show (13 : Int) ≠ 0 by decide)]
theorem trunc_bad (st : AS) (nm : ByteArray) (k : Int) (hv : validN nm = false) : truncA st nm k = (st, 13) := by
  unfold truncA
  rw [hv, begin_bad, if_pos (show (13 : Int) ≠ 0 by decide)]
theorem remove_bad (st : AS) (nm : ByteArray) (hv : validN nm = false) : removeA st nm = (st, 13) := by
  unfold removeA
  rw [hv, begin_bad, if_pos (show (13 : Int) ≠ 0 by decide)]
theorem rename_bad (st : AS) (nm nw : ByteArray) (hv : (validN nm && validN nw) = false) : renameA st nm nw = (st, 13) := by
  unfold renameA
  rw [hv, begin_bad, if_pos (show (13 : Int) ≠ 0 by decide)]
theorem errV_ne {c : Int} (h : c ≠ 0) : errV c = .iface 30 (.int .i64 c) := by unfold errV; rw [if_neg h]
end Go.Proofs.Ythmbmecodddkeaa
