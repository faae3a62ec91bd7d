/- From a byte slice that came in to the words of the walks; the rows' walks. -/
import Derived.Test.YtphpfkhpihlalaaWf
namespace Go.Proofs.Ytphpfkhpihlalaa
open Go.RowKit
def byteV (b : UInt8) : Value := .int .u8 (b.toNat : Int)
theorem byte_of_wf {x : Int} (h : (Lit.int .u8 x).wf = true) : byteV (UInt8.ofNat x.toNat) = .int .u8 x := by
  simp [Lit.wf, IntKind.min, IntKind.max, IntKind.signed, IntKind.bits] at h
  have e : (UInt8.ofNat x.toNat).toNat = x.toNat := by rw [UInt8.toNat_ofNat', Nat.mod_eq_of_lt (by omega)]
  unfold byteV
  rw [e]
  congr 1
  omega
theorem block_lt_of_cell {w : World} {a : Addr} {v : Value} (h : w.cell? a = some v) : a.block < w.heap.size := by
  rcases Nat.lt_or_ge a.block w.heap.size with h1 | h1
  · exact h1
  · simp [World.cell?, Array.getElem?_eq_none h1] at h
/-- A byte slice's cells, as the reader hands them over, read as a list of bytes. -/
theorem reads_of_cells {w : World} {x : Addr} {len cap : Nat} {zs : List Int} (hl : len ≤ cap) (hz : zs.length = cap)
    (hcell : ∀ i, i < zs.length → w.cell? (x.add i) = some (.int .u8 (zs.getD i 0))) (hwz : ∀ n ∈ zs, (Lit.int .u8 n).wf = true) :
    ∃ l : List UInt8, Reads w w.heap.size 1 (some x) len (l.map byteV) := by
  refine ⟨(zs.take len).map fun z => UInt8.ofNat z.toNat, by simp; omega, fun hn => ?_⟩
  have hb : x.block < w.heap.size := by
    have := block_lt_of_cell (hcell 0 (by omega))
    rwa [block_of_add] at this
  refine ⟨x, rfl, hb, fun j u hu => ?_⟩
  rw [List.map_map, List.getElem?_map] at hu
  by_cases hj : j < len
  · have hjz : j < zs.length := by omega
    rw [List.getElem?_take, if_pos hj, List.getElem?_eq_getElem hjz] at hu
    simp only [Option.map_some, Option.some.injEq, Function.comp] at hu
    rw [hcell j hjz, ← hu, byte_of_wf (hwz _ (List.getElem_mem _))]
    simp [List.getD, hjz]
  · rw [List.getElem?_take, if_neg hj] at hu; simp at hu
theorem reads_nil (w : World) : Reads w w.heap.size 1 none 0 (([] : List UInt8).map byteV) := Reads.none_
theorem argB_of {w : World} {A : Option Addr} {n : Nat} {l : List UInt8} (h : Reads w w.heap.size 1 A n (l.map byteV)) : l.length = n ∧ ArgB w A l := by
  have h1 : l.length = n := by have := h.1; simpa using this
  subst h1
  exact ⟨rfl, h⟩
theorem full_row (A : Option Addr) (n c : Nat) (l : List UInt8) (k : Int) (w : World) (hr : Reads w w.heap.size 1 A n (l.map byteV)) (hc : n ≤ c) :
    Calls Try.prog 4 #[.slice A n c, .int .i64 k] w fun e w' => e = .returned (.bool true) ∧ Below w.heap.size w w' :=
  full_any A n c l k w (argB_of hr).1 hc (argB_of hr).2
end Go.Proofs.Ytphpfkhpihlalaa
