/- From a byte slice that came in to the words of the walks. No function of the program is named. -/
import Derived.Test.YtcppmmdkblmfoaaPays
namespace Go.Proofs.Ytcppmmdkblmfoaa
open Go.RowKit
theorem byte_of_wf {x : Int} (h : (Lit.int .u8 x).wf = true) : byteV (UInt8.ofNat x.toNat) = .int .u8 x := by
  simp [Lit.wf, IntKind.min, IntKind.max, IntKind.signed, IntKind.bits] at h
  have e : (UInt8.ofNat x.toNat).toNat = x.toNat := by rw [UInt8.toNat_ofNat', Nat.mod_eq_of_lt (by omega)]
  unfold byteV
  rw [e]
  congr 1
  omega
/-- A byte slice's cells, as the reader hands them over, read as a list of bytes. -/
theorem reads_of_cells {w : World} {x : Addr} {len cap : Nat} {zs : List Int} (hl : len ≤ cap) (hz : zs.length = cap)
    (hcell : ∀ i, i < zs.length → w.cell? (x.add i) = some (.int .u8 (zs.getD i 0))) (hwz : ∀ n ∈ zs, (Lit.int .u8 n).wf = true) :
    ∃ l : List UInt8, Reads w w.heap.size 1 (some x) len (l.map byteV) := by
  refine ⟨(zs.take len).map fun z => UInt8.ofNat z.toNat, by simp; omega, fun hn => ?_⟩
  have hb : x.block < w.heap.size := by
    have := block_lt_of_cell (hcell 0 (by omega))
    rwa [block_of_add] at this
  refine ⟨x, rfl, hb, fun j u hu => ?_⟩
  rw [List.map_map, List.getElem?_map] at hu
  by_cases hj : j < len
  · have hjz : j < zs.length := by omega
    rw [List.getElem?_take, if_pos hj, List.getElem?_eq_getElem hjz] at hu
    simp only [Option.map_some, Option.some.injEq, Function.comp] at hu
    rw [hcell j hjz, ← hu, byte_of_wf (hwz _ (List.getElem_mem _))]
    simp [List.getD, hjz]
  · rw [List.getElem?_take, if_neg hj] at hu; simp at hu
theorem reads_nil (w : World) : Reads w w.heap.size 1 none 0 (([] : List UInt8).map byteV) := Reads.none_
end Go.Proofs.Ytcppmmdkblmfoaa
