/- The walks of letterset's Of (one letter), Between, Union, Not. -/
import Derived.Test.YtfdpohceoabinaaPar
import Derived.Laws.BitsAllLaws
namespace Go.Proofs.Ytfdpohceoabinaa
open Go.RowKit
def lsC (S : LS) : List Value := (wds S).map fun n : Nat => Value.int .u64 (n : Int)
def lsV (S : LS) : Value := .agg (lsC S).toArray
def LRes (w : World) (S : LS) (e : Ending) (w' : World) : Prop := e = .returned (lsV S) ∧ Below w.heap.size w w'
theorem lsC_get (S : LS) {i : Nat} (h : i < 4) : (lsC S)[i]? = some (.int .u64 (wd S i)) := by
  unfold lsC
  rw [List.getElem?_map, wds_get S h]
  rfl
def LBlk (w : World) (g : Nat) (S : LS) : Prop := Blk w g 38 (lsC S).toArray
theorem LBlk.at_ {w : World} {g : Nat} {S : LS} (h : LBlk w g S) {i : Nat} (hi : i < 4) : w.cell? ⟨g, i, none⟩ = some (.int .u64 (wd S i)) := by
  rw [Blk.cell h]
  simpa using lsC_get S hi
theorem lsC_none : lsC noneS = [.int .u64 0, .int .u64 0, .int .u64 0, .int .u64 0] := by simp [lsC, wds, wd_none]
theorem LBlk.new (w : World) : LBlk (w.alloc (.cells #[.int .u64 0, .int .u64 0, .int .u64 0, .int .u64 0] 38)) w.heap.size noneS := by
  unfold LBlk
  rw [lsC_none]
  exact Blk.new _ _ _
theorem LBlk.put {w : World} {g : Nat} {S : LS} (h : LBlk w g S) (b : Nat) (hb : b < 256) {x : Int} (hx : x = ((wd S (b / 64) ||| 2 ^ (b % 64) : Nat) : Int)) : LBlk (w.setCell ⟨g, b / 64, none⟩ (.int .u64 x)) g (orS S (oneS b)) := by
  subst hx
  unfold LBlk lsC at *
  rw [wds_set S b hb]
  have := Blk.set_ h (b / 64) (.int .u64 ((wd S (b / 64) ||| 2 ^ (b % 64) : Nat) : Int))
  rw [List.setIfInBounds_toArray, ← List.map_set] at this
  exact this
theorem or_word (S : LS) (i j : Nat) (hj : j < 64) : bits BinOp.or IntKind.u64 (wd S i : Int) (IntKind.u64.wrap (2 ^ j)) = ((wd S i ||| 2 ^ j : Nat) : Int) := by
  have h1 : (2 : Nat) ^ j < 2 ^ 64 := Nat.pow_lt_pow_right (by omega) hj
  have h2 := wd_lt S i
  have e : IntKind.u64.wrap (2 ^ j) = ((2 ^ j : Nat) : Int) := by
    rw [IntKind.wrap_u64]
    have e0 : ((2 ^ j : Nat) : Int) = 2 ^ j := by simp
    rw [← e0]
    generalize 2 ^ j = z at *
    omega
  rw [e]
  exact u64_or_nat _ _ h2 h1
theorem LBlk.far {w : World} {g : Nat} {S : LS} (h : LBlk w g S) {p : Addr} (hp : g ≠ p.block) (u : Value) : LBlk (w.setCell p u) g S := Blk.far h hp u
theorem LBlk.all {w : World} {g : Nat} {S : LS} (h : LBlk w g S) (R : LS) : LBlk ((((w.setCell ⟨g, 0, none⟩ (.int .u64 (wd R 0))).setCell ⟨g, 1, none⟩ (.int .u64 (wd R 1))).setCell ⟨g, 2, none⟩ (.int .u64 (wd R 2))).setCell ⟨g, 3, none⟩ (.int .u64 (wd R 3))) g R :=
  Blk.set_ (Blk.set_ (Blk.set_ (Blk.set_ h 0 _) 1 _) 2 _) 3 _
theorem LBlk.cells {w : World} {g : Nat} {S : LS} (h : LBlk w g S) : (w.cell? ⟨g, 0, none⟩ = some (.int .u64 (wd S 0)) ∧ w.cell? ⟨g, 1, none⟩ = some (.int .u64 (wd S 1))) ∧ (w.cell? ⟨g, 2, none⟩ = some (.int .u64 (wd S 2)) ∧ w.cell? ⟨g, 3, none⟩ = some (.int .u64 (wd S 3))) :=
  ⟨⟨h.at_ (by omega), h.at_ (by omega)⟩, h.at_ (by omega), h.at_ (by omega)⟩
theorem LBlk.free {w : World} {g : Nat} {S : LS} (h : LBlk w g S) : (w.frozen? ⟨g, 0, none⟩ = false ∧ w.frozen? ⟨g, 1, none⟩ = false) ∧ (w.frozen? ⟨g, 2, none⟩ = false ∧ w.frozen? ⟨g, 3, none⟩ = false) :=
  ⟨⟨Blk.frozen h _, Blk.frozen h _⟩, Blk.frozen h _, Blk.frozen h _⟩
def OfRel (w : World) (b : UInt8) (i : Value) (wr : World) : Prop := ∃ k : Nat, k ≤ 1 ∧ i = .int .i64 k ∧ LBlk wr (w.heap.size + 1) (if k = 0 then noneS else oneS b.toNat) ∧ LBlk wr w.heap.size noneS ∧ Below w.heap.size w wr
set_option maxHeartbeats 1000000 in
theorem of_any (b : UInt8) (g : Nat) (w : World) (hg : g < w.heap.size) (hc : w.cell? ⟨g, 0, none⟩ = some (.int .u8 b.toNat)) : Calls Try.prog 71 #[.slice (some ⟨g, 0, none⟩) 1 1] w (LRes w (oneS b.toNat)) := by
  obtain ⟨hx0, hx1⟩ := u8b b
  have HG := Lib.hid hg
  have HC := Lib.hid hc
  clear hg hc
  go_enter Try.func71, Try.ntmps71
  go_wp2_with fail
  go_loopw [5, 8] (fun _ i wr => OfRel w b i wr) (fun _ i _ => 1 - (intOf i).toNat)
  case atStart =>
    refine ⟨0, by omega, rfl, ?_, ?_, ?_⟩
    · have := LBlk.new (w.alloc (.cells #[.int .u64 0, .int .u64 0, .int .u64 0, .int .u64 0] 38))
      simpa using this
    · exact (LBlk.new w).alloc _
    · exact ((Below.refl _ _).alloc (Nat.le_refl _) _).alloc (by simp) _
  case round =>
    obtain ⟨k, hk, rfl, hB, hR, hb⟩ := hrel
    by_cases h0 : k = 0
    · subst h0
      rw [if_pos rfl] at hB
      have e0 := (hb.cell (p := ⟨g, 0, none⟩) HG.out).trans HC.out
      have hq : b.toNat / 64 < 4 := by have := b.toNat_lt; omega
      have e1 := hB.at_ hq
      have e2 : wr.frozen? ⟨w.heap.size + 1, b.toNat / 64, none⟩ = false := Blk.frozen hB _
      have hN := hB.put b.toNat (by have := b.toNat_lt; omega) (or_word noneS (b.toNat / 64) (b.toNat % 64) (Nat.mod_lt _ (by omega)))
      have hN2 := hR.far (p := ⟨w.heap.size + 1, b.toNat / 64, none⟩) (by simp) (.int .u64 (bits BinOp.or IntKind.u64 (wd noneS (b.toNat / 64) : Int) (IntKind.u64.wrap (2 ^ (b.toNat % 64)))))
      have hN3 := hb.setCell (p := ⟨w.heap.size + 1, b.toNat / 64, none⟩) (by simp) (.int .u64 (bits BinOp.or IntKind.u64 (wd noneS (b.toNat / 64) : Int) (IntKind.u64.wrap (2 ^ (b.toNat % 64)))))
      have e3 : wds (orS noneS (oneS b.toNat)) = wds (oneS b.toNat) := wds_congr fun n _ => by simp [orS, noneS]
      unfold LBlk lsC at hN
      rw [e3] at hN
      have HN := Lib.hid hN
      have HN2 := Lib.hid hN2
      have HN3 := Lib.hid hN3
      clear hN hN2 hN3 e3 hB hR hb
      go_wp2_with fail
      exact ⟨⟨1, by omega, rfl, by rw [if_neg (by omega)]; exact HN.out, HN2.out, HN3.out⟩, by simp [intOf]⟩
    · have : k = 1 := by omega
      subst this
      rw [if_neg h0] at hB
      obtain ⟨⟨c0, c1⟩, c2, c3⟩ := hB.cells
      obtain ⟨⟨f0, f1⟩, f2, f3⟩ := hR.free
      obtain ⟨⟨r0, r1⟩, r2, r3⟩ := hR.cells
      have hF := hR.all (oneS b.toNat)
      have hF2 := (((hb.setCell (p := ⟨w.heap.size, 0, none⟩) (by simp) (.int .u64 (wd (oneS b.toNat) 0))).setCell (p := ⟨w.heap.size, 1, none⟩) (by simp) (.int .u64 (wd (oneS b.toNat) 1))).setCell (p := ⟨w.heap.size, 2, none⟩) (by simp) (.int .u64 (wd (oneS b.toNat) 2))).setCell (p := ⟨w.heap.size, 3, none⟩) (by simp) (.int .u64 (wd (oneS b.toNat) 3))
      have HF := Lib.hid hF
      have HF2 := Lib.hid hF2
      clear hF hF2 hB hR hb
      go_wp2_with fail
      obtain ⟨⟨d0, d1⟩, d2, d3⟩ := HF.out.cells
      refine bodyPost_ret (v := lsV (oneS b.toNat)) (by simp [results, Try.results71, go_sem, d0, d1, d2, d3, lsV, lsC, wds]) rfl ?_
      exact ⟨rfl, HF2.out⟩
end Go.Proofs.Ytfdpohceoabinaa
