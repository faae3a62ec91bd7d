/- The walk of slices.Delete of a row's first step. -/
import Derived.Test.YtniefnjcimempaaqOrA
import Derived.Laws.IdiomCopy
import Derived.Deep.RegionLaw
import Derived.Deep.Cut
import Derived.Deep.Upon
import Derived.Test.YtniefnjcimempaaqRa
namespace Go.Proofs.Ytniefnjcimempaa
open Go.RowKit
theorem blk_setCells {g : Nat} {t : TypeId} : ∀ (vs : List Value) (o : Nat) (w : World) (cs : Array Value), Blk w g t cs → ∃ cs', Blk (w.setCells g o vs) g t cs' ∧ cs'.size = cs.size ∧ (∀ j, j < vs.length → o + j < cs.size → cs'[o + j]? = vs[j]?) ∧ (∀ i, (i < o ∨ o + vs.length ≤ i) → cs'[i]? = cs[i]?)
  | [], o, w, cs, h => ⟨cs, h, rfl, fun j hj => by simp at hj, fun _ _ => rfl⟩
  | v :: vs, o, w, cs, h => by
    obtain ⟨cs', h1, h2, h3, h4⟩ := blk_setCells vs (o + 1) (w.setCell ⟨g, o, none⟩ v) _ (h.set_ o v)
    rw [Array.size_setIfInBounds] at h2 h3
    refine ⟨cs', h1, h2, fun j hj hs => ?_, fun i hi => ?_⟩
    · cases j with
      | zero =>
        rw [Nat.add_zero, h4 o (.inl (by omega)), Array.getElem?_setIfInBounds_self_of_lt (by omega)]
        rfl
      | succ j =>
        have := h3 j (by simpa using hj) (by omega)
        rw [show o + (j + 1) = o + 1 + j by omega, this]
        rfl
    · rw [List.length_cons] at hi
      rw [h4 i (by omega), Array.getElem?_setIfInBounds_ne (by omega)]
theorem size_setCells {g : Nat} : ∀ (vs : List Value) (o : Nat) (w : World), (w.setCells g o vs).heap.size = w.heap.size
  | [], _, _ => rfl
  | v :: vs, o, w => (size_setCells vs (o + 1) _).trans (by simp)
theorem tape_setCells {g : Nat} : ∀ (vs : List Value) (o : Nat) (w : World), (w.setCells g o vs).tape = w.tape
  | [], _, _ => rfl
  | v :: vs, o, w => (tape_setCells vs (o + 1) _).trans rfl
theorem grown_setCells {g : Nat} (vs : List Value) (o : Nat) (w : World) : w.grownBy (w.setCells g o vs) (some g) :=
  ⟨World.os_setCells w g o vs, tape_setCells vs o w, World.output_setCells w g o vs, by rw [size_setCells]; exact Nat.le_refl _, fun i hi hne => World.heap_setCells_other w g o vs hi (fun e => hne (by rw [e]))⟩
theorem infoPStep : (Try.prog.info? 25).map (fun i => (i.zero, i.size, i.bytes)) = some (some (.agg #[.string ⟨#[]⟩, .slice none 0 0, .int .i64 0, .string ⟨#[]⟩, .int .i64 0]), 5, 72) := by kernel_rfl
theorem zeroStep (w : World) : (zeroValue 25).run Try.prog w = .ok (.agg #[.string ⟨#[]⟩, .slice none 0 0, .int .i64 0, .string ⟨#[]⟩, .int .i64 0]) w := by kernel_rfl
/-- clear of one step. -/
theorem run_clear_one (w : World) (gs o c ty : Nat) (cs : Array Value) (h : Blk w gs 25 cs) (ho : o + 5 ≤ cs.size) :
    (Builtin.clear_ #[26] ty #[.slice (some ⟨gs, o, none⟩) 1 c]).run Try.prog w = .ok (.tuple #[]) (w.setCells gs o [.string ⟨#[]⟩, .slice none 0 0, .int .i64 0, .string ⟨#[]⟩, .int .i64 0]) := by
  have hst := run_storeCells_cells (P := Try.prog) gs o [.string ⟨#[]⟩, .slice none 0 0, .int .i64 0, .string ⟨#[]⟩, .int .i64 0] 0 w (fun j hj => by rw [Nat.add_zero, h.cell, Array.getElem?_eq_getElem (by simp at hj; omega)]; rfl) (fun j hj => h.frozen _) (by simp [Value.oneCell'])
  rw [Nat.add_zero] at hst
  have hz : (Builtin.zeroCells (Value.agg #[.string ⟨#[]⟩, .slice none 0 0, .int .i64 0, .string ⟨#[]⟩, .int .i64 0]).cells 1).toList = [.string ⟨#[]⟩, .slice none 0 0, .int .i64 0, .string ⟨#[]⟩, .int .i64 0] := by kernel_rfl
  simp [Builtin.clear_, run_underlying Try.underlying26, zeroStep, hz, hst]
/-- append(s[:0], s[1:]...) of a row's own steps, in a region that draws. -/
theorem step_front {ops : Array Oper} {o : Oper} {a : Act} {W : World} {K : Act → World → Prop} {Q : Exit → Act → World → Prop} {E : Prop} (hgd : o.guard = none) (s x : Operand)
    (ho : o.op = Op.call { callee := Callee.builtin Builtin.append, args := #[s, x], argTypes := #[26, 26] }) (gs n cap c : Nat) (cs : Array Value) (hB : Blk W gs 25 cs) (hsz : cs.size = cap * 5) (hn : n + 1 ≤ cap) (h1 : ∀ i v, i < (n + 1) * 5 → cs[i]? = some v → v.oneCell' = true)
    (hs : a.eval s = .slice (some ⟨gs, 0, none⟩) 0 cap) (hx : a.eval x = .slice (some ⟨gs, 5, none⟩) n c)
    (h : ∀ (w' : World) (cs' : Array Value), Blk w' gs 25 cs' → cs'.size = cs.size → (∀ i, i < n * 5 → cs'[i]? = cs[5 + i]?) → (∀ i, n * 5 ≤ i → cs'[i]? = cs[i]?) → W.grownBy w' (some gs) → K (a.put o.dst (.slice (some ⟨gs, 0, none⟩) n cap)) w') :
    if Region.wanted o (yielded ops a.tmps) = true then Oper.wp Try.prog o a W K Q else E := by
  obtain ⟨i0, hinf, hz0, hz1, hz2⟩ := info_parts infoPStep
  have hl : ((cs.toList.drop 5).take (n * 5)).length = n * 5 := by rw [List.length_take, List.length_drop, Array.length_toList]; omega
  have hget : ∀ j u, ((cs.toList.drop 5).take (n * 5))[j]? = some u → cs[5 + j]? = some u := fun j u hu => by
    rw [List.getElem?_take] at hu
    split at hu
    · rwa [List.getElem?_drop, Array.getElem?_toList] at hu
    · cases hu
  refine step_append_room hgd s x 26 ho 25 i0 5 Try.underlying26 hinf hz1 gs 0 0 cap hs ⟨gs, 5, none⟩ n c ((cs.toList.drop 5).take (n * 5)) hx hl (fun j u hu => ?_) (fun u hu => by obtain ⟨j, hj⟩ := List.getElem?_of_mem hu; have hjl := (List.getElem?_eq_some_iff.1 hj).1; rw [hl] at hjl; exact h1 (5 + j) u (by omega) (hget j u hj)) (by omega) (fun j hj => ?_) ?_
  · rw [addr_add, hB.cell]
    exact hget j u hu
  · rw [hl] at hj
    refine ⟨?_, hB.frozen _⟩
    rw [hB.cell, Array.getElem?_eq_getElem (by omega)]
    rfl
  · obtain ⟨cs', e1, e2, e3, e4⟩ := blk_setCells ((cs.toList.drop 5).take (n * 5)) (0 + 0 * 5) W cs hB
    rw [Nat.zero_add]
    refine h _ cs' e1 e2 (fun i hi => ?_) (fun i hi => e4 i (.inr (by rw [hl]; omega))) (grown_setCells _ _ _)
    have := e3 i (by rw [hl]; exact hi) (by omega)
    rw [show 0 + 0 * 5 + i = i by omega] at this
    rw [this, List.getElem?_take, if_pos hi, List.getElem?_drop, Array.getElem?_toList]
set_option maxRecDepth 100000 in
set_option maxHeartbeats 4000000 in
theorem delete0 (gs n cap : Nat) (cs : Array Value) (w : World) (hB : Blk w gs 25 cs) (hsz : cs.size = cap * 5) (hn : 1 ≤ n) (hnc : n + 1 ≤ cap) (hnb : n ≤ 100000) (h1 : ∀ i v, i < (n + 1) * 5 → cs[i]? = some v → v.oneCell' = true) :
    Calls Try.prog 96 #[.slice (some ⟨gs, 0, none⟩) ((n + 1 : Nat)) cap, .int .i64 0, .int .i64 1] w fun e w' => e = .returned (.slice (some ⟨gs, 0, none⟩) n cap) ∧ w.grownBy w' (some gs) ∧
      ∃ cs', Blk w' gs 25 cs' ∧ cs'.size = cs.size ∧ (∀ i, i < n * 5 → cs'[i]? = cs[5 + i]?) ∧ ∀ i v, i < n * 5 → cs'[i]? = some v → v.oneCell' = true := by
  have HB := Lib.hid hB
  have HS := Lib.hid hsz
  have H1 := Lib.hid h1
  obtain ⟨m, hm⟩ : ∃ m, m = n + 1 := ⟨_, rfl⟩
  rw [← hm]
  have HM := Lib.hid hm
  have q0 : (1 : Int) ≤ (m : Int) := by omega
  have q1 : (m : Int) ≤ (cap : Int) := by omega
  have q2 : m - 1 = n := by omega
  have q3 : (n : Int) ≤ (m : Int) := by omega
  have q4 : ¬ (cap = 1) := by omega
  clear hB hsz h1 hm
  go_enter Try.func96, Try.ntmps96
  go_wp2_with fail
  go_region_law (first | (refine step_front rfl (.tmp 22) (.tmp 25) rfl gs _ cap _ cs HB.out.drew HS.out ?_ H1.out rfl rfl ?_; (omega); intro w2 cs2 hb2 hs2 hl2 hr2 hg2; have HB2 := Lib.hid hb2; have HS2 := Lib.hid hs2; have HL2 := Lib.hid hl2; have HR2 := Lib.hid hr2; have HG2 := Lib.hid hg2; clear hb2 hs2 hl2 hr2 hg2))
  have hcl := fun c ty => run_clear_one w2 gs (n * 5) c ty cs2 HB2.out (by rw [HS2.out, HS.out]; omega)
  have q5 : m - n = 1 := by omega
  have q6 : ¬ (n = cap) := by omega
  have q7 : ¬ (cap = n) := by omega
  go_wp2_with fail
  go_ret
  obtain ⟨cs3, e1, e2, e3, e4⟩ := blk_setCells [.string ⟨#[]⟩, .slice none 0 0, .int .i64 0, .string ⟨#[]⟩, .int .i64 0] (n * 5) w2 cs2 HB2.out
  have hg3 := grown_setCells (g := gs) [.string ⟨#[]⟩, .slice none 0 0, .int .i64 0, .string ⟨#[]⟩, .int .i64 0] (n * 5) w2
  have hg2 : w.grownBy w2 (some gs) := ⟨HG2.out.os, HG2.out.tape, HG2.out.output, HG2.out.size, HG2.out.block⟩
  refine ⟨rfl, ⟨hg3.os.trans hg2.os, hg3.tape.trans hg2.tape, hg3.output.trans hg2.output, Nat.le_trans hg2.size hg3.size, fun i hi hne => (hg3.block i (Nat.lt_of_lt_of_le hi hg2.size) hne).trans (hg2.block i hi hne)⟩,
    cs3, e1, e2.trans HS2.out, fun i hi => (e4 i (.inl hi)).trans (HL2.out i hi), fun i v hi hv => H1.out (5 + i) v (by omega) (by rw [← HL2.out i hi, ← e4 i (.inl hi)]; exact hv)⟩
end Go.Proofs.Ytniefnjcimempaa
