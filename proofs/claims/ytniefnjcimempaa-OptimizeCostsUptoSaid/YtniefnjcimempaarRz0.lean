/- The walk of slices.Delete of a row's first step. The walk of slices.Delete of one step, wherever it lies but at the end. The walk of slices.Insert of one step before another one. -/
import Derived.Test.YtniefnjcimempaarOrA
import Derived.Laws.IdiomCopy
import Derived.Deep.RegionLaw
import Derived.Deep.Cut
import Derived.Deep.Upon
import Derived.Test.YtniefnjcimempaarRa
import Derived.Lib.AppendZerosOnto
import Derived.Lib.Overlaps
import Derived.Laws.NewBlocks
namespace Go.Proofs.Ytniefnjcimempaa
open Go.RowKit
theorem blk_setCells {g : Nat} {t : TypeId} : ∀ (vs : List Value) (o : Nat) (w : World) (cs : Array Value), Blk w g t cs → ∃ cs', Blk (w.setCells g o vs) g t cs' ∧ cs'.size = cs.size ∧ (∀ j, j < vs.length → o + j < cs.size → cs'[o + j]? = vs[j]?) ∧ (∀ i, (i < o ∨ o + vs.length ≤ i) → cs'[i]? = cs[i]?)
  | [], o, w, cs, h => ⟨cs, h, rfl, fun j hj => by simp at hj, fun _ _ => rfl⟩
  | v :: vs, o, w, cs, h => by
    obtain ⟨cs', h1, h2, h3, h4⟩ := blk_setCells vs (o + 1) (w.setCell ⟨g, o, none⟩ v) _ (h.set_ o v)
    rw [Array.size_setIfInBounds] at h2 h3
    refine ⟨cs', h1, h2, fun j hj hs => ?_, fun i hi => ?_⟩
    · cases j with
      | zero =>
        rw [Nat.add_zero, h4 o (.inl (by omega)), Array.getElem?_setIfInBounds_self_of_lt (by omega)]
        rfl
      | succ j =>
        have := h3 j (by simpa using hj) (by omega)
        rw [show o + (j + 1) = o + 1 + j by omega, this]
        rfl
    · rw [List.length_cons] at hi
      rw [h4 i (by omega), Array.getElem?_setIfInBounds_ne (by omega)]
theorem size_setCells {g : Nat} : ∀ (vs : List Value) (o : Nat) (w : World), (w.setCells g o vs).heap.size = w.heap.size
  | [], _, _ => rfl
  | v :: vs, o, w => (size_setCells vs (o + 1) _).trans (by simp)
theorem tape_setCells {g : Nat} : ∀ (vs : List Value) (o : Nat) (w : World), (w.setCells g o vs).tape = w.tape
  | [], _, _ => rfl
  | _v :: vs, o, _w => (tape_setCells vs (o + 1) _).trans rfl
theorem grown_setCells {g : Nat} (vs : List Value) (o : Nat) (w : World) : w.grownBy (w.setCells g o vs) (some g) :=
  ⟨World.os_setCells w g o vs, tape_setCells vs o w, World.output_setCells w g o vs, by rw [size_setCells]; exact Nat.le_refl _, fun i hi hne => World.heap_setCells_other w g o vs hi (fun e => hne (by rw [e]))⟩
theorem infoPStep : (Try.prog.info? 25).map (fun i => (i.zero, i.size, i.bytes)) = some (some (.agg #[.string ⟨#[]⟩, .slice none 0 0, .int .i64 0, .string ⟨#[]⟩, .int .i64 0]), 5, 72) := by kernel_rfl
theorem run_clear_one (w : World) (gs o c ty : Nat) (cs : Array Value) (h : Blk w gs 25 cs) (ho : o + 5 ≤ cs.size) :
    (Builtin.clear_ #[26] ty #[.slice (some ⟨gs, o, none⟩) 1 c]).run Try.prog w = .ok (.tuple #[]) (w.setCells gs o [.string ⟨#[]⟩, .slice none 0 0, .int .i64 0, .string ⟨#[]⟩, .int .i64 0]) := by
  have hst := run_storeCells_cells (P := Try.prog) gs o [.string ⟨#[]⟩, .slice none 0 0, .int .i64 0, .string ⟨#[]⟩, .int .i64 0] 0 w (fun j hj => by rw [Nat.add_zero, h.cell, Array.getElem?_eq_getElem (by simp at hj; omega)]; rfl) (fun j hj => h.frozen _) (by simp [Value.oneCell'])
  rw [Nat.add_zero] at hst
  have hz : (Builtin.zeroCells (Value.agg #[.string ⟨#[]⟩, .slice none 0 0, .int .i64 0, .string ⟨#[]⟩, .int .i64 0]).cells 1).toList = [.string ⟨#[]⟩, .slice none 0 0, .int .i64 0, .string ⟨#[]⟩, .int .i64 0] := by kernel_rfl
  simp [Builtin.clear_, run_underlying Try.underlying26, hz, hst]
theorem step_front {ops : Array Oper} {o : Oper} {a : Act} {W : World} {K : Act → World → Prop} {Q : Exit → Act → World → Prop} {E : Prop} (hgd : o.guard = none) (s x : Operand)
    (ho : o.op = Op.call { callee := Callee.builtin Builtin.append, args := #[s, x], argTypes := #[26, 26] }) (gs n cap c : Nat) (cs : Array Value) (hB : Blk W gs 25 cs) (hsz : cs.size = cap * 5) (hn : n + 1 ≤ cap) (h1 : ∀ i v, i < (n + 1) * 5 → cs[i]? = some v → v.oneCell' = true)
    (hs : a.eval s = .slice (some ⟨gs, 0, none⟩) 0 cap) (hx : a.eval x = .slice (some ⟨gs, 5, none⟩) n c)
    (h : ∀ (w' : World) (cs' : Array Value), Blk w' gs 25 cs' → cs'.size = cs.size → (∀ i, i < n * 5 → cs'[i]? = cs[5 + i]?) → (∀ i, n * 5 ≤ i → cs'[i]? = cs[i]?) → W.grownBy w' (some gs) → K (a.put o.dst (.slice (some ⟨gs, 0, none⟩) n cap)) w') :
    if Region.wanted o (yielded ops a.tmps) = true then Oper.wp Try.prog o a W K Q else E := by
  obtain ⟨i0, hinf, hz0, hz1, hz2⟩ := info_parts infoPStep
  have hl : ((cs.toList.drop 5).take (n * 5)).length = n * 5 := by rw [List.length_take, List.length_drop, Array.length_toList]; omega
  have hget : ∀ j u, ((cs.toList.drop 5).take (n * 5))[j]? = some u → cs[5 + j]? = some u := fun j u hu => by
    rw [List.getElem?_take] at hu
    split at hu
    · rwa [List.getElem?_drop, Array.getElem?_toList] at hu
    · cases hu
  refine step_append_room hgd s x 26 ho 25 i0 5 Try.underlying26 hinf hz1 gs 0 0 cap hs ⟨gs, 5, none⟩ n c ((cs.toList.drop 5).take (n * 5)) hx hl (fun j u hu => ?_) (fun u hu => by obtain ⟨j, hj⟩ := List.getElem?_of_mem hu; have hjl := (List.getElem?_eq_some_iff.1 hj).1; rw [hl] at hjl; exact h1 (5 + j) u (by omega) (hget j u hj)) (by omega) (fun j hj => ?_) ?_
  · rw [addr_add, hB.cell]
    exact hget j u hu
  · rw [hl] at hj
    refine ⟨?_, hB.frozen _⟩
    rw [hB.cell, Array.getElem?_eq_getElem (by omega)]
    rfl
  · obtain ⟨cs', e1, e2, e3, e4⟩ := blk_setCells ((cs.toList.drop 5).take (n * 5)) (0 + 0 * 5) W cs hB
    rw [Nat.zero_add]
    refine h _ cs' e1 e2 (fun i hi => ?_) (fun i hi => e4 i (.inr (by rw [hl]; omega))) (grown_setCells _ _ _)
    have := e3 i (by rw [hl]; exact hi) (by omega)
    rw [show 0 + 0 * 5 + i = i by omega] at this
    rw [this, List.getElem?_take, if_pos hi, List.getElem?_drop, Array.getElem?_toList]
set_option maxRecDepth 100000 in
set_option maxHeartbeats 4000000 in
theorem delete0 (gs n cap : Nat) (cs : Array Value) (w : World) (hB : Blk w gs 25 cs) (hsz : cs.size = cap * 5) (hn : 1 ≤ n) (hnc : n + 1 ≤ cap) (hnb : n ≤ 100000) (h1 : ∀ i v, i < (n + 1) * 5 → cs[i]? = some v → v.oneCell' = true) :
    Calls Try.prog 96 #[.slice (some ⟨gs, 0, none⟩) ((n + 1 : Nat)) cap, .int .i64 0, .int .i64 1] w fun e w' => e = .returned (.slice (some ⟨gs, 0, none⟩) n cap) ∧ w.grownBy w' (some gs) ∧
      ∃ cs', Blk w' gs 25 cs' ∧ cs'.size = cs.size ∧ (∀ i, i < n * 5 → cs'[i]? = cs[5 + i]?) ∧ ∀ i v, i < n * 5 → cs'[i]? = some v → v.oneCell' = true := by
  have HB := Lib.hid hB
  have HS := Lib.hid hsz
  have H1 := Lib.hid h1
  obtain ⟨m, hm⟩ : ∃ m, m = n + 1 := ⟨_, rfl⟩
  rw [← hm]
  have HM := Lib.hid hm
  have q0 : (1 : Int) ≤ (m : Int) := by omega
  have q1 : (m : Int) ≤ (cap : Int) := by omega
  have q2 : m - 1 = n := by omega
  have q3 : (n : Int) ≤ (m : Int) := by omega
  have q4 : ¬ (cap = 1) := by omega
  clear hB hsz h1 hm
  go_enter Try.func96, Try.ntmps96
  go_wp2_with fail
  go_region_law (first | (refine step_front rfl (.tmp 22) (.tmp 25) rfl gs _ cap _ cs HB.out.drew HS.out ?_ H1.out rfl rfl ?_; (omega); intro w2 cs2 hb2 hs2 hl2 hr2 hg2; have HB2 := Lib.hid hb2; have HS2 := Lib.hid hs2; have HL2 := Lib.hid hl2; have HR2 := Lib.hid hr2; have HG2 := Lib.hid hg2; clear hb2 hs2 hl2 hr2 hg2))
  have hcl := fun c ty => run_clear_one w2 gs (n * 5) c ty cs2 HB2.out (by rw [HS2.out, HS.out]; omega)
  have q5 : m - n = 1 := by omega
  have q6 : ¬ (n = cap) := by omega
  have q7 : ¬ (cap = n) := by omega
  go_wp2_with fail
  go_ret
  obtain ⟨cs3, e1, e2, e3, e4⟩ := blk_setCells [.string ⟨#[]⟩, .slice none 0 0, .int .i64 0, .string ⟨#[]⟩, .int .i64 0] (n * 5) w2 cs2 HB2.out
  have hg3 := grown_setCells (g := gs) [.string ⟨#[]⟩, .slice none 0 0, .int .i64 0, .string ⟨#[]⟩, .int .i64 0] (n * 5) w2
  have hg2 : w.grownBy w2 (some gs) := ⟨HG2.out.os, HG2.out.tape, HG2.out.output, HG2.out.size, HG2.out.block⟩
  refine ⟨rfl, ⟨hg3.os.trans hg2.os, hg3.tape.trans hg2.tape, hg3.output.trans hg2.output, Nat.le_trans hg2.size hg3.size, fun i hi hne => (hg3.block i (Nat.lt_of_lt_of_le hi hg2.size) hne).trans (hg2.block i hi hne)⟩,
    cs3, e1, e2.trans HS2.out, fun i hi => (e4 i (.inl hi)).trans (HL2.out i hi), fun i v hi hv => H1.out (5 + i) v (by omega) (by rw [← HL2.out i hi, ← e4 i (.inl hi)]; exact hv)⟩
end Go.Proofs.Ytniefnjcimempaa
namespace Go.Proofs.Ytniefnjcimempaa
open Go.RowKit
theorem step_mid {ops : Array Oper} {o : Oper} {a : Act} {W : World} {K : Act → World → Prop} {Q : Exit → Act → World → Prop} {E : Prop} (hgd : o.guard = none) (s x : Operand)
    (ho : o.op = Op.call { callee := Callee.builtin Builtin.append, args := #[s, x], argTypes := #[26, 26] }) (gs i j n cap c : Nat) (cs : Array Value) (hB : Blk W gs 25 cs) (hsz : cs.size = cap * 5) (hn : j + n ≤ cap) (hij : i ≤ j) (h1 : ∀ q v, q < (j + n) * 5 → cs[q]? = some v → v.oneCell' = true)
    (hs : a.eval s = .slice (some ⟨gs, 0, none⟩) i cap) (hx : a.eval x = .slice (some ⟨gs, j * 5, none⟩) n c)
    (h : ∀ (w' : World) (cs' : Array Value), Blk w' gs 25 cs' → cs'.size = cs.size → (∀ q, q < n * 5 → cs'[i * 5 + q]? = cs[j * 5 + q]?) → (∀ q, q < i * 5 ∨ (i + n) * 5 ≤ q → cs'[q]? = cs[q]?) → W.grownBy w' (some gs) → K (a.put o.dst (.slice (some ⟨gs, 0, none⟩) (i + n) cap)) w') :
    if Region.wanted o (yielded ops a.tmps) = true then Oper.wp Try.prog o a W K Q else E := by
  obtain ⟨i0, hinf, hz0, hz1, hz2⟩ := info_parts infoPStep
  have hl : ((cs.toList.drop (j * 5)).take (n * 5)).length = n * 5 := by rw [List.length_take, List.length_drop, Array.length_toList]; omega
  have hget : ∀ q u, ((cs.toList.drop (j * 5)).take (n * 5))[q]? = some u → cs[j * 5 + q]? = some u := fun q u hu => by
    rw [List.getElem?_take] at hu
    split at hu
    · rwa [List.getElem?_drop, Array.getElem?_toList] at hu
    · cases hu
  refine step_append_room hgd s x 26 ho 25 i0 5 Try.underlying26 hinf hz1 gs 0 i cap hs ⟨gs, j * 5, none⟩ n c ((cs.toList.drop (j * 5)).take (n * 5)) hx hl (fun q u hu => ?_) (fun u hu => by obtain ⟨q, hq⟩ := List.getElem?_of_mem hu; have hql := (List.getElem?_eq_some_iff.1 hq).1; rw [hl] at hql; exact h1 (j * 5 + q) u (by omega) (hget q u hq)) (by omega) (fun q hq => ?_) ?_
  · rw [addr_add, hB.cell]
    exact hget q u hu
  · rw [hl] at hq
    refine ⟨?_, hB.frozen _⟩
    rw [hB.cell, Array.getElem?_eq_getElem (by omega)]
    rfl
  · obtain ⟨cs', e1, e2, e3, e4⟩ := blk_setCells ((cs.toList.drop (j * 5)).take (n * 5)) (0 + i * 5) W cs hB
    rw [Nat.zero_add] at e1 e3 e4
    refine h _ cs' (by rw [Nat.zero_add]; exact e1) e2 (fun q hq => ?_) (fun q hq => e4 q (by rw [hl]; omega)) (grown_setCells _ _ _)
    rw [e3 q (by rw [hl]; exact hq) (by omega), List.getElem?_take, if_pos hq, List.getElem?_drop, Array.getElem?_toList]
set_option maxRecDepth 100000 in
set_option maxHeartbeats 4000000 in
theorem delete_at (gs n i cap : Nat) (cs : Array Value) (w : World) (hB : Blk w gs 25 cs) (hsz : cs.size = cap * 5) (hi : i < n) (hnc : n + 1 ≤ cap) (hnb : n ≤ 100000) (h1 : ∀ q v, q < (n + 1) * 5 → cs[q]? = some v → v.oneCell' = true) :
    Calls Try.prog 96 #[.slice (some ⟨gs, 0, none⟩) ((n + 1 : Nat)) cap, .int .i64 i, .int .i64 ((i + 1 : Nat) : Int)] w fun e w' => e = .returned (.slice (some ⟨gs, 0, none⟩) n cap) ∧ w.grownBy w' (some gs) ∧
      ∃ cs', Blk w' gs 25 cs' ∧ cs'.size = cs.size ∧ (∀ q, q < i * 5 → cs'[q]? = cs[q]?) ∧ (∀ q, i * 5 ≤ q → q < n * 5 → cs'[q]? = cs[5 + q]?) := by
  have HB := Lib.hid hB
  have HS := Lib.hid hsz
  have H1 := Lib.hid h1
  obtain ⟨m, hm⟩ : ∃ m, m = n + 1 := ⟨_, rfl⟩
  obtain ⟨j, hj⟩ : ∃ j, j = i + 1 := ⟨_, rfl⟩
  rw [← hm, ← hj]
  have HM := Lib.hid hm
  have HJ := Lib.hid hj
  have q0 : (i : Int) ≤ (j : Int) := by omega
  have q1 : (m : Int) ≤ (cap : Int) := by omega
  have q2 : (j : Int) ≤ (m : Int) := by omega
  have q3 : (n : Int) ≤ (m : Int) := by omega
  have q4 : ¬ (cap = j) := by omega
  have q5 : ((i : Int) == (j : Int)) = false := beq_eq_false_iff_ne.2 (by omega)
  have q6 : (0 : Int) ≤ (i : Int) := by omega
  have q7 : (0 : Int) ≤ (j : Int) := by omega
  have q8 : (i : Int) ≤ (cap : Int) := by omega
  have q9 : (j : Int) ≤ (cap : Int) := by omega
  have qa : i ≤ cap := by omega
  have qb : ¬ (i = j) := by omega
  obtain ⟨d, hd⟩ : ∃ d, d = n - i := ⟨_, rfl⟩
  have qd : m - j = d := by omega
  have qe : i + d = n := by omega
  have HD := Lib.hid hd
  have hjd : j + d ≤ cap := by omega
  have hjm : (j + d) * 5 ≤ (n + 1) * 5 := by omega
  have hij : i ≤ j := by omega
  clear hB hsz h1 hm hj hd
  go_enter Try.func96, Try.ntmps96
  go_wp2_with fail
  go_region_law (first | (refine step_mid rfl (.tmp 22) (.tmp 25) rfl gs i j d cap _ cs HB.out.drew HS.out hjd hij (fun q v hq hv => H1.out q v (Nat.lt_of_lt_of_le hq hjm) hv) rfl rfl ?_; intro w2 cs2 hb2 hs2 hl2 hr2 hg2; have HB2 := Lib.hid hb2; have HS2 := Lib.hid hs2; have HL2 := Lib.hid hl2; have HR2 := Lib.hid hr2; have HG2 := Lib.hid hg2; clear hb2 hs2 hl2 hr2 hg2))
  have hcl := fun c ty => run_clear_one w2 gs (n * 5) c ty cs2 HB2.out (by rw [HS2.out, HS.out]; have := HM.out; omega)
  have HE := Lib.hid qe
  have qf : m - n = 1 := by have := HM.out; omega
  have qg : ¬ (n = cap) := by omega
  have qh : ¬ (cap = n) := by omega
  clear qd q4 q5
  go_wp2_with fail
  go_ret
  obtain ⟨cs3, e1, e2, e3, e4⟩ := blk_setCells [.string ⟨#[]⟩, .slice none 0 0, .int .i64 0, .string ⟨#[]⟩, .int .i64 0] (n * 5) w2 cs2 HB2.out
  have hg3 := grown_setCells (g := gs) [.string ⟨#[]⟩, .slice none 0 0, .int .i64 0, .string ⟨#[]⟩, .int .i64 0] (n * 5) w2
  have hg2 : w.grownBy w2 (some gs) := ⟨HG2.out.os, HG2.out.tape, HG2.out.output, HG2.out.size, HG2.out.block⟩
  have hjj := HJ.out
  exact ⟨rfl, ⟨hg3.os.trans hg2.os, hg3.tape.trans hg2.tape, hg3.output.trans hg2.output, Nat.le_trans hg2.size hg3.size, fun i hi hne => (hg3.block i (Nat.lt_of_lt_of_le hi hg2.size) hne).trans (hg2.block i hi hne)⟩,
    cs3, e1, e2.trans HS2.out, fun q hq => (e4 q (.inl (by omega))).trans (HR2.out q (.inl hq)), fun q hq1 hq2 => by
      rw [e4 q (.inl hq2)]
      have := HL2.out (q - i * 5) (by omega)
      rw [show i * 5 + (q - i * 5) = q by omega, show j * 5 + (q - i * 5) = 5 + q by omega] at this
      exact this⟩
end Go.Proofs.Ytniefnjcimempaa
namespace Go.Proofs.Ytniefnjcimempaa
open Go.RowKit
theorem step_copy_eq {P : Program} {ops : Array Oper} {o : Oper} {a : Act} {w : World} {K : Act → World → Prop} {Q : Exit → Act → World → Prop} {E : Prop} (hg : o.guard = none) (d x : Operand) (dT sT : TypeId)
    (hop : o.op = Op.call { callee := Callee.builtin Builtin.copy, args := #[d, x], argTypes := #[dT, sT] }) (v u : Value) (hd : a.eval d = v) (hx : a.eval x = u) {v' : Value} {w' : World}
    (hr : (Builtin.copy_ #[dT, sT] o.type #[v, u]).run P w = .ok v' w') (hK : K (a.put o.dst v') w') : if Region.wanted o (yielded ops a.tmps) = true then Oper.wp P o a w K Q else E := by
  have hw : Region.wanted o (yielded ops a.tmps) = true := by simp [Region.wanted, hg]
  rw [if_pos hw]
  unfold Oper.wp
  simp [execOp, hop, resolve, invoke, builtin, hd, hx, hr, Result.andThen]
  exact hK
theorem wpList_copy_eq {P : Program} {w : World} {ops : Array Oper} {rest : List Oper} {o : Oper} {a : Act} {Q : Exit → Act → World → Prop} (hgd : o.guard = none) (d s : Operand) (t t' : TypeId)
    (ho : o.op = .call { callee := .builtin .copy, args := #[d, s], argTypes := #[t, t'] }) (v u : Value) (hd : a.eval d = v) (hs : a.eval s = u) {v' : Value} {w' : World}
    (hr : (Builtin.copy_ #[t, t'] o.type #[v, u]).run P w = .ok v' w') (h : wpList P ops Q rest (a.put o.dst v') w') : wpList P ops Q (o :: rest) a w :=
  wpList_plain hgd fun K hK => by
    unfold Oper.wp
    simp [execOp, ho, resolve, invoke, builtin, hd, hs, hr, Result.andThen]
    exact hK _ _ h
theorem blk_shape {w : World} {g : Nat} {t : TypeId} {cs : Array Value} (h : Blk w g t cs) : w.shape? g = some (t, cs.size) := by
  unfold Blk at h
  simp [World.shape?, h]
theorem run_copy_steps (w : World) (ty b o dLen dCap n : Nat) (a : Addr) (sLen sCap : Nat) (cs : List Value) (hn : n = Nat.min sLen dLen) (hl : cs.length = n * 5)
    (hsrc : ∀ j v, cs[j]? = some v → w.cell? (a.add j) = some v) (hc : ∀ j, j < cs.length → (w.cell? ⟨b, o + j, none⟩).isSome = true) (hf : ∀ j, j < cs.length → w.frozen? ⟨b, o + j, none⟩ = false) (h1 : ∀ v ∈ cs, v.oneCell' = true) :
    (Builtin.copy_ #[26, 26] ty #[.slice (some ⟨b, o, none⟩) dLen dCap, .slice (some a) sLen sCap]).run Try.prog w = .ok (goInt n) (w.setCells b o cs) := by
  obtain ⟨i0, hinf, hz0, hz1, hz2⟩ := info_parts infoPStep
  have hlc := run_loadCells_list (P := Try.prog) w a cs hsrc
  rw [hl] at hlc
  have hst := run_storeCells_cells (P := Try.prog) b o cs 0 w (by simpa using hc) (by simpa using hf) h1
  subst hn
  simp [Builtin.copy_, run_underlying Try.underlying26, Builtin.lenOf, Builtin.firstCells, sizeOf, typeInfo, hinf, hz1, hlc, hst]
def InsEnd (gs n i : Nat) (cs vals : Array Value) (w : World) (e : Ending) (w' : World) : Prop :=
  ∃ gs' cap' cs', e = .returned (.slice (some ⟨gs', 0, none⟩) ((n + 1 : Nat) : Int).toNat cap') ∧ w.grownBy w' (some gs) ∧ (gs' = gs ∨ w.heap.size ≤ gs') ∧ Blk w' gs' 25 cs' ∧ cs'.size = cap' * 5 ∧ n + 1 ≤ cap' ∧
    (∀ q, q < i * 5 → cs'[q]? = cs[q]?) ∧ (∀ q, q < 5 → cs'[i * 5 + q]? = vals[q]?) ∧ (∀ q, i * 5 ≤ q → q < n * 5 → cs'[5 + q]? = cs[q]?)
section
variable (gs vb n i cap : Nat) (cs vals : Array Value) (w : World)
set_option maxRecDepth 100000 in
set_option maxHeartbeats 4000000 in
theorem insert_room (hB : Blk w gs 25 cs) (hsz : cs.size = cap * 5) (hV : Blk w vb 25 vals) (hvs : vals.size = 5) (hne : vb ≠ gs) (hi : i < n) (hnc : n + 1 ≤ cap) (hnb : n ≤ 100000) (h1 : ∀ q v, q < n * 5 → cs[q]? = some v → v.oneCell' = true) (h1v : ∀ v ∈ vals.toList, v.oneCell' = true) :
    Calls Try.prog 97 #[.slice (some ⟨gs, 0, none⟩) n cap, .int .i64 i, .slice (some ⟨vb, 0, none⟩) 1 1] w (InsEnd gs n i cs vals w) := by
  obtain ⟨i0, hinf, hz0, hz1, hz2⟩ := info_parts infoPStep
  obtain ⟨rest, hrest⟩ : ∃ rest, rest = (cs.toList.drop (i * 5)).take ((n - i) * 5) := ⟨_, rfl⟩
  have hrl : rest.length = (n - i) * 5 := by rw [hrest, List.length_take, List.length_drop, Array.length_toList]; omega
  have hrg : ∀ j v, rest[j]? = some v → cs[i * 5 + j]? = some v ∧ j < (n - i) * 5 := fun j v hj => by
    rw [hrest, List.getElem?_take] at hj
    split at hj
    · exact ⟨by rwa [List.getElem?_drop, Array.getElem?_toList] at hj, by assumption⟩
    · cases hj
  have hr1 : ∀ v ∈ rest, v.oneCell' = true := fun v hv => by
    obtain ⟨j, hj⟩ := List.getElem?_of_mem hv
    obtain ⟨h2, h3⟩ := hrg j v hj
    exact h1 _ v (by omega) h2
  have hov : ∀ lb cb, (callFunc 104 #[.slice (some ⟨vb, 0, none⟩) 1 1, .slice (some ⟨gs, (i + 1) * 5, none⟩) lb cb]).run Try.prog w = .ok (.value (.bool false)) w := fun lb cb => by
    rw [run_callFunc_extern Try.func104 (by kernel_rfl) (by kernel_rfl) (by kernel_rfl) (e := Extern.SlicesOverlaps.overlaps #[26, 26] #[4]) (by kernel_rfl),
      Lib.run_overlaps_apart w 26 4 25 Try.underlying26 5 (fun w => by simp [sizeOf, typeInfo, hinf, hz1]) ⟨vb, 0, none⟩ ⟨gs, (i + 1) * 5, none⟩ 1 1 lb cb hne 25 25 5 cs.size ((blk_shape hV).trans (by rw [hvs])) (blk_shape hB) (by omega) (hV.frozen 0) (hV.frozen 5)]
    rfl
  have hcp1 : ∀ ty dc sc, (Builtin.copy_ #[26, 26] ty #[.slice (some ⟨gs, (i + 1) * 5, none⟩) (n + 1 - (i + 1)) dc, .slice (some ⟨gs, i * 5, none⟩) (n + 1 - i) sc]).run Try.prog w.drew = .ok (goInt ((n - i : Nat) : Int)) (w.drew.setCells gs ((i + 1) * 5) rest) := fun ty dc sc =>
    run_copy_steps w.drew ty gs ((i + 1) * 5) (n + 1 - (i + 1)) dc (n - i) ⟨gs, i * 5, none⟩ (n + 1 - i) sc rest (by simp only [Nat.min_def]; split <;> omega) hrl
      (fun j v hj => by rw [addr_add]; exact (hB.cell _).trans (hrg j v hj).1)
      (fun j hj => by rw [show w.drew.cell? ⟨gs, (i + 1) * 5 + j, none⟩ = cs[(i + 1) * 5 + j]? from hB.cell _, Array.getElem?_eq_getElem (by omega)]; rfl)
      (fun j _ => hB.frozen _) hr1
  obtain ⟨cs1, e1, e2, e3, e4⟩ := blk_setCells rest ((i + 1) * 5) w.drew cs hB.drew
  obtain ⟨W1, hW1⟩ : ∃ W1, W1 = w.drew.setCells gs ((i + 1) * 5) rest := ⟨_, rfl⟩
  have hV1 : Blk W1 vb 25 vals := by rw [hW1]; exact hV.drew.grown (grown_setCells rest ((i + 1) * 5) w.drew) (fun e => hne (by injection e))
  have hG1 : w.drew.grownBy W1 (some gs) := by rw [hW1]; exact grown_setCells rest ((i + 1) * 5) w.drew
  rw [← hW1] at hcp1 e1
  have hcp2 : ∀ ty dc, (Builtin.copy_ #[26, 26] ty #[.slice (some ⟨gs, i * 5, none⟩) (n + 1 - i) dc, .slice (some ⟨vb, 0, none⟩) 1 1]).run Try.prog W1 = .ok (goInt 1) (W1.setCells gs (i * 5) vals.toList) := fun ty dc =>
    run_copy_steps W1 ty gs (i * 5) (n + 1 - i) dc 1 ⟨vb, 0, none⟩ 1 1 vals.toList (by simp only [Nat.min_def]; split <;> omega) (by rw [Array.length_toList, hvs])
      (fun j v hj => by rw [addr_add, hV1.cell, Nat.zero_add, ← Array.getElem?_toList]; exact hj)
      (fun j hj => by rw [e1.cell, Array.getElem?_eq_getElem (by rw [Array.length_toList] at hj; omega)]; rfl)
      (fun j _ => e1.frozen _) h1v
  obtain ⟨cs2, f1, f2, f3, f4⟩ := blk_setCells vals.toList (i * 5) W1 cs1 e1
  have hG2 := grown_setCells (g := gs) vals.toList (i * 5) W1
  have HEND : Hid (InsEnd gs n i cs vals w (.returned (.slice (some ⟨gs, 0, none⟩) (n + 1) cap)) (W1.setCells gs (i * 5) vals.toList)) := Lib.hid (by
    rw [Array.length_toList, hvs] at f3 f4
    refine ⟨gs, cap, cs2, by rw [Int.toNat_natCast], ⟨hG2.os.trans hG1.os, hG2.tape.trans hG1.tape, hG2.output.trans hG1.output, Nat.le_trans hG1.size hG2.size, fun q hq hne => (hG2.block q (Nat.lt_of_lt_of_le hq hG1.size) hne).trans (hG1.block q hq hne)⟩, .inl rfl, f1, by omega, hnc, fun q hq => ?_, fun q hq => ?_, fun q hq1 hq2 => ?_⟩
    · rw [f4 q (.inl hq), e4 q (.inl (by omega))]
    · rw [f3 q hq (by omega), Array.getElem?_toList]
    · rw [f4 (5 + q) (.inr (by omega)), show 5 + q = (i + 1) * 5 + (q - i * 5) by omega, e3 (q - i * 5) (by omega) (by omega)]
      rw [hrest, List.getElem?_take, if_pos (by omega), List.getElem?_drop, Array.getElem?_toList]
      congr 1
      omega)
  have q0 : ¬ ((i : Int) = (n : Int)) := by omega
  have q1 : IntKind.i64.wrap ((i : Int) + 1) = (i : Int) + 1 := by rw [IntKind.wrap_i64]; omega
  have q2 : (0 : Int) ≤ (i : Int) + 1 := by omega
  have q3 : i ≤ n := by omega
  have q4 : ((i : Int) + 1).toNat = i + 1 := by omega
  have q5 : ¬ (cap = i + 1) := by omega
  have q6 : (i : Int) ≤ (n : Int) + 1 := by omega
  have q7 : ¬ (cap = i) := by omega
  have q8 : (n : Int) + 1 ≤ (cap : Int) := by omega
  have q9 : (i : Int) ≤ (n : Int) := by omega
  clear hB hV h1 h1v hr1 hrg e1 e2 e3 e4 f1 f2 f3 f4 hG1 hG2 hV1 hrest hrl hW1
  go_enter Try.func97, Try.ntmps97
  go_wp2_with (simp only [hov])
  go_region_law (refine step_copy_eq rfl _ _ 26 26 rfl (.slice (some ⟨gs, (i + 1) * 5, none⟩) (n + 1 - (i + 1)) (cap - (i + 1))) (.slice (some ⟨gs, i * 5, none⟩) (n + 1 - i) (cap - i)) (by simp [Act.eval, Act.put]) (by simp [Act.eval, Act.put]) (hcp1 3 (cap - (i + 1)) (cap - i)) ?_)
  go_wp2_with (at_builtin; refine wpList_copy_eq rfl _ _ 26 26 rfl _ _ rfl rfl (hcp2 _ _) ?_)
  go_ret
  exact HEND.out
theorem ins_new (N G : Nat) (ROW : Array Value) (W1 : World) (hW : Below w.heap.size w W1) (hN : w.heap.size ≤ N) (hR : Blk W1 N 25 ROW) (hRs : ROW.size = G * 5) (hG : n + 1 ≤ G) (hROW : ∀ q, q < i * 5 → ROW[q]? = cs[q]?) (hi : i < n) (hvs : vals.size = 5) (hsz : n * 5 ≤ cs.size) :
    InsEnd gs n i cs vals w (.returned (.slice (some ⟨N, 0, none⟩) (n + 1) G)) ((W1.setCells N (i * 5) vals.toList).drew.setCells N ((i + 1) * 5) ((cs.toList.drop (i * 5)).take ((n - i) * 5))) := by
  obtain ⟨c1, e1, e2, e3, e4⟩ := blk_setCells vals.toList (i * 5) W1 ROW hR
  obtain ⟨c2, f1, f2, f3, f4⟩ := blk_setCells ((cs.toList.drop (i * 5)).take ((n - i) * 5)) ((i + 1) * 5) (W1.setCells N (i * 5) vals.toList).drew c1 e1.drew
  have g1 := grown_setCells (g := N) vals.toList (i * 5) W1
  have g2 := grown_setCells (g := N) ((cs.toList.drop (i * 5)).take ((n - i) * 5)) ((i + 1) * 5) (W1.setCells N (i * 5) vals.toList).drew
  have hrl : ((cs.toList.drop (i * 5)).take ((n - i) * 5)).length = (n - i) * 5 := by rw [List.length_take, List.length_drop, Array.length_toList]; omega
  rw [Array.length_toList, hvs] at e3 e4
  rw [hrl] at f3 f4
  refine ⟨N, G, c2, by rw [Int.toNat_natCast], ⟨g2.os.trans (g1.os.trans hW.os), g2.tape.trans (g1.tape.trans hW.tape), g2.output.trans (g1.output.trans hW.output), Nat.le_trans hW.size (Nat.le_trans g1.size g2.size), fun q hq _ => ?_⟩, .inr hN, f1, by omega, hG, fun q hq => ?_, fun q hq => ?_, fun q hq1 hq2 => ?_⟩
  · have hqn : some q ≠ some N := fun e => by injection e; omega
    have h1 : q < W1.heap.size := Nat.lt_of_lt_of_le hq hW.size
    exact (g2.block q (Nat.lt_of_lt_of_le h1 g1.size) hqn).trans ((g1.block q h1 hqn).trans (hW.block q hq))
  · rw [f4 q (.inl (by omega)), e4 q (.inl hq), hROW q hq]
  · rw [f4 (i * 5 + q) (.inl (by omega)), e3 q hq (by omega), Array.getElem?_toList]
  · rw [show 5 + q = (i + 1) * 5 + (q - i * 5) by omega, f3 (q - i * 5) (by omega) (by omega)]
    rw [List.getElem?_take, if_pos (by omega), List.getElem?_drop, Array.getElem?_toList]
    congr 1
    omega
set_option maxRecDepth 100000 in
set_option maxHeartbeats 4000000 in
theorem insert_grow (hB : Blk w gs 25 cs) (hsz : cs.size = n * 5) (hV : Blk w vb 25 vals) (hvs : vals.size = 5) (hi : i < n) (hnb : n ≤ 100000) (h1 : ∀ q v, q < n * 5 → cs[q]? = some v → v.oneCell' = true) (h1v : ∀ v ∈ vals.toList, v.oneCell' = true) :
    Calls Try.prog 97 #[.slice (some ⟨gs, 0, none⟩) n n, .int .i64 i, .slice (some ⟨vb, 0, none⟩) 1 1] w (InsEnd gs n i cs vals w) := by
  obtain ⟨i0, hinf, hz0, hz1, hz2⟩ := info_parts infoPStep
  obtain ⟨rest, hrest⟩ : ∃ rest, rest = (cs.toList.drop (i * 5)).take ((n - i) * 5) := ⟨_, rfl⟩
  have hrl : rest.length = (n - i) * 5 := by rw [hrest, List.length_take, List.length_drop, Array.length_toList]; omega
  have hrg : ∀ j v, rest[j]? = some v → cs[i * 5 + j]? = some v ∧ j < (n - i) * 5 := fun j v hj => by
    rw [hrest, List.getElem?_take] at hj
    split at hj
    · exact ⟨by rwa [List.getElem?_drop, Array.getElem?_toList] at hj, by assumption⟩
    · cases hj
  have hr1 : ∀ v ∈ rest, v.oneCell' = true := fun v hv => by
    obtain ⟨j, hj⟩ := List.getElem?_of_mem hv
    obtain ⟨h2, h3⟩ := hrg j v hj
    exact h1 _ v (by omega) h2
  obtain ⟨olds, holds⟩ : ∃ olds, olds = cs.toList.take (i * 5) := ⟨_, rfl⟩
  have hol : olds.length = i * 5 := by rw [holds, List.length_take, Array.length_toList]; omega
  have hold : (Builtin.firstCells i0.size i (.slice (some ⟨gs, 0, none⟩) i n)).run Try.prog w.drew = .ok olds.toArray w.drew := by
    rw [hz1]
    exact run_firstCells_some w.drew 5 i ⟨gs, 0, none⟩ i n olds hol (fun j v hj => by
      rw [addr_add, Nat.zero_add]
      rw [holds, List.getElem?_take] at hj
      split at hj
      · exact (hB.cell j).trans (by rw [← Array.getElem?_toList]; exact hj)
      · cases hj)
  have hkk : (n : Int) + 1 - (i : Int) = ((n + 1 - i : Nat) : Int) := by omega
  have hik : i + (n + 1 - i) = n + 1 := by omega
  obtain ⟨z, hz⟩ : ∃ z, z = Value.agg #[.string ⟨#[]⟩, .slice none 0 0, .int .i64 0, .string ⟨#[]⟩, .int .i64 0] := ⟨_, rfl⟩
  have hzc : z.cells.size = 5 := by rw [hz]; kernel_rfl
  rw [← hz] at hz0
  obtain ⟨G, hG⟩ : ∃ G, G = grownCap w (n + 1) n 25 := ⟨_, rfl⟩
  obtain ⟨ROW, hROW⟩ : ∃ ROW : Array Value, ROW = olds.toArray ++ Builtin.zeroCells z.cells (n + 1 - i) ++ Builtin.zeroCells z.cells (G - (n + 1)) := ⟨_, rfl⟩
  have hrz : ∀ ty, (Builtin.append_ #[26, 3] ty #[.slice (some ⟨gs, 0, none⟩) i n, .int .i64 ((n : Int) + 1 - (i : Int))]).run Try.prog w =
      .ok (.slice (some ⟨w.heap.size, 0, none⟩) (n + 1) G) (w.drew.alloc (.cells ROW 25)) := fun ty => by
    have h := Lib.run_append_grow_zeros w 26 3 ty 25 i0 z .i64 .i64 Try.underlying26 Try.underlying3 hinf hz0 (some ⟨gs, 0, none⟩) i n olds hold (n + 1 - i) (by omega) (by omega) (by omega) (by omega) (by rw [hz2]; omega) (by rw [hz2, hik]; exact growslice_fits (by omega) (by omega))
    rw [hik, ← hG, ← hROW] at h
    rw [hkk]
    exact h
  have hGn : n + 1 ≤ G := by rw [hG]; exact grownCap_ge w _ _ _
  have hG63 : G ≤ 9223372036854775807 := by
    have := grownCap_le_maxLen w (n + 1) n 25 (by unfold maxLen; omega)
    rw [← hG] at this
    unfold maxLen at this
    omega
  have hRs : ROW.size = G * 5 := by
    rw [hROW]
    simp only [Array.size_append, List.size_toArray, hol, Builtin.zeroCells, Array.size_map, Array.size_range, hzc]
    omega
  have hR0 : ∀ q, q < i * 5 → ROW[q]? = cs[q]? := fun q hq => by
    rw [hROW, Array.append_assoc, Array.getElem?_append_left (by rw [List.size_toArray]; omega), List.getElem?_toArray, holds, List.getElem?_take, if_pos hq, Array.getElem?_toList]
  obtain ⟨W1, hW1⟩ : ∃ W1, W1 = w.drew.alloc (.cells ROW 25) := ⟨_, rfl⟩
  have hWB : Below w.heap.size w W1 := by rw [hW1]; exact (Below.refl _ w).drew.alloc (Nat.le_refl _) _
  have hWR : Blk W1 w.heap.size 25 ROW := by rw [hW1]; exact Blk.new w.drew _ _
  have hgw := hB.lt
  have hvw := hV.lt
  have hB1 := hB.below hWB hgw
  have hV1 := hV.below hWB hvw
  have HEND := Lib.hid (ins_new gs n i cs vals w w.heap.size G ROW W1 hWB (Nat.le_refl _) hWR hRs hGn hR0 hi hvs (by omega))
  rw [← hrest] at HEND
  have hcpA : ∀ W : World, W.heap = W1.heap → ∀ ty dc, (Builtin.copy_ #[26, 26] ty #[.slice (some ⟨w.heap.size, i * 5, none⟩) (n + 1 - i) dc, .slice (some ⟨vb, 0, none⟩) 1 1]).run Try.prog W = .ok (goInt 1) (W.setCells w.heap.size (i * 5) vals.toList) := fun W hW ty dc =>
    run_copy_steps W ty w.heap.size (i * 5) (n + 1 - i) dc 1 ⟨vb, 0, none⟩ 1 1 vals.toList (by simp only [Nat.min_def]; split <;> omega) (by rw [Array.length_toList, hvs])
      (fun j v hj => by
        have hVW : Blk W vb 25 vals := by unfold Blk; rw [hW]; exact hV1
        rw [addr_add, hVW.cell, Nat.zero_add, ← Array.getElem?_toList]; exact hj)
      (fun j hj => by
        have hRW : Blk W w.heap.size 25 ROW := by unfold Blk; rw [hW]; exact hWR
        rw [hRW.cell, Array.getElem?_eq_getElem (by rw [Array.length_toList] at hj; omega)]; rfl)
      (fun j _ => by
        have hRW : Blk W w.heap.size 25 ROW := by unfold Blk; rw [hW]; exact hWR
        exact hRW.frozen _) h1v
  obtain ⟨c1, e1, e2, e3, e4⟩ := blk_setCells vals.toList (i * 5) W1 ROW hWR
  have hB2 : Blk (W1.setCells w.heap.size (i * 5) vals.toList) gs 25 cs := hB1.grown (grown_setCells vals.toList (i * 5) W1) (fun e => by injection e; omega)
  have hcpB : ∀ W : World, W.heap = (W1.setCells w.heap.size (i * 5) vals.toList).heap → ∀ ty dc sc, (Builtin.copy_ #[26, 26] ty #[.slice (some ⟨w.heap.size, (i + 1) * 5, none⟩) (n + 1 - (i + 1)) dc, .slice (some ⟨gs, i * 5, none⟩) (n - i) sc]).run Try.prog W = .ok (goInt ((n - i : Nat) : Int)) (W.setCells w.heap.size ((i + 1) * 5) rest) := fun W hW ty dc sc =>
    run_copy_steps W ty w.heap.size ((i + 1) * 5) (n + 1 - (i + 1)) dc (n - i) ⟨gs, i * 5, none⟩ (n - i) sc rest (by simp only [Nat.min_def]; split <;> omega) hrl
      (fun j v hj => by
        have hVW : Blk W gs 25 cs := by unfold Blk; rw [hW]; exact hB2
        rw [addr_add, hVW.cell]; exact (hrg j v hj).1)
      (fun j hj => by
        have hRW : Blk W w.heap.size 25 c1 := by unfold Blk; rw [hW]; exact e1
        rw [hRW.cell, Array.getElem?_eq_getElem (by omega)]; rfl)
      (fun j _ => by
        have hRW : Blk W w.heap.size 25 c1 := by unfold Blk; rw [hW]; exact e1
        exact hRW.frozen _) hr1
  have q0 : ¬ ((i : Int) = (n : Int)) := by omega
  have q1 : IntKind.i64.wrap ((i : Int) + 1) = (i : Int) + 1 := by rw [IntKind.wrap_i64]; omega
  have q2 : (0 : Int) ≤ (i : Int) + 1 := by omega
  have q3 : i ≤ n := by omega
  have q4 : ((i : Int) + 1).toNat = i + 1 := by omega
  have q5 : ¬ (G = i + 1) := by omega
  have q6 : (i : Int) ≤ (n : Int) + 1 := by omega
  have q7 : ¬ (G = i) := by omega
  have q8 : (n : Int) < (n : Int) + 1 := by omega
  have q9 : (i : Int) ≤ (n : Int) := by omega
  have qa : ¬ (n = i) := by omega
  subst hW1
  have hE1 : ((w.alloc (.cells ROW 25)).drew).heap = (w.drew.alloc (.cells ROW 25)).heap := rfl
  have hE2 : (((w.alloc (.cells ROW 25)).drew.setCells w.heap.size (i * 5) vals.toList).drew).heap = ((w.drew.alloc (.cells ROW 25)).setCells w.heap.size (i * 5) vals.toList).heap := rfl
  clear hB hV h1 h1v hr1 hrg e1 e2 e3 e4 hrest hrl hold holds hol hkk hik hROW hG hRs hR0 hWB hWR hB1 hV1 hB2 hz0 hz1 hz2 hinf hz hzc
  go_enter Try.func97, Try.ntmps97
  go_wp2_with (first
    | (at_builtin; refine Lib.wpList_append_run _ rfl _ _ _ _ rfl _ _ rfl rfl _ _ (hrz _) ?_)
    | (at_builtin; refine wpList_copy_eq rfl _ _ 26 26 rfl _ _ rfl rfl (hcpA _ hE1 _ _) ?_)
    | (at_builtin; refine wpList_copy_eq rfl _ _ 26 26 rfl _ _ rfl rfl (hcpB _ rfl _ _ _) ?_))
  go_region_law (refine step_copy_eq rfl _ _ 26 26 rfl (.slice (some ⟨w.heap.size, (i + 1) * 5, none⟩) (n + 1 - (i + 1)) (G - (i + 1))) (.slice (some ⟨gs, i * 5, none⟩) (n - i) (n - i)) (by simp [Act.eval, Act.put]) (by simp [Act.eval, Act.put]) (hcpB _ hE2 3 (G - (i + 1)) (n - i)) ?_)
  go_wp2
  go_ret
  exact HEND.out
end
end Go.Proofs.Ytniefnjcimempaa
