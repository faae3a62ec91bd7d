/- The editor of optimize in memory, with the rows of its steps' arguments its own and apart from each other. The walks of optimize's safe, safeBetween, replaceable (printed by gen_ozs.py). -/
import Derived.Test.YtamhdmkolfmmdaaGreatDoorsat
import Derived.Test.YtamhdmkolfmmdaaGreatDoorsal
import Derived.Test.YtamhdmkolfmmdaaGreatDoorsas
import Derived.Test.YtamhdmkolfmmdaaGreatDoorsaa
set_option linter.unusedVariables false
set_option linter.unusedSimpArgs false
namespace Go.Proofs.YtamhdmkolfmmdaaGreatDoor
open Go.RowKit
theorem y24 {P : Prop} (h : P := by
 have ho := h.own i s v hs hv
 have hil := (gH hs).1
 obtain ⟨q, c, cur, rfl, hnc, hbq, hB, hsz, ht, hre⟩ := ked ho (by omega)
 first
 | guard_hyp t108q0
   obtain ⟨hqg, hqs⟩ := h.apart hs hv rfl
 | have hqs := h.apart hs hv rfl
 rw [Nat.mul_one] at ht hsz
 have hcur : ∀ j, j < s.args.length → cur[j]? = (s.args.map (Value.int .i64))[j]? := fun j hj => by
  rw [← ht, List.getElem?_take, if_pos hj, Array.getElem?_toList]
 refine ⟨q, c, rfl, fun a ha => by rw [hB.cell, hcur k hk, List.getElem?_map, ha]; rfl, hB.frozen k, hbq, ?_⟩
 have hkeep : ∀ b, b ≠ q → (w.setCell ⟨q, k, none⟩ (.int .i64 x)).heap[b]? = w.heap[b]? := fun b hb => Below.heap_setCell w ⟨q, k, none⟩ _ b hb
 first
 | guard_hyp t108q0
   refine ⟨by rw [List.length_set]; exact h.ed.far (p := ⟨q, k, none⟩) (fun e => hqg e.symm) _, ?_, by rw [List.length_set]; exact h.len, fun j t u ht' hu => ?_, fun j t u ht' hu => ?_, h.dis, by rw [List.length_set]; exact h.le, by rw [List.length_set]; exact h.cap, h.hg, h.hgs⟩
 | refine ⟨?_, by rw [List.length_set]; exact h.len, fun j t u ht' hu => ?_, fun j t u ht' hu => ?_, h.dis, h.hgs⟩
 ·
  first
  | guard_hyp t108q0
    obtain ⟨cs, e1, e2, e3⟩ := h.blk
    exact ⟨cs, e1.far (p := ⟨q, k, none⟩) (fun e => hqs e.symm) _, e2, by rw [List.length_set]; exact e3⟩
  | obtain ⟨cs, e1⟩ := h.blk
    exact ⟨cs, e1.far (p := ⟨q, k, none⟩) (fun e => hqs e.symm) _⟩
 ·
  by_cases hij : i = j
  ·
   subst hij
   rw [List.getElem?_set_self hil] at ht'
   injection ht' with ht'
   subst ht'
   have := (h.cells i s u hs hu).same (hkeep gs (fun e => hqs e.symm))
   exact this
  ·
   rw [List.getElem?_set_ne hij] at ht'
   exact (h.cells j t u ht' hu).same (hkeep gs (fun e => hqs e.symm))
 ·
  by_cases hij : i = j
  ·
   subst hij
   rw [List.getElem?_set_self hil] at ht'
   injection ht' with ht'
   subst ht'
   obtain rfl : u = .slice (some ⟨q, 0, none⟩) s.args.length c := by rw [hv] at hu; injection hu with hu; exact hu.symm
   have hB2 := hB.set_ k (.int .i64 x)
   have := hre _ _ ((s.args.set k x).map (Value.int .i64)) hB2 (by rw [Array.size_setIfInBounds]) (by simp) (by
    rw [Nat.mul_one, Array.toList_setIfInBounds, List.take_set, ht, List.map_set])
   simpa using this
  ·
   rw [List.getElem?_set_ne hij] at ht'
   refine kaA (h.own j t u ht' hu) (fun b hb => hkeep b (fun e => ?_))
   rcases h.dis j i u _ (fun e => hij e.symm) hu hv with h0 | h0
   ·
    rw [hb] at h0; cases h0
   ·
    exact h0 (by rw [hb, e]; rfl)) : P := h
def CellsAt (w : World) (gs i : Nat) (s : St) (v : Value) : Prop :=
 w.cell? ⟨gs, i * 5, none⟩ = some (.string ⟨s.op.toArray⟩) ∧ w.cell? ⟨gs, i * 5 + 1, none⟩ = some v ∧ w.cell? ⟨gs, i * 5 + 2, none⟩ = some (.int .i64 s.num) ∧ w.cell? ⟨gs, i * 5 + 3, none⟩ = some (.string ⟨s.text.toArray⟩) ∧ w.cell? ⟨gs, i * 5 + 4, none⟩ = some (.int .i64 s.ty)
structure EdX (w : World) (base g gs cap : Nat) (l : List St) (vs : List Value) (V : Value) : Prop where
 ed : Blk w g 85 #[.slice (some ⟨gs, 0, none⟩) l.length cap, V]
 blk : ∃ cs, Blk w gs 77 cs ∧ cs.size = cap * 5 ∧ ∀ i v, i < l.length * 5 → cs[i]? = some v → v.oneCell' = true
 len : vs.length = l.length
 cells : ∀ (i : Nat) (s : St) (v : Value), l[i]? = some s → vs[i]? = some v → CellsAt w gs i s v
 own : ∀ (i : Nat) (s : St) (v : Value), l[i]? = some s → vs[i]? = some v → w.ownsRow base 3 1 v s.args.length (s.args.map (Value.int .i64))
 dis : ∀ (i j : Nat) (v v' : Value), i ≠ j → vs[i]? = some v → vs[j]? = some v' → v.ownBlock = none ∨ v.ownBlock ≠ v'.ownBlock
 le : l.length ≤ cap
 cap : l.length ≤ 100000
 hg : base ≤ g
 hgs : base ≤ gs
section
variable {w w' : World} {base g gs cap : Nat} {l : List St} {vs : List Value} {V : Value}
theorem EdX.gs_lt (h : EdX w base g gs cap l vs V) : gs < w.heap.size := by obtain ⟨cs, hb, _⟩ := h.blk; exact hb.lt
theorem EdX.ne (h : EdX w base g gs cap l vs V) : g ≠ gs := by obtain ⟨cs, hb, _⟩ := h.blk; exact h.ed.ne_ hb (by decide)
theorem EdX.apart (h : EdX w base g gs cap l vs V) {i : Nat} {s : St} {v : Value} (hs : l[i]? = some s) (hv : vs[i]? = some v) {q : Nat} (hq : v.ownBlock = some q) : q ≠ g ∧ q ≠ gs := by
 have ho := h.own i s v hs hv
 obtain ⟨cs, hb, _⟩ := h.blk
 refine ⟨fun e => ?_, fun e => ?_⟩
 ·
  exact kan ho h.ed (by decide) (by rw [hq, e])
 ·
  exact kan ho hb (by decide) (by rw [hq, e])
theorem EdX.at_ (h : EdX w base g gs cap l vs V) {i : Nat} {s : St} (hs : l[i]? = some s) : ∃ v, vs[i]? = some v ∧ CellsAt w gs i s v ∧ w.ownsRow base 3 1 v s.args.length (s.args.map (Value.int .i64)) := by
 have hi := (gH hs).1
 have hv : vs[i]? = some (vs[i]'(by rw [h.len]; exact hi)) := List.getElem?_eq_getElem _
 exact ⟨_, hv, h.cells i s _ hs hv, h.own i s _ hs hv⟩
theorem CellsAt.same {i : Nat} {s : St} {v : Value} (h : CellsAt w gs i s v) (hk : w'.heap[gs]? = w.heap[gs]?) : CellsAt w' gs i s v := by
 obtain ⟨x0, x1, x2, x3, x4⟩ := h
 have hc : ∀ j, w'.cell? ⟨gs, j, none⟩ = w.cell? ⟨gs, j, none⟩ := fun j => World.cell?_of_block hk
 exact ⟨(hc _).trans x0, (hc _).trans x1, (hc _).trans x2, (hc _).trans x3, (hc _).trans x4⟩
theorem EdX.below (h : EdX w base g gs cap l vs V) (hb : Below w.heap.size w w') : EdX w' base g gs cap l vs V :=
 ⟨h.ed.below hb h.ed.lt, by obtain ⟨cs, e1, e2⟩ := h.blk; exact ⟨cs, e1.below hb e1.lt, e2⟩, h.len, fun i s v hs hv => (h.cells i s v hs hv).same (hb.block gs h.gs_lt), fun i s v hs hv => kay (h.own i s v hs hv) hb, h.dis, h.le, h.cap, h.hg, h.hgs⟩
theorem EdX.edAt (h : EdX w base g gs cap l vs V) : EdAt w g gs cap l V := by
 refine ⟨h.ed, fun i s hs => ?_, h.blk, h.le, h.cap⟩
 obtain ⟨v, hv, ⟨x0, x1, x2, x3, x4⟩, ho⟩ := h.at_ hs
 obtain ⟨A, c, rfl⟩ := kak ho
 refine ⟨A, c, x0, x1, x2, x3, x4, by simp, fun hn => ?_⟩
 obtain ⟨q, c', hvq, _, _, hql, hc⟩ := ka8 ho hn
 injection hvq with hA
 subst hA
 exact ⟨q, 0, rfl, h.apart hs hv rfl, hql, fun j u hj => by rw [Nat.zero_add]; exact hc j u hj⟩
theorem EdX.setArg (h : EdX w base g gs cap l vs V) {i k : Nat} {s : St} {v : Value} (hs : l[i]? = some s) (hv : vs[i]? = some v) (hk : k < s.args.length) (x : Int) : ∃ q c, v = .slice (some ⟨q, 0, none⟩) s.args.length c ∧ (∀ a, s.args[k]? = some a → w.cell? ⟨q, k, none⟩ = some (.int .i64 a)) ∧ w.frozen? ⟨q, k, none⟩ = false ∧ base ≤ q ∧
  EdX (w.setCell ⟨q, k, none⟩ (.int .i64 x)) base g gs cap (l.set i { s with args := s.args.set k x }) vs V := by
 have t108q0 := True.intro
 exact y24
end
structure FrX (base : Nat) (w w' : World) : Prop where
 bel : Below base w w'
 str : ∀ b cs, Blk w b 9 cs → Blk w' b 9 cs
theorem FrX.refl (base : Nat) (w : World) : FrX base w w := ⟨Below.refl _ _, fun _ _ h => h⟩
theorem FrX.trans {base : Nat} {a b c : World} (h : FrX base a b) (k : FrX base b c) : FrX base a c := ⟨h.bel.trans k.bel, fun q cs hq => k.str q cs (h.str q cs hq)⟩
theorem FrX.below {base : Nat} {a b c : World} (h : FrX base a b) (k : Below b.heap.size b c) (hB : base ≤ b.heap.size) : FrX base a c := ⟨h.bel.trans (k.mono hB), fun q cs hq => (h.str q cs hq).below k (h.str q cs hq).lt⟩
theorem FrX.setCell {base : Nat} {a b : World} (h : FrX base a b) {p : Addr} (hp : base ≤ p.block) {t : TypeId} {cur : Array Value} (hb : Blk b p.block t cur) (ht : t ≠ 9) (u : Value) : FrX base a (b.setCell p u) :=
 ⟨h.bel.setCell hp u, fun q cs hq => (h.str q cs hq).far (p := p) (fun e => (h.str q cs hq).ne_ hb (fun e => ht e.symm) e) u⟩
theorem FrX.grown {base g : Nat} {a b : World} (hg : a.grownBy b (some g)) (hB : base ≤ a.heap.size) (hbg : base ≤ g) {t : TypeId} {cur : Array Value} (hb : Blk a g t cur) (ht : t ≠ 9) : FrX base a b :=
 ⟨⟨hg.os, hg.tape, hg.output, hg.size, fun i hi => hg.block i (Nat.lt_of_lt_of_le hi hB) (fun e => by injection e with e; omega)⟩, fun q cs hq => hq.grown hg (fun e => by injection e with e; exact hq.ne_ hb (fun e => ht e.symm) e)⟩
theorem EdX.erase {w w1 w2 : World} {base g gs cap i n : Nat} {l : List St} {vs : List Value} {V : Value} (h : EdX w base g gs cap l vs V) (hn : n + 1 = l.length) (hi : i < n) (hg1 : w.grownBy w1 (some gs)) (cs' : Array Value) (hb1 : Blk w1 gs 77 cs')
  (hsz : ∀ cs, Blk w gs 77 cs → cs'.size = cs.size ∧ (∀ q, q < i * 5 → cs'[q]? = cs[q]?) ∧ (∀ q, i * 5 ≤ q → q < n * 5 → cs'[q]? = cs[5 + q]?)) (he : w2 = w1.setCell ⟨g, 0, none⟩ (.slice (some ⟨gs, 0, none⟩) n cap)) : EdX w2 base g gs cap (l.eraseIdx i) (vs.eraseIdx i) V ∧ FrX base w w2 := by
 subst he
 obtain ⟨cs, e1, e2, e3⟩ := h.blk
 obtain ⟨z1, z2, z3⟩ := hsz cs e1
 have hne := h.ne
 have hle := h.le
 have hcap := h.cap
 have hvl := h.len
 have hE1 : Blk w1 g 85 #[.slice (some ⟨gs, 0, none⟩) l.length cap, V] := h.ed.grown hg1 (fun e => hne (by injection e))
 have hlen : (l.eraseIdx i).length = n := by rw [List.length_eraseIdx]; split <;> omega
 have hgs : (w1.setCell ⟨g, 0, none⟩ (.slice (some ⟨gs, 0, none⟩) n cap)).heap[gs]? = w1.heap[gs]? := Below.heap_setCell w1 ⟨g, 0, none⟩ _ gs (fun e => hne e.symm)
 have hidx : ∀ j s v, (l.eraseIdx i)[j]? = some s → (vs.eraseIdx i)[j]? = some v → j < n ∧ ∃ j', l[j']? = some s ∧ vs[j']? = some v ∧ (j < i ∧ j' = j ∨ i ≤ j ∧ j' = j + 1) := fun j s v hs hv => by
  have hjl := (gH hs).1
  rw [hlen] at hjl
  rw [List.getElem?_eraseIdx] at hs hv
  by_cases hji : j < i
  ·
   rw [if_pos hji] at hs hv
   exact ⟨hjl, j, hs, hv, .inl ⟨hji, rfl⟩⟩
  ·
   rw [if_neg hji] at hs hv
   exact ⟨hjl, j + 1, hs, hv, .inr ⟨by omega, rfl⟩⟩
 refine ⟨⟨by rw [hlen]; exact hE1.set_ 0 _, ⟨cs', hb1.far (p := ⟨g, 0, none⟩) (fun e => hne e.symm) _, z1.trans e2, fun q v hq hv => ?_⟩, by rw [List.length_eraseIdx, List.length_eraseIdx, hvl], fun j s v hs hv => ?_, fun j s v hs hv => ?_, fun a b v v' hab hv hv' => ?_, by rw [hlen]; omega, by rw [hlen]; omega, h.hg, h.hgs⟩, ?_⟩
 ·
  rw [hlen] at hq
  by_cases hqi : q < i * 5
  ·
   exact e3 q v (by omega) (by rw [← z2 q hqi]; exact hv)
  ·
   exact e3 (5 + q) v (by omega) (by rw [← z3 q (by omega) hq]; exact hv)
 ·
  obtain ⟨hjn, j', hs', hv', hc⟩ := hidx j s v hs hv
  obtain ⟨x0, x1, x2, x3, x4⟩ := h.cells j' s v hs' hv'
  have hcc : ∀ k, k < 5 → (w1.setCell ⟨g, 0, none⟩ (.slice (some ⟨gs, 0, none⟩) n cap)).cell? ⟨gs, j * 5 + k, none⟩ = w.cell? ⟨gs, j' * 5 + k, none⟩ := fun k hk => by
   rw [World.cell?_of_block (a := ⟨gs, j * 5 + k, none⟩) hgs, hb1.cell, e1.cell]
   rcases hc with ⟨h1, rfl⟩ | ⟨h1, rfl⟩
   ·
    exact z2 _ (by omega)
   ·
    rw [z3 _ (by omega) (by omega), show 5 + (j * 5 + k) = (j + 1) * 5 + k by omega]
  exact ⟨(hcc 0 (by omega)).trans x0, (hcc 1 (by omega)).trans x1, (hcc 2 (by omega)).trans x2, (hcc 3 (by omega)).trans x3, (hcc 4 (by omega)).trans x4⟩
 ·
  obtain ⟨_, j', hs', hv', _⟩ := hidx j s v hs hv
  refine kaA (h.own j' s v hs' hv') (fun b hb => ?_)
  obtain ⟨hq1, hq2⟩ := h.apart hs' hv' hb
  exact (Below.heap_setCell w1 ⟨g, 0, none⟩ _ b hq1).trans (hg1.block b (kbO (h.own j' s v hs' hv') b hb) (fun e => hq2 (by injection e)))
 ·
  have hget : ∀ j v, (vs.eraseIdx i)[j]? = some v → ∃ j', vs[j']? = some v ∧ (j < i ∧ j' = j ∨ i ≤ j ∧ j' = j + 1) := fun j v hv => by
   rw [List.getElem?_eraseIdx] at hv
   by_cases hji : j < i
   ·
    rw [if_pos hji] at hv
    exact ⟨j, hv, .inl ⟨hji, rfl⟩⟩
   ·
    rw [if_neg hji] at hv
    exact ⟨j + 1, hv, .inr ⟨by omega, rfl⟩⟩
  obtain ⟨a', ha, hca⟩ := hget a v hv
  obtain ⟨b', hb, hcb⟩ := hget b v' hv'
  exact h.dis a' b' v v' (by omega) ha hb
 ·
  exact (FrX.grown hg1 (Nat.le_trans h.hgs (Nat.le_of_lt e1.lt)) h.hgs e1 (by decide)).setCell (p := ⟨g, 0, none⟩) h.hg hE1 (by decide) _
set_option maxRecDepth 100000
set_option maxHeartbeats 4000000
theorem y27 {P : Prop} (h : P := by
 simp only [List.mem_cons, List.not_mem_nil, or_false, not_or] at hop
 obtain ⟨n0, n1, n2, n3, n4, n5, n6, n7, n8, n9, n10, n11, n12, n13, n14⟩ := hop
 have e0 : (op == [110, 117, 109, 98, 101, 114]) = false := beq_eq_false_iff_ne.2 h0
 have e1 : (op == [115, 116, 114, 105, 110, 103]) = false := beq_eq_false_iff_ne.2 h1
 have m0 : (op == [108, 101, 110]) = false := beq_eq_false_iff_ne.2 n0
 have m1 : (op == [115, 105, 122, 101]) = false := beq_eq_false_iff_ne.2 n1
 have m2 : (op == [99, 111, 109, 109, 111, 110]) = false := beq_eq_false_iff_ne.2 n2
 have m3 : (op == [109, 105, 110]) = false := beq_eq_false_iff_ne.2 n3
 have m4 : (op == [109, 97, 120]) = false := beq_eq_false_iff_ne.2 n4
 have m5 : (op == [61, 61]) = false := beq_eq_false_iff_ne.2 n5
 have m6 : (op == [33, 61]) = false := beq_eq_false_iff_ne.2 n6
 have m7 : (op == [60]) = false := beq_eq_false_iff_ne.2 n7
 have m8 : (op == [60, 61]) = false := beq_eq_false_iff_ne.2 n8
 have m9 : (op == [97, 110, 100]) = false := beq_eq_false_iff_ne.2 n9
 have m10 : (op == [111, 114]) = false := beq_eq_false_iff_ne.2 n10
 have m11 : (op == [110, 111, 116]) = false := beq_eq_false_iff_ne.2 n11
 have m12 : (op == [119, 105, 116, 104, 105, 110]) = false := beq_eq_false_iff_ne.2 n12
 have m13 : (op == [111, 118, 101, 114]) = false := beq_eq_false_iff_ne.2 n13
 have m14 : (op == [109, 105, 110, 117, 115]) = false := beq_eq_false_iff_ne.2 n14
 clear h0 h1 n0 n1 n2 n3 n4 n5 n6 n7 n8 n9 n10 n11 n12 n13 n14
 first
 | guard_hyp t131q0
   go_enter Tryz.func122, Tryz.ntmps122
 | go_enter Tryz.func152, Tryz.ntmps152
 go_wp2_with fail
 go_ret
 exact ⟨rfl, (Below.refl _ _).alloc (Nat.le_refl _) _⟩) : P := h
theorem y33 {P : Prop} (h : P := by
 obtain ⟨op, args, num, text, ty⟩ := s
 unfold Oz.safeR
 dsimp only
 by_cases h0 : op = kab
 ·
  rw [if_pos h0]
  subst h0
  first
  | guard_hyp t170q0
    exact khB A n c num ty text w
  | exact kiw A n c num ty text w
 rw [if_neg h0]
 by_cases h1 : op = kai
 ·
  rw [if_pos h1]
  subst h1
  first
  | guard_hyp t170q0
    exact khA A n c num ty text w
  | exact kiv A n c num ty text w
 rw [if_neg h1]
 by_cases h2 : op ∈ ([[108, 101, 110], [115, 105, 122, 101], [99, 111, 109, 109, 111, 110], [109, 105, 110], [109, 97, 120], [61, 61], [33, 61], [60], [60, 61], [97, 110, 100], [111, 114], [110, 111, 116], [119, 105, 116, 104, 105, 110], [111, 118, 101, 114], [109, 105, 110, 117, 115]] : List (List UInt8))
 ·
  have hd : decide (op ∈ [Oz.oLen, Oz.oSize, Oz.oCommon, Oz.oMin, Oz.oMax, Oz.oEq, Oz.oNe, Oz.oLt, Oz.oLe, Oz.oAnd, Oz.oOr, Oz.oNot, Oz.oWithin, Oz.oOver, Oz.oMinus]) = true := decide_eq_true h2
  rw [hd]
  first
  | guard_hyp t170q0
    exact kiz op h2 A n c num ty text w
  | exact kke op h2 A n c num ty text w
 ·
  have hd : decide (op ∈ [Oz.oLen, Oz.oSize, Oz.oCommon, Oz.oMin, Oz.oMax, Oz.oEq, Oz.oNe, Oz.oLt, Oz.oLe, Oz.oAnd, Oz.oOr, Oz.oNot, Oz.oWithin, Oz.oOver, Oz.oMinus]) = false := decide_eq_false h2
  rw [hd]
  first
  | guard_hyp t170q0
    exact kiy op h0 h1 h2 A n c num ty text w
  | exact kkd op h0 h1 h2 A n c num ty text w) : P := h
theorem kiw (A : Option Addr) (n c : Nat) (num ty : Int) (text : List UInt8) (w : World) : Calls Tryz.prog 122 #[.agg #[.string ⟨#[110, 117, 109, 98, 101, 114]⟩, .slice A n c, .int .i64 num, .string ⟨text.toArray⟩, .int .i64 ty]] w fun e w' => e = .returned (.bool (decide (num ≤ Oz.maxLn))) ∧ Below w.heap.size w w' := by
 by_cases h : num ≤ 1152921504606846976
 ·
  have hr : decide (num ≤ Oz.maxLn) = true := decide_eq_true h
  rw [hr]
  clear hr
  go_enter Tryz.func122, Tryz.ntmps122
  go_wp2_with fail
  go_ret
  exact ⟨rfl, (Below.refl _ _).alloc (Nat.le_refl _) _⟩
 ·
  have hr : decide (num ≤ Oz.maxLn) = false := decide_eq_false h
  rw [hr]
  clear hr
  go_enter Tryz.func122, Tryz.ntmps122
  go_wp2_with fail
  go_ret
  exact ⟨rfl, (Below.refl _ _).alloc (Nat.le_refl _) _⟩
theorem kiv (A : Option Addr) (n c : Nat) (num ty : Int) (text : List UInt8) (w : World) : Calls Tryz.prog 122 #[.agg #[.string ⟨#[115, 116, 114, 105, 110, 103]⟩, .slice A n c, .int .i64 num, .string ⟨text.toArray⟩, .int .i64 ty]] w fun e w' => e = .returned (.bool (decide (text.length ≤ 65536))) ∧ Below w.heap.size w w' := by
 by_cases h : text.length ≤ 65536
 ·
  rw [decide_eq_true h]
  have q0 : (text.length : Int) ≤ 65536 := by omega
  clear h
  go_enter Tryz.func122, Tryz.ntmps122
  go_wp2_with fail
  go_ret
  exact ⟨rfl, (Below.refl _ _).alloc (Nat.le_refl _) _⟩
 ·
  rw [decide_eq_false h]
  have q0 : ¬ ((text.length : Int) ≤ 65536) := by omega
  clear h
  go_enter Tryz.func122, Tryz.ntmps122
  go_wp2_with fail
  go_ret
  exact ⟨rfl, (Below.refl _ _).alloc (Nat.le_refl _) _⟩
theorem kke (op : List UInt8) (hop : op ∈ ([[108, 101, 110], [115, 105, 122, 101], [99, 111, 109, 109, 111, 110], [109, 105, 110], [109, 97, 120], [61, 61], [33, 61], [60], [60, 61], [97, 110, 100], [111, 114], [110, 111, 116], [119, 105, 116, 104, 105, 110], [111, 118, 101, 114], [109, 105, 110, 117, 115]] : List (List UInt8))) (A : Option Addr) (n c : Nat) (num ty : Int) (text : List UInt8) (w : World) : Calls Tryz.prog 122 #[.agg #[.string ⟨op.toArray⟩, .slice A n c, .int .i64 num, .string ⟨text.toArray⟩, .int .i64 ty]] w fun e w' => e = .returned (.bool true) ∧ Below w.heap.size w w' := by
 simp only [List.mem_cons, List.not_mem_nil, or_false] at hop
 rcases hop with rfl | rfl | rfl | rfl | rfl | rfl | rfl | rfl | rfl | rfl | rfl | rfl | rfl | rfl | rfl
 all_goals
  go_enter Tryz.func122, Tryz.ntmps122
  go_wp2_with fail
  go_ret
  exact ⟨rfl, (Below.refl _ _).alloc (Nat.le_refl _) _⟩
theorem kkd (op : List UInt8) (h0 : op ≠ kab) (h1 : op ≠ kai) (hop : ¬ op ∈ ([[108, 101, 110], [115, 105, 122, 101], [99, 111, 109, 109, 111, 110], [109, 105, 110], [109, 97, 120], [61, 61], [33, 61], [60], [60, 61], [97, 110, 100], [111, 114], [110, 111, 116], [119, 105, 116, 104, 105, 110], [111, 118, 101, 114], [109, 105, 110, 117, 115]] : List (List UInt8))) (A : Option Addr) (n c : Nat) (num ty : Int) (text : List UInt8) (w : World) : Calls Tryz.prog 122 #[.agg #[.string ⟨op.toArray⟩, .slice A n c, .int .i64 num, .string ⟨text.toArray⟩, .int .i64 ty]] w fun e w' => e = .returned (.bool false) ∧ Below w.heap.size w w' := by
 have t131q0 := True.intro
 exact y27
theorem khz (s : St) (A : Option Addr) (n c : Nat) (w : World) : Calls Tryz.prog 122 #[.agg #[.string ⟨s.op.toArray⟩, .slice A n c, .int .i64 s.num, .string ⟨s.text.toArray⟩, .int .i64 s.ty]] w fun e w' => e = .returned (.bool (Oz.safeR s)) ∧ Below w.heap.size w w' := by
 exact y33
theorem kec {l : List St} {j i : Nat} (h : ∀ q s, j < q → q < i → l[q]? = some s → Oz.safeR s = true) : Oz.safeB l j i = true := by
 unfold Oz.safeB
 rw [List.all_eq_true]
 intro s hs
 obtain ⟨q, hq⟩ := List.getElem?_of_mem hs
 rw [List.getElem?_drop, List.getElem?_take] at hq
 split at hq
 ·
  exact h (j + 1 + q) s (by omega) (by assumption) hq
 ·
  cases hq
theorem kfb {l : List St} {j i q : Nat} {s : St} (h1 : j < q) (h2 : q < i) (hs : l[q]? = some s) (h : Oz.safeR s = false) : Oz.safeB l j i = false := by
 cases hb : Oz.safeB l j i with
 | false => rfl
 | true =>
  unfold Oz.safeB at hb
  rw [List.all_eq_true] at hb
  have hm : s ∈ (l.take i).drop (j + 1) := by
   refine List.mem_of_getElem? (i := q - (j + 1)) ?_
   rw [List.getElem?_drop, List.getElem?_take, if_pos (by omega), show j + 1 + (q - (j + 1)) = q by omega]
   exact hs
  rw [hb s hm] at h
  cases h
def SbRel (w : World) (l : List St) (j d f : Nat) (c : Value) (wr : World) : Prop := ∃ p : Nat, c = .int .i64 p ∧ p ≤ d ∧ d - p < f ∧ Hid (∀ q s, j < q → q < j + 1 + p → l[q]? = some s → Oz.safeR s = true) ∧ Hid (Below w.heap.size w wr)
theorem kdE (g gs cap : Nat) (l : List St) (V : Value) (w : World) (h : EdAt w g gs cap l V) (j i : Nat) (hji : j < i) (hil : i ≤ l.length) :
  Calls Tryz.prog 119 #[.pointer (some ⟨g, 0, none⟩), .int .i64 j, .int .i64 i] w fun e w' => e = .returned (.bool (Oz.safeB l j i)) ∧ Below w.heap.size w w' := by
 have hle := h.le
 have hcap := h.cap
 have x0 := h.ed.cell 0
 simp only [gA, gB] at x0
 obtain ⟨n, hn⟩ := xE l.length
 obtain ⟨d, hd⟩ := xE (i - (j + 1))
 rw [← hn] at x0
 have HH := hD h
 have HN := hD hn
 have HD : Hid (j + 1 + d = i) := hD (by omega)
 have HIL := hD hil
 have q0 : (j : Int) + 1 ≤ (i : Int) := by omega
 have q1 : (i : Int) ≤ (cap : Int) := by omega
 have q2 : (0 : Int) ≤ (j : Int) + 1 := by omega
 have q3 : i - (j + 1) = d := hd.symm
 have hjb : j ≤ 100000 := by omega
 have hdb : d ≤ 100000 := by omega
 have hgsl := h.gs_lt
 clear h hn hd hil hle
 by_cases q4 : cap = j + 1
 ·
  have hd0 : d = 0 := by have := HD.out; omega
  subst hd0
  have HRR := hD (show Oz.safeB l j i = true from kec (fun q s h1 h2 _ => by have := HD.out; omega))
  subst q4
  have q5 : j + 1 - (j + 1) = 0 := by omega
  go_enter Tryz.func119, Tryz.ntmps119
  go_wp2_with fail
  go_loopg [8, 18] 1 (fun f _ c wr => c = .int .i64 0 ∧ 0 < f ∧ Hid (Below w.heap.size w wr))
  case atStart => exact ⟨rfl, by omega, hD (Below.refl _ _)⟩
  case round =>
   obtain ⟨rfl, hf0, HB⟩ := hrel
   go_wp2_with fail
   go_ret
   rw [HRR.out]
   exact ⟨rfl, HB.out⟩
 ·
  go_enter Tryz.func119, Tryz.ntmps119
  go_wp2_with fail
  clear x0
  go_loopg [8, 18] (d + 1) (fun f _ c wr => SbRel w l j d f c wr)
  case atStart => exact ⟨0, rfl, by omega, by omega, hD (fun q s h1 h2 _ => by omega), hD (Below.refl _ _)⟩
  case round =>
   obtain ⟨p, rfl, hp, hpf, HS, HB⟩ := hrel
   obtain ⟨f, rfl⟩ : ∃ f, gk = f + 1 := ⟨gk - 1, by omega⟩
   by_cases hlt : p < d
   ·
    obtain ⟨s, hs⟩ : ∃ s, l[j + 1 + p]? = some s := ⟨l[j + 1 + p]'(by have := HD.out; have := HIL.out; omega), List.getElem?_eq_getElem _⟩
    obtain ⟨As, c, x0, x1, x2, x3, x4, _⟩ := HH.out.st _ s hs
    rw [show (j + 1 + p) * 5 = (j + 1) * 5 + p * 5 by omega] at x0 x1 x2 x3 x4
    have hgc := fun q => HB.out.cell (p := ⟨gs, q, none⟩) hgsl
    replace x0 := (hgc _).trans x0
    replace x1 := (hgc _).trans x1
    replace x2 := (hgc _).trans x2
    replace x3 := (hgc _).trans x3
    replace x4 := (hgc _).trans x4
    have p0 : (p : Int) < (d : Int) := by omega
    have p1 : (0 : Int) ≤ (p : Int) := by omega
    have HSS := hD hs
    have hzr := HB.out.size
    have HB3 := hD (fun o => HB.out.alloc hzr o)
    clear hs hgc HB
    go_wp2_with fail
    refine (khz s As s.args.length c _).mono ?_
    rintro e w2 ⟨rfl, hb2⟩
    have HB2 := hD ((HB3.out _).trans (hb2.mono (HB3.out _).size))
    clear hb2 HB3
    cases hsf : Oz.safeR s with
    | false =>
     have hR : Oz.safeB l j i = false := kfb (q := j + 1 + p) (by omega) (by have := HD.out; omega) HSS.out hsf
     have HRR := hD hR
     clear hR
     go_wp2_with fail
     go_ret
     rw [HRR.out]
     exact ⟨rfl, HB2.out⟩
    | true =>
     have HS2 : Hid (∀ q s, j < q → q < j + 1 + (p + 1) → l[q]? = some s → Oz.safeR s = true) := hD (fun q t h1 h2 ht => by
      by_cases hq : q < j + 1 + p
      ·
       exact HS.out q t h1 hq ht
      ·
       have : q = j + 1 + p := by omega
       subst this
       have := ht.symm.trans HSS.out
       injection this with this
       rw [this]
       exact hsf)
     go_wp2_with fail
     go_roundg f
     case measure => omega
     case rel => exact ⟨p + 1, by go_num, by omega, by omega, HS2, HB2⟩
   ·
    have hpd : p = d := by omega
    subst hpd
    have p0 : ¬ ((p : Int) < (p : Int)) := by omega
    have hR : Oz.safeB l j i = true := kec (fun q s h1 h2 hs => HS.out q s h1 (by have := HD.out; omega) hs)
    have HRR := hD hR
    clear hR
    go_wp2_with fail
    go_ret
    rw [HRR.out]
    exact ⟨rfl, HB.out⟩
end Go.Proofs.YtamhdmkolfmmdaaGreatDoor
