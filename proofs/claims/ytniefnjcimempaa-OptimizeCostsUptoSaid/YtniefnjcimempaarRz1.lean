/- The editor of optimize in memory, with the rows of its steps' arguments its own and apart from each other. The walks of optimize's safe, safeBetween, replaceable (printed by gen_ozs.py). The walk of optimize's remove at any step but the last. The walk of optimize's remove at any step but the last. The walks of optimize's replaceable and replace. The walk of optimize's replace. -/
import Derived.Test.YtniefnjcimempaarOrE
import Derived.Test.YtniefnjcimempaarRz0
import Derived.Test.YtniefnjcimempaarRzD
import Derived.Test.YtniefnjcimempaarRm
namespace Go.Proofs.Ytniefnjcimempaa
open Go.RowKit
def CellsAt (w : World) (gs i : Nat) (s : St) (v : Value) : Prop :=
  w.cell? ⟨gs, i * 5, none⟩ = some (.string ⟨s.op.toArray⟩) ∧ w.cell? ⟨gs, i * 5 + 1, none⟩ = some v ∧ w.cell? ⟨gs, i * 5 + 2, none⟩ = some (.int .i64 s.num) ∧ w.cell? ⟨gs, i * 5 + 3, none⟩ = some (.string ⟨s.text.toArray⟩) ∧ w.cell? ⟨gs, i * 5 + 4, none⟩ = some (.int .i64 s.ty)
structure EdX (w : World) (base g gs cap : Nat) (l : List St) (vs : List Value) (V : Value) : Prop where
  ed : Blk w g 83 #[.slice (some ⟨gs, 0, none⟩) l.length cap, V]
  blk : ∃ cs, Blk w gs 25 cs ∧ cs.size = cap * 5 ∧ ∀ i v, i < l.length * 5 → cs[i]? = some v → v.oneCell' = true
  len : vs.length = l.length
  cells : ∀ (i : Nat) (s : St) (v : Value), l[i]? = some s → vs[i]? = some v → CellsAt w gs i s v
  own : ∀ (i : Nat) (s : St) (v : Value), l[i]? = some s → vs[i]? = some v → w.ownsRow base 3 1 v s.args.length (s.args.map (Value.int .i64))
  dis : ∀ (i j : Nat) (v v' : Value), i ≠ j → vs[i]? = some v → vs[j]? = some v' → v.ownBlock = none ∨ v.ownBlock ≠ v'.ownBlock
  le : l.length ≤ cap
  cap : l.length ≤ 100000
  hg : base ≤ g
  hgs : base ≤ gs
section
variable {w w' : World} {base g gs cap : Nat} {l : List St} {vs : List Value} {V : Value}
theorem EdX.gs_lt (h : EdX w base g gs cap l vs V) : gs < w.heap.size := by obtain ⟨cs, hb, _⟩ := h.blk; exact hb.lt
theorem EdX.ne (h : EdX w base g gs cap l vs V) : g ≠ gs := by obtain ⟨cs, hb, _⟩ := h.blk; exact h.ed.ne_ hb (by decide)
theorem EdX.apart (h : EdX w base g gs cap l vs V) {i : Nat} {s : St} {v : Value} (hs : l[i]? = some s) (hv : vs[i]? = some v) {q : Nat} (hq : v.ownBlock = some q) : q ≠ g ∧ q ≠ gs := by
  have ho := h.own i s v hs hv
  obtain ⟨cs, hb, _⟩ := h.blk
  refine ⟨fun e => ?_, fun e => ?_⟩
  · exact own_blk_ne ho h.ed (by decide) (by rw [hq, e])
  · exact own_blk_ne ho hb (by decide) (by rw [hq, e])
theorem EdX.at_ (h : EdX w base g gs cap l vs V) {i : Nat} {s : St} (hs : l[i]? = some s) : ∃ v, vs[i]? = some v ∧ CellsAt w gs i s v ∧ w.ownsRow base 3 1 v s.args.length (s.args.map (Value.int .i64)) := by
  have hi := (List.getElem?_eq_some_iff.1 hs).1
  have hv : vs[i]? = some (vs[i]'(by rw [h.len]; exact hi)) := List.getElem?_eq_getElem _
  exact ⟨_, hv, h.cells i s _ hs hv, h.own i s _ hs hv⟩
theorem CellsAt.same {i : Nat} {s : St} {v : Value} (h : CellsAt w gs i s v) (hk : w'.heap[gs]? = w.heap[gs]?) : CellsAt w' gs i s v := by
  obtain ⟨x0, x1, x2, x3, x4⟩ := h
  have hc : ∀ j, w'.cell? ⟨gs, j, none⟩ = w.cell? ⟨gs, j, none⟩ := fun j => World.cell?_of_block hk
  exact ⟨(hc _).trans x0, (hc _).trans x1, (hc _).trans x2, (hc _).trans x3, (hc _).trans x4⟩
theorem EdX.below (h : EdX w base g gs cap l vs V) (hb : Below w.heap.size w w') : EdX w' base g gs cap l vs V :=
  ⟨h.ed.below hb h.ed.lt, by obtain ⟨cs, e1, e2⟩ := h.blk; exact ⟨cs, e1.below hb e1.lt, e2⟩, h.len, fun i s v hs hv => (h.cells i s v hs hv).same (hb.block gs h.gs_lt), fun i s v hs hv => own_below (h.own i s v hs hv) hb, h.dis, h.le, h.cap, h.hg, h.hgs⟩
theorem EdX.edAt (h : EdX w base g gs cap l vs V) : EdAt w g gs cap l V := by
  refine ⟨h.ed, fun i s hs => ?_, h.blk, h.le, h.cap⟩
  obtain ⟨v, hv, ⟨x0, x1, x2, x3, x4⟩, ho⟩ := h.at_ hs
  obtain ⟨A, c, rfl⟩ := own_form ho
  refine ⟨A, c, x0, x1, x2, x3, x4, by simp, fun hn => ?_⟩
  obtain ⟨q, c', hvq, _, _, hql, hc⟩ := own_at ho hn
  injection hvq with hA
  subst hA
  exact ⟨q, 0, rfl, h.apart hs hv rfl, hql, fun j u hj => by rw [Nat.zero_add]; exact hc j u hj⟩
theorem EdX.setArg (h : EdX w base g gs cap l vs V) {i k : Nat} {s : St} {v : Value} (hs : l[i]? = some s) (hv : vs[i]? = some v) (hk : k < s.args.length) (x : Int) : ∃ q c, v = .slice (some ⟨q, 0, none⟩) s.args.length c ∧ (∀ a, s.args[k]? = some a → w.cell? ⟨q, k, none⟩ = some (.int .i64 a)) ∧ w.frozen? ⟨q, k, none⟩ = false ∧ base ≤ q ∧
    EdX (w.setCell ⟨q, k, none⟩ (.int .i64 x)) base g gs cap (l.set i { s with args := s.args.set k x }) vs V := by
  have ho := h.own i s v hs hv
  have hil := (List.getElem?_eq_some_iff.1 hs).1
  obtain ⟨q, c, cur, rfl, hnc, hbq, hB, hsz, ht, hre⟩ := own_full ho (by omega)
  obtain ⟨hqg, hqs⟩ := h.apart hs hv rfl
  rw [Nat.mul_one] at ht hsz
  have hcur : ∀ j, j < s.args.length → cur[j]? = (s.args.map (Value.int .i64))[j]? := fun j hj => by
    rw [← ht, List.getElem?_take, if_pos hj, Array.getElem?_toList]
  refine ⟨q, c, rfl, fun a ha => by rw [hB.cell, hcur k hk, List.getElem?_map, ha]; rfl, hB.frozen k, hbq, ?_⟩
  have hkeep : ∀ b, b ≠ q → (w.setCell ⟨q, k, none⟩ (.int .i64 x)).heap[b]? = w.heap[b]? := fun b hb => Below.heap_setCell w ⟨q, k, none⟩ _ b hb
  refine ⟨by rw [List.length_set]; exact h.ed.far (p := ⟨q, k, none⟩) (fun e => hqg e.symm) _, ?_, by rw [List.length_set]; exact h.len, fun j t u ht' hu => ?_, fun j t u ht' hu => ?_, h.dis, by rw [List.length_set]; exact h.le, by rw [List.length_set]; exact h.cap, h.hg, h.hgs⟩
  · obtain ⟨cs, e1, e2, e3⟩ := h.blk
    exact ⟨cs, e1.far (p := ⟨q, k, none⟩) (fun e => hqs e.symm) _, e2, by rw [List.length_set]; exact e3⟩
  · by_cases hij : i = j
    · subst hij
      rw [List.getElem?_set_self hil] at ht'
      injection ht' with ht'
      subst ht'
      have := (h.cells i s u hs hu).same (hkeep gs (fun e => hqs e.symm))
      exact this
    · rw [List.getElem?_set_ne hij] at ht'
      exact (h.cells j t u ht' hu).same (hkeep gs (fun e => hqs e.symm))
  · by_cases hij : i = j
    · subst hij
      rw [List.getElem?_set_self hil] at ht'
      injection ht' with ht'
      subst ht'
      obtain rfl : u = .slice (some ⟨q, 0, none⟩) s.args.length c := by rw [hv] at hu; injection hu with hu; exact hu.symm
      have hB2 := hB.set_ k (.int .i64 x)
      have := hre _ _ ((s.args.set k x).map (Value.int .i64)) hB2 (by rw [Array.size_setIfInBounds]) (by simp) (by
        rw [Nat.mul_one, Array.toList_setIfInBounds, List.take_set, ht, List.map_set])
      simpa using this
    · rw [List.getElem?_set_ne hij] at ht'
      refine own_same (h.own j t u ht' hu) (fun b hb => hkeep b (fun e => ?_))
      rcases h.dis j i u _ (fun e => hij e.symm) hu hv with h0 | h0
      · rw [hb] at h0; cases h0
      · exact h0 (by rw [hb, e]; rfl)
end
structure FrX (base : Nat) (w w' : World) : Prop where
  bel : Below base w w'
  str : ∀ b cs, Blk w b 9 cs → Blk w' b 9 cs
theorem FrX.refl (base : Nat) (w : World) : FrX base w w := ⟨Below.refl _ _, fun _ _ h => h⟩
theorem FrX.trans {base : Nat} {a b c : World} (h : FrX base a b) (k : FrX base b c) : FrX base a c := ⟨h.bel.trans k.bel, fun q cs hq => k.str q cs (h.str q cs hq)⟩
theorem FrX.below {base : Nat} {a b c : World} (h : FrX base a b) (k : Below b.heap.size b c) (hB : base ≤ b.heap.size) : FrX base a c := ⟨h.bel.trans (k.mono hB), fun q cs hq => (h.str q cs hq).below k (h.str q cs hq).lt⟩
theorem FrX.setCell {base : Nat} {a b : World} (h : FrX base a b) {p : Addr} (hp : base ≤ p.block) {t : TypeId} {cur : Array Value} (hb : Blk b p.block t cur) (ht : t ≠ 9) (u : Value) : FrX base a (b.setCell p u) :=
  ⟨h.bel.setCell hp u, fun q cs hq => (h.str q cs hq).far (p := p) (fun e => (h.str q cs hq).ne_ hb (fun e => ht e.symm) e) u⟩
theorem FrX.grown {base g : Nat} {a b : World} (hg : a.grownBy b (some g)) (hB : base ≤ a.heap.size) (hbg : base ≤ g) {t : TypeId} {cur : Array Value} (hb : Blk a g t cur) (ht : t ≠ 9) : FrX base a b :=
  ⟨⟨hg.os, hg.tape, hg.output, hg.size, fun i hi => hg.block i (Nat.lt_of_lt_of_le hi hB) (fun e => by injection e with e; omega)⟩, fun q cs hq => hq.grown hg (fun e => by injection e with e; exact hq.ne_ hb (fun e => ht e.symm) e)⟩
theorem EdX.erase {w w1 w2 : World} {base g gs cap i n : Nat} {l : List St} {vs : List Value} {V : Value} (h : EdX w base g gs cap l vs V) (hn : n + 1 = l.length) (hi : i < n) (hg1 : w.grownBy w1 (some gs)) (cs' : Array Value) (hb1 : Blk w1 gs 25 cs')
    (hsz : ∀ cs, Blk w gs 25 cs → cs'.size = cs.size ∧ (∀ q, q < i * 5 → cs'[q]? = cs[q]?) ∧ (∀ q, i * 5 ≤ q → q < n * 5 → cs'[q]? = cs[5 + q]?)) (he : w2 = w1.setCell ⟨g, 0, none⟩ (.slice (some ⟨gs, 0, none⟩) n cap)) : EdX w2 base g gs cap (l.eraseIdx i) (vs.eraseIdx i) V ∧ FrX base w w2 := by
  subst he
  obtain ⟨cs, e1, e2, e3⟩ := h.blk
  obtain ⟨z1, z2, z3⟩ := hsz cs e1
  have hne := h.ne
  have hle := h.le
  have hcap := h.cap
  have hvl := h.len
  have hE1 : Blk w1 g 83 #[.slice (some ⟨gs, 0, none⟩) l.length cap, V] := h.ed.grown hg1 (fun e => hne (by injection e))
  have hlen : (l.eraseIdx i).length = n := by rw [List.length_eraseIdx]; split <;> omega
  have hgs : (w1.setCell ⟨g, 0, none⟩ (.slice (some ⟨gs, 0, none⟩) n cap)).heap[gs]? = w1.heap[gs]? := Below.heap_setCell w1 ⟨g, 0, none⟩ _ gs (fun e => hne e.symm)
  have hidx : ∀ j s v, (l.eraseIdx i)[j]? = some s → (vs.eraseIdx i)[j]? = some v → j < n ∧ ∃ j', l[j']? = some s ∧ vs[j']? = some v ∧ (j < i ∧ j' = j ∨ i ≤ j ∧ j' = j + 1) := fun j s v hs hv => by
    have hjl := (List.getElem?_eq_some_iff.1 hs).1
    rw [hlen] at hjl
    rw [List.getElem?_eraseIdx] at hs hv
    by_cases hji : j < i
    · rw [if_pos hji] at hs hv
      exact ⟨hjl, j, hs, hv, .inl ⟨hji, rfl⟩⟩
    · rw [if_neg hji] at hs hv
      exact ⟨hjl, j + 1, hs, hv, .inr ⟨by omega, rfl⟩⟩
  refine ⟨⟨by rw [hlen]; exact hE1.set_ 0 _, ⟨cs', hb1.far (p := ⟨g, 0, none⟩) (fun e => hne e.symm) _, z1.trans e2, fun q v hq hv => ?_⟩, by rw [List.length_eraseIdx, List.length_eraseIdx, hvl], fun j s v hs hv => ?_, fun j s v hs hv => ?_, fun a b v v' hab hv hv' => ?_, by rw [hlen]; omega, by rw [hlen]; omega, h.hg, h.hgs⟩, ?_⟩
  · rw [hlen] at hq
    by_cases hqi : q < i * 5
    · exact e3 q v (by omega) (by rw [← z2 q hqi]; exact hv)
    · exact e3 (5 + q) v (by omega) (by rw [← z3 q (by omega) hq]; exact hv)
  · obtain ⟨hjn, j', hs', hv', hc⟩ := hidx j s v hs hv
    obtain ⟨x0, x1, x2, x3, x4⟩ := h.cells j' s v hs' hv'
    have hcc : ∀ k, k < 5 → (w1.setCell ⟨g, 0, none⟩ (.slice (some ⟨gs, 0, none⟩) n cap)).cell? ⟨gs, j * 5 + k, none⟩ = w.cell? ⟨gs, j' * 5 + k, none⟩ := fun k hk => by
      rw [World.cell?_of_block (a := ⟨gs, j * 5 + k, none⟩) hgs, hb1.cell, e1.cell]
      rcases hc with ⟨h1, rfl⟩ | ⟨h1, rfl⟩
      · exact z2 _ (by omega)
      · rw [z3 _ (by omega) (by omega), show 5 + (j * 5 + k) = (j + 1) * 5 + k by omega]
    exact ⟨(hcc 0 (by omega)).trans x0, (hcc 1 (by omega)).trans x1, (hcc 2 (by omega)).trans x2, (hcc 3 (by omega)).trans x3, (hcc 4 (by omega)).trans x4⟩
  · obtain ⟨_, j', hs', hv', _⟩ := hidx j s v hs hv
    refine own_same (h.own j' s v hs' hv') (fun b hb => ?_)
    obtain ⟨hq1, hq2⟩ := h.apart hs' hv' hb
    exact (Below.heap_setCell w1 ⟨g, 0, none⟩ _ b hq1).trans (hg1.block b (own_lt (h.own j' s v hs' hv') b hb) (fun e => hq2 (by injection e)))
  · have hget : ∀ j v, (vs.eraseIdx i)[j]? = some v → ∃ j', vs[j']? = some v ∧ (j < i ∧ j' = j ∨ i ≤ j ∧ j' = j + 1) := fun j v hv => by
      rw [List.getElem?_eraseIdx] at hv
      by_cases hji : j < i
      · rw [if_pos hji] at hv
        exact ⟨j, hv, .inl ⟨hji, rfl⟩⟩
      · rw [if_neg hji] at hv
        exact ⟨j + 1, hv, .inr ⟨by omega, rfl⟩⟩
    obtain ⟨a', ha, hca⟩ := hget a v hv
    obtain ⟨b', hb, hcb⟩ := hget b v' hv'
    exact h.dis a' b' v v' (by omega) ha hb
  · exact (FrX.grown hg1 (Nat.le_trans h.hgs (Nat.le_of_lt e1.lt)) h.hgs e1 (by decide)).setCell (p := ⟨g, 0, none⟩) h.hg hE1 (by decide) _
end Go.Proofs.Ytniefnjcimempaa
namespace Go.Proofs.Ytniefnjcimempaa
open Go.RowKit
set_option maxRecDepth 100000 in
theorem safe_number (A : Option Addr) (n c : Nat) (num ty : Int) (text : List UInt8) (w : World) : Calls Try.prog 86 #[.agg #[.string ⟨#[110, 117, 109, 98, 101, 114]⟩, .slice A n c, .int .i64 num, .string ⟨text.toArray⟩, .int .i64 ty]] w fun e w' => e = .returned (.bool (decide (num ≤ Oz.maxLn))) ∧ Below w.heap.size w w' := by
  by_cases h : num ≤ 1152921504606846976
  · have hr : decide (num ≤ Oz.maxLn) = true := decide_eq_true h
    rw [hr]
    clear hr
    go_enter Try.func86, Try.ntmps86
    go_wp2_with fail
    go_ret
    exact ⟨rfl, (Below.refl _ _).alloc (Nat.le_refl _) _⟩
  · have hr : decide (num ≤ Oz.maxLn) = false := decide_eq_false h
    rw [hr]
    clear hr
    go_enter Try.func86, Try.ntmps86
    go_wp2_with fail
    go_ret
    exact ⟨rfl, (Below.refl _ _).alloc (Nat.le_refl _) _⟩
set_option maxRecDepth 100000 in
theorem safe_string (A : Option Addr) (n c : Nat) (num ty : Int) (text : List UInt8) (w : World) : Calls Try.prog 86 #[.agg #[.string ⟨#[115, 116, 114, 105, 110, 103]⟩, .slice A n c, .int .i64 num, .string ⟨text.toArray⟩, .int .i64 ty]] w fun e w' => e = .returned (.bool (decide (text.length ≤ 65536))) ∧ Below w.heap.size w w' := by
  by_cases h : text.length ≤ 65536
  · rw [decide_eq_true h]
    have q0 : (text.length : Int) ≤ 65536 := by omega
    clear h
    go_enter Try.func86, Try.ntmps86
    go_wp2_with fail
    go_ret
    exact ⟨rfl, (Below.refl _ _).alloc (Nat.le_refl _) _⟩
  · rw [decide_eq_false h]
    have q0 : ¬ ((text.length : Int) ≤ 65536) := by omega
    clear h
    go_enter Try.func86, Try.ntmps86
    go_wp2_with fail
    go_ret
    exact ⟨rfl, (Below.refl _ _).alloc (Nat.le_refl _) _⟩
set_option maxRecDepth 100000 in
theorem safe_named (op : List UInt8) (hop : op ∈ ([[108, 101, 110], [115, 105, 122, 101], [99, 111, 109, 109, 111, 110], [109, 105, 110], [109, 97, 120], [61, 61], [33, 61], [60], [60, 61], [97, 110, 100], [111, 114], [110, 111, 116], [119, 105, 116, 104, 105, 110], [111, 118, 101, 114], [109, 105, 110, 117, 115]] : List (List UInt8))) (A : Option Addr) (n c : Nat) (num ty : Int) (text : List UInt8) (w : World) : Calls Try.prog 86 #[.agg #[.string ⟨op.toArray⟩, .slice A n c, .int .i64 num, .string ⟨text.toArray⟩, .int .i64 ty]] w fun e w' => e = .returned (.bool true) ∧ Below w.heap.size w w' := by
  simp only [List.mem_cons, List.not_mem_nil, or_false] at hop
  rcases hop with rfl | rfl | rfl | rfl | rfl | rfl | rfl | rfl | rfl | rfl | rfl | rfl | rfl | rfl | rfl
  all_goals
    go_enter Try.func86, Try.ntmps86
    go_wp2_with fail
    go_ret
    exact ⟨rfl, (Below.refl _ _).alloc (Nat.le_refl _) _⟩
set_option maxRecDepth 100000 in
theorem safe_other (op : List UInt8) (h0 : op ≠ nNumber) (h1 : op ≠ nString) (hop : ¬ op ∈ ([[108, 101, 110], [115, 105, 122, 101], [99, 111, 109, 109, 111, 110], [109, 105, 110], [109, 97, 120], [61, 61], [33, 61], [60], [60, 61], [97, 110, 100], [111, 114], [110, 111, 116], [119, 105, 116, 104, 105, 110], [111, 118, 101, 114], [109, 105, 110, 117, 115]] : List (List UInt8))) (A : Option Addr) (n c : Nat) (num ty : Int) (text : List UInt8) (w : World) : Calls Try.prog 86 #[.agg #[.string ⟨op.toArray⟩, .slice A n c, .int .i64 num, .string ⟨text.toArray⟩, .int .i64 ty]] w fun e w' => e = .returned (.bool false) ∧ Below w.heap.size w w' := by
  simp only [List.mem_cons, List.not_mem_nil, or_false, not_or] at hop
  obtain ⟨n0, n1, n2, n3, n4, n5, n6, n7, n8, n9, n10, n11, n12, n13, n14⟩ := hop
  have e0 : (op == [110, 117, 109, 98, 101, 114]) = false := beq_eq_false_iff_ne.2 h0
  have e1 : (op == [115, 116, 114, 105, 110, 103]) = false := beq_eq_false_iff_ne.2 h1
  have m0 : (op == [108, 101, 110]) = false := beq_eq_false_iff_ne.2 n0
  have m1 : (op == [115, 105, 122, 101]) = false := beq_eq_false_iff_ne.2 n1
  have m2 : (op == [99, 111, 109, 109, 111, 110]) = false := beq_eq_false_iff_ne.2 n2
  have m3 : (op == [109, 105, 110]) = false := beq_eq_false_iff_ne.2 n3
  have m4 : (op == [109, 97, 120]) = false := beq_eq_false_iff_ne.2 n4
  have m5 : (op == [61, 61]) = false := beq_eq_false_iff_ne.2 n5
  have m6 : (op == [33, 61]) = false := beq_eq_false_iff_ne.2 n6
  have m7 : (op == [60]) = false := beq_eq_false_iff_ne.2 n7
  have m8 : (op == [60, 61]) = false := beq_eq_false_iff_ne.2 n8
  have m9 : (op == [97, 110, 100]) = false := beq_eq_false_iff_ne.2 n9
  have m10 : (op == [111, 114]) = false := beq_eq_false_iff_ne.2 n10
  have m11 : (op == [110, 111, 116]) = false := beq_eq_false_iff_ne.2 n11
  have m12 : (op == [119, 105, 116, 104, 105, 110]) = false := beq_eq_false_iff_ne.2 n12
  have m13 : (op == [111, 118, 101, 114]) = false := beq_eq_false_iff_ne.2 n13
  have m14 : (op == [109, 105, 110, 117, 115]) = false := beq_eq_false_iff_ne.2 n14
  clear h0 h1 n0 n1 n2 n3 n4 n5 n6 n7 n8 n9 n10 n11 n12 n13 n14
  go_enter Try.func86, Try.ntmps86
  go_wp2_with fail
  go_ret
  exact ⟨rfl, (Below.refl _ _).alloc (Nat.le_refl _) _⟩
theorem safe_any (s : St) (A : Option Addr) (n c : Nat) (w : World) : Calls Try.prog 86 #[.agg #[.string ⟨s.op.toArray⟩, .slice A n c, .int .i64 s.num, .string ⟨s.text.toArray⟩, .int .i64 s.ty]] w fun e w' => e = .returned (.bool (Oz.safeR s)) ∧ Below w.heap.size w w' := by
  obtain ⟨op, args, num, text, ty⟩ := s
  unfold Oz.safeR
  dsimp only
  by_cases h0 : op = nNumber
  · rw [if_pos h0]
    subst h0
    exact safe_number A n c num ty text w
  rw [if_neg h0]
  by_cases h1 : op = nString
  · rw [if_pos h1]
    subst h1
    exact safe_string A n c num ty text w
  rw [if_neg h1]
  by_cases h2 : op ∈ ([[108, 101, 110], [115, 105, 122, 101], [99, 111, 109, 109, 111, 110], [109, 105, 110], [109, 97, 120], [61, 61], [33, 61], [60], [60, 61], [97, 110, 100], [111, 114], [110, 111, 116], [119, 105, 116, 104, 105, 110], [111, 118, 101, 114], [109, 105, 110, 117, 115]] : List (List UInt8))
  · have hd : decide (op ∈ [Oz.oLen, Oz.oSize, Oz.oCommon, Oz.oMin, Oz.oMax, Oz.oEq, Oz.oNe, Oz.oLt, Oz.oLe, Oz.oAnd, Oz.oOr, Oz.oNot, Oz.oWithin, Oz.oOver, Oz.oMinus]) = true := decide_eq_true h2
    rw [hd]
    exact safe_named op h2 A n c num ty text w
  · have hd : decide (op ∈ [Oz.oLen, Oz.oSize, Oz.oCommon, Oz.oMin, Oz.oMax, Oz.oEq, Oz.oNe, Oz.oLt, Oz.oLe, Oz.oAnd, Oz.oOr, Oz.oNot, Oz.oWithin, Oz.oOver, Oz.oMinus]) = false := decide_eq_false h2
    rw [hd]
    exact safe_other op h0 h1 h2 A n c num ty text w
-- REST
theorem safeB_true {l : List St} {j i : Nat} (h : ∀ q s, j < q → q < i → l[q]? = some s → Oz.safeR s = true) : Oz.safeB l j i = true := by
  unfold Oz.safeB
  rw [List.all_eq_true]
  intro s hs
  obtain ⟨q, hq⟩ := List.getElem?_of_mem hs
  rw [List.getElem?_drop, List.getElem?_take] at hq
  split at hq
  · exact h (j + 1 + q) s (by omega) (by assumption) hq
  · cases hq
theorem safeB_false {l : List St} {j i q : Nat} {s : St} (h1 : j < q) (h2 : q < i) (hs : l[q]? = some s) (h : Oz.safeR s = false) : Oz.safeB l j i = false := by
  cases hb : Oz.safeB l j i with
  | false => rfl
  | true =>
    unfold Oz.safeB at hb
    rw [List.all_eq_true] at hb
    have hm : s ∈ (l.take i).drop (j + 1) := by
      refine List.mem_of_getElem? (i := q - (j + 1)) ?_
      rw [List.getElem?_drop, List.getElem?_take, if_pos (by omega), show j + 1 + (q - (j + 1)) = q by omega]
      exact hs
    rw [hb s hm] at h
    cases h
def SbRel (w : World) (l : List St) (j d f : Nat) (c : Value) (wr : World) : Prop := ∃ p : Nat, c = .int .i64 p ∧ p ≤ d ∧ d - p < f ∧ Hid (∀ q s, j < q → q < j + 1 + p → l[q]? = some s → Oz.safeR s = true) ∧ Hid (Below w.heap.size w wr)
set_option maxRecDepth 100000 in
set_option maxHeartbeats 4000000 in
theorem safeBetween_any (g gs cap : Nat) (l : List St) (V : Value) (w : World) (h : EdAt w g gs cap l V) (j i : Nat) (hji : j < i) (hil : i ≤ l.length) :
    Calls Try.prog 83 #[.pointer (some ⟨g, 0, none⟩), .int .i64 j, .int .i64 i] w fun e w' => e = .returned (.bool (Oz.safeB l j i)) ∧ Below w.heap.size w w' := by
  have hle := h.le
  have hcap := h.cap
  have x0 := h.ed.cell 0
  simp only [List.getElem?_toArray, List.getElem?_cons_zero] at x0
  obtain ⟨n, hn⟩ : ∃ n, n = l.length := ⟨_, rfl⟩
  obtain ⟨d, hd⟩ : ∃ d, d = i - (j + 1) := ⟨_, rfl⟩
  rw [← hn] at x0
  have HH := Lib.hid h
  have HN := Lib.hid hn
  have HD : Hid (j + 1 + d = i) := Lib.hid (by omega)
  have HIL := Lib.hid hil
  have q0 : (j : Int) + 1 ≤ (i : Int) := by omega
  have q1 : (i : Int) ≤ (cap : Int) := by omega
  have q2 : (0 : Int) ≤ (j : Int) + 1 := by omega
  have q3 : i - (j + 1) = d := hd.symm
  have hjb : j ≤ 100000 := by omega
  have hdb : d ≤ 100000 := by omega
  have hgsl := h.gs_lt
  clear h hn hd hil hle
  by_cases q4 : cap = j + 1
  · have hd0 : d = 0 := by have := HD.out; omega
    subst hd0
    have HRR := Lib.hid (show Oz.safeB l j i = true from safeB_true (fun q s h1 h2 _ => by have := HD.out; omega))
    subst q4
    have q5 : j + 1 - (j + 1) = 0 := by omega
    go_enter Try.func83, Try.ntmps83
    go_wp2_with fail
    go_loopg [8, 18] 1 (fun f _ c wr => c = .int .i64 0 ∧ 0 < f ∧ Hid (Below w.heap.size w wr))
    case atStart => exact ⟨rfl, by omega, Lib.hid (Below.refl _ _)⟩
    case round =>
      obtain ⟨rfl, hf0, HB⟩ := hrel
      go_wp2_with fail
      go_ret
      rw [HRR.out]
      exact ⟨rfl, HB.out⟩
  · go_enter Try.func83, Try.ntmps83
    go_wp2_with fail
    clear x0
    go_loopg [8, 18] (d + 1) (fun f _ c wr => SbRel w l j d f c wr)
    case atStart => exact ⟨0, rfl, by omega, by omega, Lib.hid (fun q s h1 h2 _ => by omega), Lib.hid (Below.refl _ _)⟩
    case round =>
      obtain ⟨p, rfl, hp, hpf, HS, HB⟩ := hrel
      obtain ⟨f, rfl⟩ : ∃ f, gk = f + 1 := ⟨gk - 1, by omega⟩
      by_cases hlt : p < d
      · obtain ⟨s, hs⟩ : ∃ s, l[j + 1 + p]? = some s := ⟨l[j + 1 + p]'(by have := HD.out; have := HIL.out; omega), List.getElem?_eq_getElem _⟩
        obtain ⟨As, c, x0, x1, x2, x3, x4, _⟩ := HH.out.st _ s hs
        rw [show (j + 1 + p) * 5 = (j + 1) * 5 + p * 5 by omega] at x0 x1 x2 x3 x4
        have hgc := fun q => HB.out.cell (p := ⟨gs, q, none⟩) hgsl
        replace x0 := (hgc _).trans x0
        replace x1 := (hgc _).trans x1
        replace x2 := (hgc _).trans x2
        replace x3 := (hgc _).trans x3
        replace x4 := (hgc _).trans x4
        have p0 : (p : Int) < (d : Int) := by omega
        have p1 : (0 : Int) ≤ (p : Int) := by omega
        have HSS := Lib.hid hs
        have hzr := HB.out.size
        have HB3 := Lib.hid (fun o => HB.out.alloc hzr o)
        clear hs hgc HB
        go_wp2_with fail
        refine (safe_any s As s.args.length c _).mono ?_
        rintro e w2 ⟨rfl, hb2⟩
        have HB2 := Lib.hid ((HB3.out _).trans (hb2.mono (HB3.out _).size))
        clear hb2 HB3
        cases hsf : Oz.safeR s with
        | false =>
          have hR : Oz.safeB l j i = false := safeB_false (q := j + 1 + p) (by omega) (by have := HD.out; omega) HSS.out hsf
          have HRR := Lib.hid hR
          clear hR
          go_wp2_with fail
          go_ret
          rw [HRR.out]
          exact ⟨rfl, HB2.out⟩
        | true =>
          have HS2 : Hid (∀ q s, j < q → q < j + 1 + (p + 1) → l[q]? = some s → Oz.safeR s = true) := Lib.hid (fun q t h1 h2 ht => by
            by_cases hq : q < j + 1 + p
            · exact HS.out q t h1 hq ht
            · have : q = j + 1 + p := by omega
              subst this
              have := ht.symm.trans HSS.out
              injection this with this
              rw [this]
              exact hsf)
          go_wp2_with fail
          go_roundg f
          case measure => omega
          case rel => exact ⟨p + 1, by go_num, by omega, by omega, HS2, HB2⟩
      · have hpd : p = d := by omega
        subst hpd
        have p0 : ¬ ((p : Int) < (p : Int)) := by omega
        have hR : Oz.safeB l j i = true := safeB_true (fun q s h1 h2 hs => HS.out q s h1 (by have := HD.out; omega) hs)
        have HRR := Lib.hid hR
        clear hR
        go_wp2_with fail
        go_ret
        rw [HRR.out]
        exact ⟨rfl, HB.out⟩
end Go.Proofs.Ytniefnjcimempaa
namespace Go.Proofs.Ytniefnjcimempaa
open Go.RowKit
def mapFrom (f : Int → Int) (i p : Nat) (l : List St) : List St := l.mapIdx fun q s => if i ≤ q ∧ q < i + p then Oz.mapA f s else s
theorem mapFrom_len (f : Int → Int) (i p : Nat) (l : List St) : (mapFrom f i p l).length = l.length := by unfold mapFrom; simp
theorem mapFrom_at (f : Int → Int) (i p : Nat) (l : List St) (q : Nat) : (mapFrom f i p l)[q]? = (l[q]?).map fun s => if i ≤ q ∧ q < i + p then Oz.mapA f s else s := by
  unfold mapFrom
  rw [List.getElem?_mapIdx]
theorem mapFrom_zero (f : Int → Int) (i : Nat) (l : List St) : mapFrom f i 0 l = l := by
  apply List.ext_getElem?
  intro q
  rw [mapFrom_at]
  cases l[q]? with
  | none => rfl
  | some s => rw [Option.map_some, if_neg (by omega)]
theorem mapFrom_get {f : Int → Int} {i p : Nat} {l : List St} : (mapFrom f i p l)[i + p]? = l[i + p]? := by
  rw [mapFrom_at]
  cases l[i + p]? with
  | none => rfl
  | some s => rw [Option.map_some, if_neg (by omega)]
theorem mapFrom_succ {f : Int → Int} {i p : Nat} {l : List St} {s : St} (h : l[i + p]? = some s) : mapFrom f i (p + 1) l = (mapFrom f i p l).set (i + p) (Oz.mapA f s) := by
  have hl := (List.getElem?_eq_some_iff.1 h).1
  apply List.ext_getElem?
  intro q
  by_cases hq : i + p = q
  · subst hq
    rw [List.getElem?_set_self (by rw [mapFrom_len]; exact hl), mapFrom_at, h, Option.map_some, if_pos (by omega)]
  · rw [List.getElem?_set_ne hq, mapFrom_at, mapFrom_at]
    cases l[q]? with
    | none => rfl
    | some t =>
      rw [Option.map_some, Option.map_some]
      by_cases hc : i ≤ q ∧ q < i + p
      · rw [if_pos (by omega), if_pos hc]
      · rw [if_neg (by omega), if_neg hc]
theorem mapFrom_all {f : Int → Int} {i p : Nat} {l : List St} (h : i + p = l.length) : mapFrom f i p l = l.take i ++ (l.drop i).map (Oz.mapA f) := by
  apply List.ext_getElem?
  intro q
  rw [mapFrom_at]
  by_cases hq : q < i
  · rw [List.getElem?_append_left (by rw [List.length_take]; omega), List.getElem?_take, if_pos hq]
    cases l[q]? with
    | none => rfl
    | some s => rw [Option.map_some, if_neg (by omega)]
  · rw [List.getElem?_append_right (by rw [List.length_take]; omega), List.getElem?_map, List.getElem?_drop, List.length_take, show i + (q - min i l.length) = q by omega]
    by_cases hql : q < l.length
    · rw [List.getElem?_eq_getElem hql, Option.map_some, Option.map_some, if_pos (by omega)]
    · rw [List.getElem?_eq_none (by omega)]
      rfl
def argsTo (f : Int → Int) (args : List Int) (k : Nat) : List Int := (args.take k).map f ++ args.drop k
theorem argsTo_len (f : Int → Int) (args : List Int) (k : Nat) : (argsTo f args k).length = args.length := by unfold argsTo; simp; omega
theorem argsTo_get {f : Int → Int} {args : List Int} {k : Nat} : (argsTo f args k)[k]? = args[k]? := by
  unfold argsTo
  by_cases h : k < args.length
  · rw [List.getElem?_append_right (by simp; omega), List.getElem?_drop]
    congr 1
    simp
    omega
  · rw [List.getElem?_eq_none (by simp; omega), List.getElem?_eq_none (by omega)]
theorem argsTo_succ {f : Int → Int} {args : List Int} {k : Nat} {a : Int} (h : args[k]? = some a) : argsTo f args (k + 1) = (argsTo f args k).set k (f a) := by
  have hk := (List.getElem?_eq_some_iff.1 h).1
  unfold argsTo
  rw [List.take_add_one, h, Option.toList_some, List.map_append, List.map_singleton, List.set_append_right _ _ (by simp; omega), List.length_map, List.length_take, show k - min k args.length = 0 by omega]
  have h0 : args.drop k = a :: args.drop (k + 1) := by
    rw [List.drop_eq_getElem_cons hk]
    congr 1
    rw [List.getElem?_eq_getElem hk] at h
    injection h
  rw [h0]
  simp
theorem argsTo_skip {f : Int → Int} {args : List Int} {k : Nat} {a : Int} (h : args[k]? = some a) (hf : f a = a) : argsTo f args (k + 1) = argsTo f args k := by
  rw [argsTo_succ h, hf]
  apply List.ext_getElem?
  intro q
  by_cases hq : k = q
  · subst hq
    rw [List.getElem?_set_self (by rw [argsTo_len]; exact (List.getElem?_eq_some_iff.1 h).1), argsTo_get, h]
  · rw [List.getElem?_set_ne hq]
theorem argsTo_zero (f : Int → Int) (args : List Int) : argsTo f args 0 = args := by unfold argsTo; simp
theorem argsTo_all (f : Int → Int) (args : List Int) : argsTo f args args.length = args.map f := by unfold argsTo; simp
theorem removeR_eq {l : List St} {i : Nat} (hi : i < l.length) : Oz.removeR l i = (l.eraseIdx i).take i ++ ((l.eraseIdx i).drop i).map (Oz.mapA fun a => if (i : Int) < a then a - 1 else a) := by
  unfold Oz.removeR
  rw [List.eraseIdx_eq_take_drop_succ]
  have h1 : (l.take i ++ l.drop (i + 1)).take i = l.take i := by
    rw [List.take_append_of_le_length (by rw [List.length_take]; omega), List.take_take, Nat.min_self]
  have h2 : (l.take i ++ l.drop (i + 1)).drop i = l.drop (i + 1) := by
    have hl : (l.take i).length = i := by rw [List.length_take]; omega
    have := List.drop_left (l₁ := l.take i) (l₂ := l.drop (i + 1))
    rwa [hl] at this
  rw [h1, h2]
end Go.Proofs.Ytniefnjcimempaa
namespace Go.Proofs.Ytniefnjcimempaa
open Go.RowKit
def fRm (i : Nat) (a : Int) : Int := if (i : Int) < a then a - 1 else a
def XrRel (base g gs cap : Nat) (f0 : Int → Int) (i d : Nat) (l1 : List St) (vs : List Value) (V : Value) (w : World) (f : Nat) (c : Value) (wr : World) : Prop := ∃ p : Nat, c = .int .i64 p ∧ p ≤ d ∧ d - p < f ∧ Hid (EdX wr base g gs cap (mapFrom f0 i p l1) vs V) ∧ Hid (FrX base w wr)
def XiRel (base g gs cap : Nat) (f0 : Int → Int) (i p : Nat) (l1 : List St) (s : St) (vs : List Value) (V : Value) (w : World) (b0 : Nat) (K0 : Array Value) (f : Nat) (c : Value) (wr : World) : Prop := ∃ k : Nat, c = .int .i64 k ∧ k ≤ s.args.length ∧ s.args.length - k < f ∧ Hid (Blk wr b0 25 K0) ∧ Hid (EdX wr base g gs cap ((mapFrom f0 i p l1).set (i + p) { s with args := argsTo f0 s.args k }) vs V) ∧ Hid (FrX base w wr)
set_option maxRecDepth 100000 in
set_option maxHeartbeats 8000000 in
theorem remove_any (base g gs cap i : Nat) (l : List St) (vs : List Value) (V : Value) (w : World) (h : EdX w base g gs cap l vs V) (hi : i + 1 < l.length) (hb : ∀ s ∈ l, s.args.length ≤ 3 ∧ ∀ a ∈ s.args, 0 ≤ a ∧ a ≤ 100000) :
    Calls Try.prog 80 #[.pointer (some ⟨g, 0, none⟩), .int .i64 i] w fun e w' => e = .returned (.tuple #[]) ∧ EdX w' base g gs cap (Oz.removeR l i) (vs.eraseIdx i) V ∧ FrX base w w' := by
  obtain ⟨cs, e1, e2, e3⟩ := h.blk
  have hle := h.le
  have hcap := h.cap
  have x0 := h.ed.cell 0
  simp only [List.getElem?_toArray, List.getElem?_cons_zero] at x0
  obtain ⟨n, hn⟩ : ∃ n, n + 1 = l.length := ⟨l.length - 1, by omega⟩
  obtain ⟨m, hm⟩ : ∃ m, m = n + 1 := ⟨_, rfl⟩
  have hin : i < n := by omega
  have hd := delete_at gs n i cap cs w e1 e2 hin (by omega) (by omega) (fun q v hq hv => e3 q v (by omega) hv)
  rw [← hm] at hd
  rw [← hn, ← hm] at x0
  have hnb : n ≤ 100000 := by omega
  have hic : ((i + 1 : Nat) : Int) = (i : Int) + 1 := by omega
  rw [hic] at hd
  have HD := Lib.hid hd
  have HH := Lib.hid h
  have HN := Lib.hid hn
  have HC := Lib.hid e1
  have HI := Lib.hid hin
  have HREM := Lib.hid (removeR_eq (l := l) (i := i) (by omega))
  have hgl := h.ed.lt
  have HNE := Lib.hid h.ne
  have hl1 : (l.eraseIdx i).length = n := by rw [List.length_eraseIdx]; split <;> omega
  have hb1 : ∀ s ∈ l.eraseIdx i, s.args.length ≤ 3 ∧ ∀ a ∈ s.args, 0 ≤ a ∧ a ≤ 100000 := fun s hs => hb s (List.mem_of_mem_eraseIdx hs)
  have hncap : n < cap := by omega
  obtain ⟨l1, hl1e⟩ : ∃ l1, l1 = l.eraseIdx i := ⟨_, rfl⟩
  rw [← hl1e] at hl1 hb1 HREM
  have HL1 := Lib.hid hl1
  have HL1E := Lib.hid hl1e
  have HBB := Lib.hid hb1
  clear hd h e1 e2 e3 hb hn hm hl1 hb1 hl1e hi hle
  go_enter Try.func80, Try.ntmps80
  go_wp2_with fail
  refine HD.out.mono ?_
  rintro e w1 ⟨rfl, hg1, cs', hb1, hs1, hc1, hc2⟩
  obtain ⟨w2, hw2⟩ : ∃ w2, w2 = w1.setCell ⟨g, 0, none⟩ (.slice (some ⟨gs, 0, none⟩) n cap) := ⟨_, rfl⟩
  have ht := HH.out.erase HN.out HI.out hg1 cs' hb1 (fun cs0 h0 => by
    have : cs0 = cs := by have := h0.symm.trans HC.out; injection this with this; injection this
    subst this
    exact ⟨hs1, hc1, hc2⟩) hw2
  rw [← HL1E.out] at ht
  have HT := Lib.hid ht.1
  have HF := Lib.hid ht.2
  have hE1 : Blk w1 g 83 #[.slice (some ⟨gs, 0, none⟩) l.length cap, V] := HH.out.ed.grown hg1 (fun e => HNE.out (by injection e))
  have y0 := hE1.cell 0
  simp only [List.getElem?_toArray, List.getElem?_cons_zero] at y0
  have y1 := hE1.frozen 0
  have HW2 := Lib.hid hw2
  clear hg1 hb1 hs1 hc1 hc2 ht hE1 hw2 HD
  go_upto_region 1 with (fail)
  rw [← HW2.out]
  have z0 := HT.out.ed.cell 0
  simp only [List.getElem?_toArray, List.getElem?_cons_zero] at z0
  rw [HL1.out] at z0
  obtain ⟨d, hd⟩ : ∃ d, d = n - i := ⟨_, rfl⟩
  have qd : n - i = d := hd.symm
  have qe : ¬ (cap = i) := by omega
  have qf : (i : Int) ≤ (n : Int) := by omega
  have qg : (0 : Int) ≤ (i : Int) := by omega
  have qh : (n : Int) ≤ (cap : Int) := by omega
  have HDN : Hid (i + d = n) := Lib.hid (by have := HI.out; omega)
  have hdb : d ≤ 100000 := by omega
  have HT0 : Hid (EdX w2 base g gs cap (mapFrom (fRm i) i 0 l1) (vs.eraseIdx i) V) := Lib.hid (by rw [mapFrom_zero]; exact HT.out)
  clear y0 y1 x0 HW2 hd
  go_wp2_with fail
  clear z0
  go_loopg [5, 6, 7, 26, 33] (d + 1) (fun f _ _ _ c _ wr => XrRel base g gs cap (fRm i) i d l1 (vs.eraseIdx i) V w f c wr)
  case atStart => exact ⟨0, rfl, by omega, by omega, HT0, HF⟩
  case round =>
    clear HT0 HF
    obtain ⟨p, rfl, hp, hpf, HE, HF⟩ := hrel
    obtain ⟨f, rfl⟩ : ∃ f, gk = f + 1 := ⟨gk - 1, by omega⟩
    by_cases hlt : p < d
    · obtain ⟨s, hs⟩ : ∃ s, l1[i + p]? = some s := ⟨l1[i + p]'(by have := HL1.out; have := HDN.out; omega), List.getElem?_eq_getElem _⟩
      have hs' : (mapFrom (fRm i) i p l1)[i + p]? = some s := mapFrom_get.trans hs
      have hsb := HBB.out s (List.mem_of_getElem? hs)
      obtain ⟨v, hv, ⟨x0, x1, x2, x3, x4⟩, ho⟩ := HE.out.at_ hs'
      obtain ⟨A, c, rfl⟩ := own_form ho
      rw [show (i + p) * 5 = i * 5 + p * 5 by omega] at x0 x1 x2 x3 x4
      have HMS := Lib.hid (mapFrom_succ (f := fRm i) hs)
      have HS := Lib.hid hs
      have HV := Lib.hid hv
      have HSB := Lib.hid hsb.2
      have hal := hsb.1
      have q0 : (p : Int) < (d : Int) := by omega
      have q1 : (0 : Int) ≤ (p : Int) := by omega
      have HLEN := Lib.hid (show i + p < (mapFrom (fRm i) i p l1).length from (List.getElem?_eq_some_iff.1 hs').1)
      have HE3 := Lib.hid (fun o => HE.out.below (below_alloc wr o))
      have HF3 := Lib.hid (fun o => HF.out.below (below_alloc wr o) (Nat.le_trans HE.out.hg (Nat.le_of_lt HE.out.ed.lt)))
      have HSET : Hid ((mapFrom (fRm i) i p l1).set (i + p) { s with args := argsTo (fRm i) s.args 0 } = mapFrom (fRm i) i p l1) := Lib.hid (by
        rw [argsTo_zero]
        apply List.ext_getElem?
        intro q
        by_cases hq : i + p = q
        · subst hq
          rw [List.getElem?_set_self (List.getElem?_eq_some_iff.1 hs').1, hs']
        · rw [List.getElem?_set_ne hq])
      clear hs hs' hv hsb ho HE HF
      go_upto_region 4 with (fail)
      obtain ⟨wo, hwo⟩ : ∃ wo, wo = wr.alloc (.cells #[.string ⟨s.op.toArray⟩, .slice A s.args.length c, .int .i64 s.num, .string ⟨s.text.toArray⟩, .int .i64 s.ty] 25) := ⟨_, rfl⟩
      rw [← hwo]
      have hkb : Blk wo wr.heap.size 25 #[.string ⟨s.op.toArray⟩, .slice A s.args.length c, .int .i64 s.num, .string ⟨s.text.toArray⟩, .int .i64 s.ty] := by rw [hwo]; exact Blk.new _ _ _
      have y1 := hkb.cell 1
      simp only [List.getElem?_toArray, List.getElem?_cons_zero, List.getElem?_cons_succ] at y1
      have HKB := Lib.hid hkb
      have HEo : Hid (EdX wo base g gs cap ((mapFrom (fRm i) i p l1).set (i + p) { s with args := argsTo (fRm i) s.args 0 }) (vs.eraseIdx i) V) := Lib.hid (by rw [HSET.out, hwo]; exact HE3.out _)
      have HFo : Hid (FrX base w wo) := Lib.hid (by rw [hwo]; exact HF3.out _)
      clear hwo hkb HE3 HF3 HSET x0 x1 x2 x3 x4
      go_wp2_with fail
      clear y1
      go_loopg [6, 7, 33] (s.args.length + 1) (fun f _ _ c' wi => XiRel base g gs cap (fRm i) i p l1 s (vs.eraseIdx i) V w wr.heap.size #[.string ⟨s.op.toArray⟩, .slice A s.args.length c, .int .i64 s.num, .string ⟨s.text.toArray⟩, .int .i64 s.ty] f c' wi)
      case atStart => exact ⟨0, rfl, by omega, by omega, HKB, HEo, HFo⟩
      case round =>
        clear HKB HEo HFo
        obtain ⟨k, rfl, hk, hkf, HK0, HE, HF⟩ := hrel
        obtain ⟨f2, rfl⟩ : ∃ f2, gk = f2 + 1 := ⟨gk - 1, by omega⟩
        by_cases hkl : k < s.args.length
        · obtain ⟨a, ha⟩ : ∃ a, s.args[k]? = some a := ⟨s.args[k], List.getElem?_eq_getElem hkl⟩
          have hab := HSB.out a (List.mem_of_getElem? ha)
          obtain ⟨q, c2, hv2, hca, hfz, hbq, hset⟩ := HE.out.setArg (i := i + p) (k := k) (List.getElem?_set_self HLEN.out) HV.out (show k < (argsTo (fRm i) s.args k).length by rw [argsTo_len]; exact hkl) (a - 1)
          injection hv2 with hA hlen hcc
          clear hlen
          subst hA hcc
          have y5 := hca a (argsTo_get.trans ha)
          have k1 := HK0.out.cell 1
          simp only [List.getElem?_toArray, List.getElem?_cons_zero, List.getElem?_cons_succ] at k1
          have p0 : (k : Int) < (s.args.length : Int) := by omega
          have p1 : (0 : Int) ≤ (k : Int) := by omega
          have hbl : ∃ cur, Blk wr q 3 cur := (own_lo (HE.out.own (i + p) _ _ (List.getElem?_set_self HLEN.out) HV.out) rfl).2
          by_cases hia : (i : Int) < a
          · have hfa : fRm i a = a - 1 := if_pos hia
            have HES : Hid (EdX (wr.setCell ⟨q, k, none⟩ (.int .i64 (a - 1))) base g gs cap ((mapFrom (fRm i) i p l1).set (i + p) { s with args := argsTo (fRm i) s.args (k + 1) }) (vs.eraseIdx i) V) := Lib.hid (by
              have h := hset
              rw [List.set_set] at h
              rw [argsTo_succ ha, hfa]
              exact h)
            obtain ⟨cur, hB⟩ := hbl
            have HFS := Lib.hid (HF.out.setCell (p := ⟨q, k, none⟩) hbq hB (by decide) (.int .i64 (a - 1)))
            have HKS := Lib.hid (HK0.out.far (p := ⟨q, k, none⟩) (HK0.out.ne_ hB (by decide)) (.int .i64 (a - 1)))
            have hw := IntWalk.i64_in (a - 1) (by omega)
            clear ha hab hca hset hB
            go_wp2_with fail
            go_roundg f2
            case measure => omega
            case rel => exact ⟨k + 1, by go_num, by omega, by omega, HKS, HES, HFS⟩
          · have hfa : fRm i a = a := if_neg hia
            have HES : Hid (EdX wr base g gs cap ((mapFrom (fRm i) i p l1).set (i + p) { s with args := argsTo (fRm i) s.args (k + 1) }) (vs.eraseIdx i) V) := Lib.hid (by rw [argsTo_skip ha hfa]; exact HE.out)
            clear ha hab hca hset hbl
            go_wp2_with fail
            go_roundg f2
            case measure => omega
            case rel => exact ⟨k + 1, by go_num, by omega, by omega, HK0, HES, HF⟩
        · have hkk : k = s.args.length := by omega
          subst hkk
          have p0 : ¬ ((s.args.length : Int) < (s.args.length : Int)) := by omega
          have HEE : Hid (EdX wr base g gs cap (mapFrom (fRm i) i (p + 1) l1) (vs.eraseIdx i) V) := Lib.hid (by
            have h := HE.out
            rw [argsTo_all] at h
            rw [HMS.out]
            exact h)
          go_wp2_with fail
          go_roundg f
          case measure => omega
          case rel => exact ⟨p + 1, by go_num, by omega, by omega, HEE, HF⟩
    · have hpd : p = d := by omega
      subst hpd
      have q0 : ¬ ((p : Int) < (p : Int)) := by omega
      have HEE : Hid (EdX wr base g gs cap (Oz.removeR l i) (vs.eraseIdx i) V) := Lib.hid (by
        have h := HE.out
        rw [mapFrom_all (by rw [HL1.out]; exact HDN.out)] at h
        rw [HREM.out]
        exact h)
      go_wp2_with fail
      refine bodyPost_end (v := .tuple #[]) (by simp [results, Try.results80, go_sem]) rfl ?_
      exact ⟨rfl, HEE.out, HF.out⟩
end Go.Proofs.Ytniefnjcimempaa
namespace Go.Proofs.Ytniefnjcimempaa
open Go.RowKit
set_option maxRecDepth 100000 in
set_option maxHeartbeats 4000000 in
theorem replaceable_any (g gs cap : Nat) (l : List St) (V : Value) (w : World) (h : EdAt w g gs cap l V) (j i : Nat) (hji : j < i) (hil : i < l.length) :
    Calls Try.prog 82 #[.pointer (some ⟨g, 0, none⟩), .int .i64 i, .int .i64 j] w fun e w' => e = .returned (.bool (Oz.canR l i j)) ∧ Below w.heap.size w w' := by
  have hle := h.le
  have hcap := h.cap
  have x0 := h.ed.cell 0
  simp only [List.getElem?_toArray, List.getElem?_cons_zero] at x0
  have HS := Lib.hid (safeBetween_any g gs cap l V w h j i hji (Nat.le_of_lt hil))
  obtain ⟨n, hn⟩ : ∃ n, n = l.length := ⟨_, rfl⟩
  rw [← hn] at x0 hcap hil
  have hw := IntWalk.i64_in ((n : Int) - 1) (by omega)
  by_cases hlast : i + 1 < n
  · have hR : Oz.canR l i j = true := by unfold Oz.canR; rw [← hn, decide_eq_true hlast]; rfl
    have HR := Lib.hid hR
    have q0 : (i : Int) < (n : Int) - 1 := by omega
    clear h hn hR hlast
    go_enter Try.func82, Try.ntmps82
    go_wp2_with fail
    go_ret
    rw [HR.out]
    exact ⟨rfl, Below.refl _ _⟩
  · have hR : Oz.canR l i j = Oz.safeB l j i := by unfold Oz.canR; rw [← hn, decide_eq_false hlast]; rfl
    have HR := Lib.hid hR
    have q0 : ¬ ((i : Int) < (n : Int) - 1) := by omega
    clear h hn hR hlast
    go_enter Try.func82, Try.ntmps82
    go_wp2_with fail
    refine HS.out.mono ?_
    rintro e w2 ⟨rfl, hb2⟩
    have HB2 := Lib.hid hb2
    rw [← HR.out]
    obtain ⟨b, hb⟩ : ∃ b, b = Oz.canR l i j := ⟨_, rfl⟩
    rw [← hb]
    have HB := Lib.hid hb
    clear hb2 hb HS
    go_wp2_with fail
    go_ret
    rw [← HB.out]
    exact ⟨rfl, HB2.out⟩
theorem EdX.cut {w : World} {base g gs cap : Nat} {l : List St} {vs : List Value} {V : Value} (h : EdX w base g gs cap l vs V) {k : Nat} (hk : k ≤ l.length) : EdX (w.setCell ⟨g, 0, none⟩ (.slice (some ⟨gs, 0, none⟩) k cap)) base g gs cap (l.take k) (vs.take k) V ∧ FrX base w (w.setCell ⟨g, 0, none⟩ (.slice (some ⟨gs, 0, none⟩) k cap)) := by
  obtain ⟨cs, e1, e2, e3⟩ := h.blk
  have hne := h.ne
  have hle := h.le
  have hcap := h.cap
  have hkl : (l.take k).length = k := by rw [List.length_take]; omega
  have hgs : (w.setCell ⟨g, 0, none⟩ (.slice (some ⟨gs, 0, none⟩) k cap)).heap[gs]? = w.heap[gs]? := Below.heap_setCell w ⟨g, 0, none⟩ _ gs (fun e => hne e.symm)
  have hget : ∀ {α : Type} (xs : List α) (q : Nat) (x : α), (xs.take k)[q]? = some x → xs[q]? = some x := fun xs q x hx => by
    rw [List.getElem?_take] at hx
    split at hx
    · exact hx
    · cases hx
  refine ⟨⟨by rw [hkl]; exact h.ed.set_ 0 _, ⟨cs, e1.far (p := ⟨g, 0, none⟩) (fun e => hne e.symm) _, e2, fun q v hq hv => e3 q v (by omega) hv⟩, by rw [List.length_take, List.length_take, h.len], fun q s v hs hv => (h.cells q s v (hget l q s hs) (hget vs q v hv)).same hgs, fun q s v hs hv => ?_, fun a b v v' hab hv hv' => h.dis a b v v' hab (hget vs a v hv) (hget vs b v' hv'), by omega, by omega, h.hg, h.hgs⟩, (FrX.refl base w).setCell (p := ⟨g, 0, none⟩) h.hg h.ed (by decide) _⟩
  have hs' := hget l q s hs
  have hv' := hget vs q v hv
  exact own_same (h.own q s v hs' hv') (fun b hb => Below.heap_setCell w ⟨g, 0, none⟩ _ b (h.apart hs' hv' hb).1)
end Go.Proofs.Ytniefnjcimempaa
namespace Go.Proofs.Ytniefnjcimempaa
open Go.RowKit
def fRp (i j : Nat) (a : Int) : Int := if a = (i : Int) then (j : Int) else a
theorem mapFrom_mem {f : Int → Int} {i p : Nat} {l : List St} {t : St} (h : t ∈ mapFrom f i p l) : ∃ s ∈ l, t = s ∨ t = Oz.mapA f s := by
  obtain ⟨q, hq⟩ := List.getElem?_of_mem h
  rw [mapFrom_at] at hq
  cases hl : l[q]? with
  | none => rw [hl] at hq; cases hq
  | some s =>
    rw [hl, Option.map_some] at hq
    injection hq with hq
    refine ⟨s, List.mem_of_getElem? hl, ?_⟩
    split at hq
    · exact .inr hq.symm
    · exact .inl hq.symm
def RepEnd (base g gs cap : Nat) (_l : List St) (_vs : List Value) (V : Value) (r : Option (List St)) (w : World) (e : Ending) (w' : World) : Prop := e = .returned (.bool r.isSome) ∧ match r with
  | none => Below w.heap.size w w'
  | some l' => (∃ vs', EdX w' base g gs cap l' vs' V) ∧ FrX base w w'
set_option maxRecDepth 100000 in
set_option maxHeartbeats 8000000 in
theorem replace_any (base g gs cap i j : Nat) (l : List St) (vs : List Value) (V : Value) (w : World) (h : EdX w base g gs cap l vs V) (hji : j < i) (hil : i < l.length) (hb : ∀ s ∈ l, s.args.length ≤ 3 ∧ ∀ a ∈ s.args, 0 ≤ a ∧ a ≤ 100000) :
    Calls Try.prog 74 #[.pointer (some ⟨g, 0, none⟩), .int .i64 i, .int .i64 j] w (RepEnd base g gs cap l vs V (Oz.replaceR l i j) w) := by
  have hle := h.le
  have hcap := h.cap
  have HRE := Lib.hid (replaceable_any g gs cap l V w h.edAt j i hji hil)
  obtain ⟨cb, hcb⟩ : ∃ cb, cb = Oz.canR l i j := ⟨_, rfl⟩
  rw [← hcb] at HRE
  obtain ⟨n, hn⟩ : ∃ n, n = l.length := ⟨_, rfl⟩
  obtain ⟨R, hR⟩ : ∃ R, R = Oz.replaceR l i j := ⟨_, rfl⟩
  rw [← hR]
  have HR := Lib.hid hR
  have HCB := Lib.hid hcb
  have HN := Lib.hid hn.symm
  have HH := Lib.hid h
  have HBB := Lib.hid hb
  have hbase : base ≤ w.heap.size := Nat.le_trans h.hg (Nat.le_of_lt h.ed.lt)
  have hgl := h.ed.lt
  rw [← hn] at hcap hil hle
  clear h hcb hn hR hb
  go_enter Try.func74, Try.ntmps74
  go_wp2_with fail
  refine HRE.out.mono ?_
  rintro e w1 ⟨rfl, hb1⟩
  have HE1 := Lib.hid (HH.out.below hb1)
  have HB1 := Lib.hid hb1
  have HF1 := Lib.hid ((FrX.refl base w).below hb1 hbase)
  have hz1 := hb1.size
  clear hb1 HRE
  cases cb with
  | false =>
    have HRN : Hid (R = none) := Lib.hid (by rw [HR.out]; unfold Oz.replaceR; rw [if_pos HCB.out.symm])
    go_wp2_with fail
    go_ret
    unfold RepEnd
    rw [HRN.out]
    exact ⟨rfl, HB1.out⟩
  | true =>
    have x0 := HE1.out.ed.cell 0
    simp only [List.getElem?_toArray, List.getElem?_cons_zero] at x0
    rw [HN.out] at x0
    have hfz := HE1.out.ed.frozen 0
    by_cases hlast : i + 1 = n
    · have HRN : Hid (R = some (l.take (j + 1))) := Lib.hid (by rw [HR.out]; unfold Oz.replaceR; rw [if_neg (by rw [← HCB.out]; simp), if_pos (by rw [HN.out]; exact hlast)])
      have hcut := HE1.out.cut (k := j + 1) (by rw [HN.out]; omega)
      have HCUT := Lib.hid hcut.1
      have HFC := Lib.hid (HF1.out.trans hcut.2)
      have q0 : ((i : Int) == (n : Int) - 1) = true := by rw [beq_iff_eq]; omega
      have q1 : (j : Int) + 1 ≤ (cap : Int) := by omega
      have q2 : (0 : Int) ≤ (j : Int) + 1 := by omega
      have hw := IntWalk.i64_in ((n : Int) - 1) (by omega)
      clear hcut
      go_wp2_with fail
      go_ret
      unfold RepEnd
      rw [HRN.out]
      exact ⟨rfl, ⟨_, HCUT.out⟩, HFC.out⟩
    · have HRN : Hid (R = some (Oz.removeR (l.take (i + 1) ++ (l.drop (i + 1)).map (Oz.mapA (fRp i j))) i)) := Lib.hid (by rw [HR.out]; unfold Oz.replaceR; rw [if_neg (by rw [← HCB.out]; simp), if_neg (by rw [HN.out]; exact hlast)]; rfl)
      obtain ⟨d, hd⟩ : ∃ d, d = n - (i + 1) := ⟨_, rfl⟩
      have qd : n - (i + 1) = d := hd.symm
      have HDN : Hid (i + 1 + d = n) := Lib.hid (by omega)
      have qe : ¬ (cap = i + 1) := by omega
      have q0 : ((i : Int) == (n : Int) - 1) = false := beq_eq_false_iff_ne.2 (by omega)
      have q0' : ¬ ((i : Int) = (n : Int) - 1) := by omega
      have q1 : (i : Int) + 1 ≤ (n : Int) := by omega
      have q2 : (0 : Int) ≤ (i : Int) + 1 := by omega
      have q3 : (n : Int) ≤ (cap : Int) := by omega
      have hw := IntWalk.i64_in ((n : Int) - 1) (by omega)
      have hdb : d ≤ 100000 := by omega
      have hib : i + 1 < l.length := by rw [HN.out]; omega
      have HIB := Lib.hid hib
      have HT0 : Hid (EdX w1 base g gs cap (mapFrom (fRp i j) (i + 1) 0 l) vs V) := Lib.hid (by rw [mapFrom_zero]; exact HE1.out)
      clear hd hib hfz
      go_wp2_with fail
      clear x0 hw q0 q0'
      go_loopg [8, 9, 10, 42, 49] (d + 1) (fun f _ _ _ c _ wr => XrRel base g gs cap (fRp i j) (i + 1) d l vs V w f c wr)
      case atStart => exact ⟨0, rfl, by omega, by omega, HT0, HF1⟩
      case round =>
        clear HT0 HF1
        obtain ⟨p, rfl, hp, hpf, HE, HF⟩ := hrel
        obtain ⟨f, rfl⟩ : ∃ f, gk = f + 1 := ⟨gk - 1, by omega⟩
        by_cases hlt : p < d
        · obtain ⟨s, hs⟩ : ∃ s, l[i + 1 + p]? = some s := ⟨l[i + 1 + p]'(by have := HN.out; have := HDN.out; omega), List.getElem?_eq_getElem _⟩
          have hs' : (mapFrom (fRp i j) (i + 1) p l)[i + 1 + p]? = some s := mapFrom_get.trans hs
          have hsb := HBB.out s (List.mem_of_getElem? hs)
          obtain ⟨v, hv, ⟨x0, x1, x2, x3, x4⟩, ho⟩ := HE.out.at_ hs'
          obtain ⟨A, c, rfl⟩ := own_form ho
          rw [show (i + 1 + p) * 5 = (i + 1) * 5 + p * 5 by omega] at x0 x1 x2 x3 x4
          have HMS := Lib.hid (mapFrom_succ (f := fRp i j) hs)
          have HS := Lib.hid hs
          have HV := Lib.hid hv
          have HSB := Lib.hid hsb.2
          have hal := hsb.1
          have q0 : (p : Int) < (d : Int) := by omega
          have q1 : (0 : Int) ≤ (p : Int) := by omega
          have HLEN := Lib.hid (show i + 1 + p < (mapFrom (fRp i j) (i + 1) p l).length from (List.getElem?_eq_some_iff.1 hs').1)
          have HE3 := Lib.hid (fun o => HE.out.below (below_alloc wr o))
          have HF3 := Lib.hid (fun o => HF.out.below (below_alloc wr o) (Nat.le_trans HE.out.hg (Nat.le_of_lt HE.out.ed.lt)))
          have HSET : Hid ((mapFrom (fRp i j) (i + 1) p l).set (i + 1 + p) { s with args := argsTo (fRp i j) s.args 0 } = mapFrom (fRp i j) (i + 1) p l) := Lib.hid (by
            rw [argsTo_zero]
            apply List.ext_getElem?
            intro q
            by_cases hq : i + 1 + p = q
            · subst hq
              rw [List.getElem?_set_self (List.getElem?_eq_some_iff.1 hs').1, hs']
            · rw [List.getElem?_set_ne hq])
          clear hs hs' hv hsb ho HE HF
          go_upto_region 9 with (fail)
          obtain ⟨wo, hwo⟩ : ∃ wo, wo = wr.alloc (.cells #[.string ⟨s.op.toArray⟩, .slice A s.args.length c, .int .i64 s.num, .string ⟨s.text.toArray⟩, .int .i64 s.ty] 25) := ⟨_, rfl⟩
          rw [← hwo]
          have hkb : Blk wo wr.heap.size 25 #[.string ⟨s.op.toArray⟩, .slice A s.args.length c, .int .i64 s.num, .string ⟨s.text.toArray⟩, .int .i64 s.ty] := by rw [hwo]; exact Blk.new _ _ _
          have y1 := hkb.cell 1
          simp only [List.getElem?_toArray, List.getElem?_cons_zero, List.getElem?_cons_succ] at y1
          have HKB := Lib.hid hkb
          have HEo : Hid (EdX wo base g gs cap ((mapFrom (fRp i j) (i + 1) p l).set (i + 1 + p) { s with args := argsTo (fRp i j) s.args 0 }) vs V) := Lib.hid (by rw [HSET.out, hwo]; exact HE3.out _)
          have HFo : Hid (FrX base w wo) := Lib.hid (by rw [hwo]; exact HF3.out _)
          clear hwo hkb HE3 HF3 HSET x0 x1 x2 x3 x4
          go_wp2_with fail
          clear y1
          go_loopg [9, 10, 49] (s.args.length + 1) (fun f _ _ c' wi => XiRel base g gs cap (fRp i j) (i + 1) p l s vs V w wr.heap.size #[.string ⟨s.op.toArray⟩, .slice A s.args.length c, .int .i64 s.num, .string ⟨s.text.toArray⟩, .int .i64 s.ty] f c' wi)
          case atStart => exact ⟨0, rfl, by omega, by omega, HKB, HEo, HFo⟩
          case round =>
            clear HKB HEo HFo
            obtain ⟨k, rfl, hk, hkf, HK0, HE, HF⟩ := hrel
            obtain ⟨f2, rfl⟩ : ∃ f2, gk = f2 + 1 := ⟨gk - 1, by omega⟩
            by_cases hkl : k < s.args.length
            · obtain ⟨a, ha⟩ : ∃ a, s.args[k]? = some a := ⟨s.args[k], List.getElem?_eq_getElem hkl⟩
              have hab := HSB.out a (List.mem_of_getElem? ha)
              obtain ⟨q, c2, hv2, hca, hfz, hbq, hset⟩ := HE.out.setArg (i := i + 1 + p) (k := k) (List.getElem?_set_self HLEN.out) HV.out (show k < (argsTo (fRp i j) s.args k).length by rw [argsTo_len]; exact hkl) (j : Int)
              injection hv2 with hA hlen hcc
              clear hlen
              subst hA hcc
              have y5 := hca a (argsTo_get.trans ha)
              have k1 := HK0.out.cell 1
              simp only [List.getElem?_toArray, List.getElem?_cons_zero, List.getElem?_cons_succ] at k1
              have p0 : (k : Int) < (s.args.length : Int) := by omega
              have p1 : (0 : Int) ≤ (k : Int) := by omega
              have hbl : ∃ cur, Blk wr q 3 cur := (own_lo (HE.out.own (i + 1 + p) _ _ (List.getElem?_set_self HLEN.out) HV.out) rfl).2
              by_cases hia : a = (i : Int)
              · have hfa : fRp i j a = (j : Int) := if_pos hia
                have HES : Hid (EdX (wr.setCell ⟨q, k, none⟩ (.int .i64 j)) base g gs cap ((mapFrom (fRp i j) (i + 1) p l).set (i + 1 + p) { s with args := argsTo (fRp i j) s.args (k + 1) }) vs V) := Lib.hid (by
                  have h := hset
                  rw [List.set_set] at h
                  rw [argsTo_succ ha, hfa]
                  exact h)
                obtain ⟨cur, hB⟩ := hbl
                have HFS := Lib.hid (HF.out.setCell (p := ⟨q, k, none⟩) hbq hB (by decide) (.int .i64 j))
                have HKS := Lib.hid (HK0.out.far (p := ⟨q, k, none⟩) (HK0.out.ne_ hB (by decide)) (.int .i64 j))
                clear ha hab hca hset hB hfa
                subst hia
                go_wp2_with fail
                go_roundg f2
                case measure => omega
                case rel => exact ⟨k + 1, by go_num, by omega, by omega, HKS, HES, HFS⟩
              · have hfa : fRp i j a = a := if_neg hia
                have HES : Hid (EdX wr base g gs cap ((mapFrom (fRp i j) (i + 1) p l).set (i + 1 + p) { s with args := argsTo (fRp i j) s.args (k + 1) }) vs V) := Lib.hid (by rw [argsTo_skip ha hfa]; exact HE.out)
                have hne : (a == (i : Int)) = false := beq_eq_false_iff_ne.2 hia
                clear ha hab hca hset hbl hfa
                go_wp2_with fail
                go_roundg f2
                case measure => omega
                case rel => exact ⟨k + 1, by go_num, by omega, by omega, HK0, HES, HF⟩
            · have hkk : k = s.args.length := by omega
              subst hkk
              have p0 : ¬ ((s.args.length : Int) < (s.args.length : Int)) := by omega
              have HEE : Hid (EdX wr base g gs cap (mapFrom (fRp i j) (i + 1) (p + 1) l) vs V) := Lib.hid (by
                have h := HE.out
                rw [argsTo_all] at h
                rw [HMS.out]
                exact h)
              go_wp2_with fail
              go_roundg f
              case measure => omega
              case rel => exact ⟨p + 1, by go_num, by omega, by omega, HEE, HF⟩
        · have hpd : p = d := by omega
          subst hpd
          have p0 : ¬ ((p : Int) < (p : Int)) := by omega
          have HRM := Lib.hid (remove_any base g gs cap i (mapFrom (fRp i j) (i + 1) p l) vs V wr HE.out (by rw [mapFrom_len]; exact HIB.out) (fun t ht => by
            obtain ⟨s, hs, hc⟩ := mapFrom_mem ht
            have hsb := HBB.out s hs
            rcases hc with rfl | rfl
            · exact hsb
            · refine ⟨by unfold Oz.mapA; simpa using hsb.1, fun a ha => ?_⟩
              unfold Oz.mapA at ha
              obtain ⟨b, hb, rfl⟩ := List.mem_map.1 ha
              have := hsb.2 b hb
              unfold fRp
              split <;> omega))
          go_wp2_with fail
          refine HRM.out.mono ?_
          rintro e w7 ⟨rfl, he7, hf7⟩
          have HE7 := Lib.hid he7
          have HF7 := Lib.hid (HF.out.trans hf7)
          clear he7 hf7 HRM
          go_wp2_with fail
          go_ret
          unfold RepEnd
          rw [HRN.out]
          have h7 := HE7.out
          rw [mapFrom_all (by rw [HN.out]; exact HDN.out)] at h7
          exact ⟨rfl, ⟨_, h7⟩, HF7.out⟩
end Go.Proofs.Ytniefnjcimempaa
