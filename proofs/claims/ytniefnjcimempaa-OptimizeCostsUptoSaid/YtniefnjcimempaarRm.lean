/- The walks of plan.operands and plan.stepOf. The memory of plan.Of: the open visits, and the steps that are laid. Steps in the memory of plan.Of. -/
import Derived.Test.YtniefnjcimempaarPoP
import Derived.Test.YtniefnjcimempaarRx1
import Derived.Test.YtniefnjcimempaarRzF
import Derived.WalkSpells
import Derived.Test.YtniefnjcimempaarRx4
import Derived.Test.YtniefnjcimempaarRj
import Derived.Test.YtniefnjcimempaarRk
import Derived.IntWalk
namespace Go.Proofs.Ytniefnjcimempaa
open Go.RowKit
def stepC (x : Tx) (A : Option Addr) (c : Nat) (idx : List Int) : List Value :=
  if x.kind = 1 ∨ x.kind = 2 ∨ x.kind = 3 then [.string ⟨(stepR x idx).op.toArray⟩, .slice none 0 0, .int .i64 (stepR x idx).num, .string ⟨(stepR x idx).text.toArray⟩, .int .i64 (stepR x idx).ty]
  else [.string ⟨(stepR x idx).op.toArray⟩, .slice A idx.length c, .int .i64 (stepR x idx).num, .string ⟨(stepR x idx).text.toArray⟩, .int .i64 (stepR x idx).ty]
end Go.Proofs.Ytniefnjcimempaa
namespace Go.Proofs.Ytniefnjcimempaa
open Go.RowKit
theorem own_same {w w' : World} {base e size n : Nat} {v : Value} {xs : List Value} (h : w.ownsRow base e size v n xs) (hk : ∀ g, v.ownBlock = some g → w'.heap[g]? = w.heap[g]?) : w'.ownsRow base e size v n xs := by
  refine ⟨h.1, ?_⟩
  rcases h.2 with h | ⟨g, cap, cur, h1, h2, h3, h4⟩
  · exact .inl h
  · exact .inr ⟨g, cap, cur, h1, h2, (hk g (by rw [h1]; rfl)).trans h3, h4⟩
def VisVs (w : World) (base : Nat) : List (Lx × List Int) → List Value → List (Option Nat) → Prop
  | [], xs, D => xs = [] ∧ D = []
  | (x, idx) :: st, xs, D => ∃ xs' A c D', xs = xs' ++ [.pointer (some x.ad), .slice A idx.length c] ∧ D = (Value.slice A idx.length c).ownBlock :: D' ∧ (∀ g, (Value.slice A idx.length c).ownBlock = some g → some g ∉ D') ∧
      w.ownsRow base 3 1 (.slice A idx.length c) idx.length (idx.map (Value.int .i64)) ∧ VisVs w base st xs' D'
theorem VisVs.keep {w w' : World} {base : Nat} : ∀ {st : List (Lx × List Int)} {xs : List Value} {D : List (Option Nat)}, VisVs w base st xs D → (∀ g, some g ∈ D → w'.heap[g]? = w.heap[g]?) → VisVs w' base st xs D
  | [], _, _, h, _ => h
  | (x, idx) :: st, xs, D, h, hk => by
    obtain ⟨xs', A, c, D', h1, h2, h3, h4, h5⟩ := h
    exact ⟨xs', A, c, D', h1, h2, h3, own_same h4 (fun g hg => hk g (by rw [h2, hg]; exact List.mem_cons_self ..)), VisVs.keep h5 (fun g hg => hk g (by rw [h2]; exact List.mem_cons_of_mem _ hg))⟩
theorem VisVs.len {w : World} {base : Nat} : ∀ {st : List (Lx × List Int)} {xs : List Value} {D : List (Option Nat)}, VisVs w base st xs D → xs.length = 2 * st.length
  | [], _, _, h => by rw [h.1]; rfl
  | (x, idx) :: st, xs, D, h => by
    obtain ⟨xs', A, c, D', h1, h2, h3, h4, h5⟩ := h
    rw [h1, List.length_append, h5.len, List.length_cons]
    simp; omega
theorem VisVs.blk {w : World} {base : Nat} : ∀ {st : List (Lx × List Int)} {xs : List Value} {D : List (Option Nat)}, VisVs w base st xs D → ∀ g, some g ∈ D → base ≤ g ∧ ∃ cur, Blk w g 3 cur
  | [], _, _, h, g, hg => by rw [h.2] at hg; cases hg
  | (x, idx) :: st, xs, D, h, g, hg => by
    obtain ⟨xs', A, c, D', h1, h2, h3, h4, h5⟩ := h
    rw [h2] at hg
    rcases List.mem_cons.1 hg with hg | hg
    · exact own_lo h4 hg.symm
    · exact h5.blk g hg
def stF (w : World) (base : Nat) (D : List (Option Nat)) (i : Nat) : Prop := base ≤ i ∧ i < w.heap.size ∧ some i ∉ D ∧ ∃ cur, Blk w i 3 cur
def PoS (wr : World) (base : Nat) (root : Lx) (gp : Nat) (v : Value) (st : List (Lx × List Int)) (P : List St) : Prop :=
  ∃ xs D A c css, wr.ownsRow base 68 2 v st.length xs ∧ VisVs wr base st xs D ∧ Blk wr gp 28 #[.slice A P.length c] ∧ wr.ownsRow base 25 5 (.slice A P.length c) P.length css ∧
    StVs wr (stF wr base D) P css ∧ LxAt wr (fun i => i < base) root ∧ base ≤ gp ∧ base ≤ wr.heap.size
def IdxOk : List (Lx × List Int) → Prop
  | [] => True
  | (x, idx) :: st => idx.length ≤ opsN x.er ∧ ∀ q ∈ st, q.2.length < opsN q.1.er
def PoOk (root : Lx) (st : List (Lx × List Int)) (P : List St) : Prop := contA st [] P = planT root.er ∧ (∀ q ∈ st, Sub q.1 root ∧ ∃ t, typX q.1 = .ok t) ∧ IdxOk st ∧ P.length + muV st ≤ 2 * root.size
theorem PoOk.push {root x y : Lx} {idx : List Int} {st : List (Lx × List Int)} {P : List St} (h : PoOk root ((x, idx) :: st) P) (hi : idx.length < opsN x.er) (hy : x.args[idx.length]? = some y) : PoOk root ((y, []) :: (x, idx) :: st) P ∧ muV ((y, []) :: (x, idx) :: st) < muV ((x, idx) :: st) := by
  obtain ⟨h1, h2, h3, h4⟩ := h
  have hx := h2 (x, idx) (List.mem_cons_self ..)
  obtain ⟨hxs, t, ht⟩ := hx
  have hm : muV ((y, []) :: (x, idx) :: st) < muV ((x, idx) :: st) := by
    have e1 := size_drop hy
    have e2 := y.size_eq
    show 2 * sizeXL (y.args.drop 0) + 1 + (2 * sizeXL (x.args.drop (idx.length + 1)) + 1 + muT st) < 2 * sizeXL (x.args.drop idx.length) + 1 + muT st
    rw [List.drop_zero]
    omega
  refine ⟨⟨(contA_push x idx st P y hi hy).symm.trans h1, fun q hq => ?_, ⟨Nat.zero_le _, fun q hq => ?_⟩, by omega⟩, hm⟩
  · rcases List.mem_cons.1 hq with rfl | hq
    · exact ⟨.arg (List.mem_of_getElem? hy) hxs, typ_arg ht hi hy⟩
    · exact h2 q hq
  · rcases List.mem_cons.1 hq with rfl | hq
    · exact hi
    · exact h3.2 q hq
theorem PoOk.last {root x : Lx} {idx : List Int} {P : List St} (h : PoOk root [(x, idx)] P) (hi : opsN x.er ≤ idx.length) : PoOk root [] (P ++ [stepR x.er idx]) := by
  obtain ⟨h1, h2, h3, h4⟩ := h
  have hc : contA [] [] (P ++ [stepR x.er idx]) = planT root.er := by rw [← h1, contA_done x idx [] P hi]; rfl
  refine ⟨hc, (fun q hq => by cases hq), trivial, ?_⟩
  · rw [List.length_append]
    have : P.length + (2 * sizeXL (x.args.drop idx.length) + 1 + 0) ≤ 2 * root.size := h4
    show P.length + 1 + 0 ≤ _
    omega
theorem PoOk.done {root x y : Lx} {idx jdx : List Int} {st : List (Lx × List Int)} {P : List St} (h : PoOk root ((x, idx) :: (y, jdx) :: st) P) (hi : opsN x.er ≤ idx.length) : PoOk root ((y, jdx ++ [(P.length : Int)]) :: st) (P ++ [stepR x.er idx]) ∧ muV ((y, jdx ++ [(P.length : Int)]) :: st) < muV ((x, idx) :: (y, jdx) :: st) := by
  obtain ⟨h1, h2, h3, h4⟩ := h
  have hm : muV ((y, jdx ++ [(P.length : Int)]) :: st) < muV ((x, idx) :: (y, jdx) :: st) := by
    show 2 * sizeXL (y.args.drop (jdx ++ [(P.length : Int)]).length) + 1 + muT st < 2 * sizeXL (x.args.drop idx.length) + 1 + (2 * sizeXL (y.args.drop (jdx.length + 1)) + 1 + muT st)
    rw [List.length_append, List.length_singleton]
    omega
  refine ⟨⟨?_, fun q hq => ?_, ⟨?_, fun q hq => h3.2 q (List.mem_cons_of_mem _ hq)⟩, by rw [List.length_append, List.length_singleton]; omega⟩, hm⟩
  · rw [← contA_ret, ← contA_done x idx ((y, jdx) :: st) P hi]
    exact h1
  · rcases List.mem_cons.1 hq with rfl | hq
    · exact h2 (y, jdx) (by simp)
    · exact h2 q (by simp [hq])
  · have := h3.2 (y, jdx) (List.mem_cons_self ..)
    rw [List.length_append, List.length_singleton]
    exact this
end Go.Proofs.Ytniefnjcimempaa
namespace Go.Proofs.Ytniefnjcimempaa
open Go.RowKit
theorem reads5 (w : World) (a b c d e : Value) (t : TypeId) : Reads (w.alloc (.cells #[a, b, c, d, e] t)) (w.heap.size + 1) 5 (some ⟨w.heap.size, 0, none⟩) 1 [a, b, c, d, e] :=
  ⟨rfl, fun _ => ⟨_, rfl, by simp, fun j u hu => news_alloc w #[a, b, c, d, e] t j u hu⟩⟩
theorem VisVs.keep_int {w w' : World} {base : Nat} {st : List (Lx × List Int)} {xs : List Value} {D : List (Option Nat)} (h : VisVs w base st xs D) (hk : ∀ g cur, some g ∈ D → Blk w g 3 cur → w'.heap[g]? = w.heap[g]?) : VisVs w' base st xs D :=
  h.keep (fun g hg => by obtain ⟨_, cur, hc⟩ := h.blk g hg; exact hk g cur hg hc)
theorem StVs.keep_int {w w' : World} {base : Nat} {D D' : List (Option Nat)} {P : List St} {css : List Value} (h : StVs w (stF w base D) P css) (hk : ∀ i cur, some i ∉ D → Blk w i 3 cur → w'.heap[i]? = w.heap[i]?) (hs : w.heap.size ≤ w'.heap.size)
    (hD : ∀ i, i < w.heap.size → some i ∉ D → some i ∉ D') : StVs w' (stF w' base D') P css :=
  h.keep (fun i hi _ => by obtain ⟨_, _, h3, cur, h4⟩ := hi; exact hk i cur h3 h4) hs (fun i hi hl => by
    obtain ⟨h1, h2, h3, cur, h4⟩ := hi
    exact ⟨h1, by omega, hD i hl h3, cur, (hk i cur h3 h4).trans h4⟩)
theorem PoS.first {_w1 wz : World} {base : Nat} {root : Lx} {gp : Nat} {v : Value} (h1 : Blk wz gp 28 #[.slice none 0 0]) (h2 : base ≤ gp) (h3 : base ≤ wz.heap.size) (hL : LxAt wz (fun i => i < base) root)
    (hv : wz.ownsRow base 68 2 v 1 [.pointer (some root.ad), .slice none 0 0]) : PoS wz base root gp v [(root, [])] [] :=
  ⟨_, [none], none, 0, [], hv, ⟨[], none, 0, [], rfl, rfl, (fun g hg => by cases hg), ⟨rfl, .inl ⟨rfl, rfl⟩⟩, rfl, rfl⟩, h1, ⟨rfl, .inl ⟨rfl, rfl⟩⟩, rfl, hL, h2, h3⟩
theorem PoS.push {wr w5 : World} {base : Nat} {root y : Lx} {gp : Nat} {v v5 : Value} {st : List (Lx × List Int)} {P : List St} {xs css : List Value} {D : List (Option Nat)} {A : Option Addr} {c : Nat}
    (hv : wr.ownsRow base 68 2 v st.length xs) (hV : VisVs wr base st xs D) (hB : Blk wr gp 28 #[.slice A P.length c]) (hS : wr.ownsRow base 25 5 (.slice A P.length c) P.length css)
    (hT : StVs wr (stF wr base D) P css) (hL : LxAt wr (fun i => i < base) root) (hgp : base ≤ gp) (hbs : base ≤ wr.heap.size) (hG : wr.grownBy w5 v.ownBlock)
    (hv5 : w5.ownsRow base 68 2 v5 (st.length + 1) (xs ++ [.pointer (some y.ad), .slice none 0 0])) : PoS w5 base root gp v5 ((y, []) :: st) P := by
  have hk : ∀ i t cur, 68 ≠ t → Blk wr i t cur → w5.heap[i]? = wr.heap[i]? := fun i t cur ht hb => hG.block i hb.lt (fun e => own_blk_ne hv hb ht e.symm)
  refine ⟨_, none :: D, A, c, css, hv5, ⟨xs, none, 0, D, rfl, rfl, (fun g h => by cases h), ⟨rfl, .inl ⟨rfl, rfl⟩⟩, hV.keep_int (fun i cur _ hb => hk i _ cur (by decide) hb)⟩,
    (hk gp _ _ (by decide) hB).trans hB, own_same hS (fun g hg => ?_), hT.keep_int (fun i cur _ hb => hk i _ cur (by decide) hb) hG.size (fun i _ h h' => ?_), ?_, hgp, Nat.le_trans hbs hG.size⟩
  · obtain ⟨_, cur, hc⟩ := own_lo hS hg
    exact hk g _ cur (by decide) hc
  · rcases List.mem_cons.1 h' with h' | h'
    · cases h'
    · exact h h'
  · exact LxAt.keep (F := fun i => i < base) (fun i hi hl => hG.block i hl (fun e => by have := (own_lo hv e.symm).1; omega)) (fun _ h _ => h) root hL
theorem stepC_v {w : World} {F : Nat → Prop} {x : Tx} {idx : List Int} {A : Option Addr} {c : Nat} (h : RdF w F 1 A idx.length (idx.map (Value.int .i64))) : StV w F (stepR x idx) (stepC x A c idx) := by
  unfold stepC
  split
  · rename_i hk
    have ha : (stepR x idx).args = [] := by
      unfold stepR
      rcases hk with hk | hk | hk
      · rw [if_pos hk]
      · rw [if_neg (by omega), if_pos hk]
      · rw [if_neg (by omega), if_neg (by omega), if_pos hk]
    exact ⟨none, 0, by rw [ha]; rfl, by rw [ha]; exact ⟨rfl, fun h => absurd h (by decide)⟩⟩
  · rename_i hk
    have ha : (stepR x idx).args = idx := by
      unfold stepR
      rw [if_neg (fun h => hk (.inl h)), if_neg (fun h => hk (.inr (.inl h))), if_neg (fun h => hk (.inr (.inr h)))]
    exact ⟨A, c, by rw [ha], by rw [ha]; exact h⟩
theorem PoS.done {wr w6 : World} {base : Nat} {root x : Lx} {idx : List Int} {gp g c : Nat} {st : List (Lx × List Int)} {P : List St} {xs css : List Value} {D : List (Option Nat)} {A Ai A5 : Option Addr} {ci c5 cs : Nat}
    (hv : wr.ownsRow base 68 2 (.slice (some ⟨g, 0, none⟩) (st.length + 1) c) (st.length + 1) (xs ++ [.pointer (some x.ad), .slice Ai idx.length ci])) (hV : VisVs wr base st xs D) (hD : ∀ g, (Value.slice Ai idx.length ci).ownBlock = some g → some g ∉ D)
    (hI : wr.ownsRow base 3 1 (.slice Ai idx.length ci) idx.length (idx.map (Value.int .i64)))
    (_hS : wr.ownsRow base 25 5 (.slice A P.length cs) P.length css)
    (hT : StVs wr (stF wr base ((Value.slice Ai idx.length ci).ownBlock :: D)) P css) (hL : LxAt wr (fun i => i < base) root) (hgp : base ≤ gp) (hbs : base ≤ wr.heap.size)
    (hk : ∀ i t cur, 25 ≠ t → 28 ≠ t → Blk wr i t cur → w6.heap[i]? = wr.heap[i]?) (hlo : ∀ i, i < base → w6.heap[i]? = wr.heap[i]?) (hs : wr.heap.size ≤ w6.heap.size)
    (hB : Blk w6 gp 28 #[.slice A5 (P.length + 1) c5])
    (hS5 : w6.ownsRow base 25 5 (.slice A5 (P.length + 1) c5) (P.length + 1) (css ++ stepC x.er Ai ci idx)) : PoS w6 base root gp (.slice (some ⟨g, 0, none⟩) st.length c) st (P ++ [stepR x.er idx]) := by
  have hcut := own_cut hv st.length (by omega) (by omega)
  have hlen := hV.len
  rw [List.take_append_of_le_length (by omega), List.take_of_length_le (by omega)] at hcut
  refine ⟨xs, D, A5, c5, css ++ stepC x.er Ai ci idx, own_same hcut (fun g hg => ?_), hV.keep_int (fun i cur _ hb => hk i _ cur (by decide) (by decide) hb), by rw [List.length_append]; exact hB, by rw [List.length_append]; exact hS5, ?_, ?_, hgp, by omega⟩
  · obtain ⟨_, cur, hc⟩ := own_lo hcut hg
    exact hk g _ cur (by decide) (by decide) hc
  · refine StVs.append (hT.keep_int (fun i cur _ hb => hk i _ cur (by decide) (by decide) hb) hs (fun i _ h h' => h (List.mem_cons_of_mem _ h'))) (StVs.one (stepC_v ?_))
    refine ⟨hI.1, fun hn => ?_⟩
    obtain ⟨gi, c', hvi, _, hbg, hgl, hc⟩ := own_at hI hn
    injection hvi with hA
    subst hA
    obtain ⟨_, cur, hb⟩ := own_lo hI (g := gi) rfl
    have he := hk gi _ cur (by decide) (by decide) hb
    exact ⟨gi, 0, rfl, ⟨hbg, by omega, hD gi rfl, cur, he.trans hb⟩, by omega, fun j u hj => by rw [Nat.zero_add]; exact (World.cell?_of_block he).trans (hc j u hj)⟩
  · exact LxAt.keep (F := fun i => i < base) (fun i hi hl => hlo i hi) (fun _ h _ => h) root hL
theorem PoS.above {wr w6 : World} {base : Nat} {root y : Lx} {jdx : List Int} {r : Int} {gp : Nat} {v Vi : Value} {st : List (Lx × List Int)} {P : List St} {xs css : List Value} {D : List (Option Nat)} {A Aj : Option Addr} {cj cs : Nat}
    (hV : VisVs wr base st xs D) (hD : ∀ g, (Value.slice Aj jdx.length cj).ownBlock = some g → some g ∉ D) (hB : Blk wr gp 28 #[.slice A P.length cs])
    (hS : wr.ownsRow base 25 5 (.slice A P.length cs) P.length css)
    (hT : StVs wr (stF wr base ((Value.slice Aj jdx.length cj).ownBlock :: D)) P css) (hL : LxAt wr (fun i => i < base) root) (hgp : base ≤ gp) (hbs : base ≤ wr.heap.size)
    (hk : ∀ i t cur, 68 ≠ t → (Value.slice Aj jdx.length cj).ownBlock ≠ some i → Blk wr i t cur → w6.heap[i]? = wr.heap[i]?) (hlo : ∀ i, i < base → w6.heap[i]? = wr.heap[i]?) (hs : wr.heap.size ≤ w6.heap.size)
    (hI : w6.ownsRow base 3 1 Vi (jdx.length + 1) (jdx.map (Value.int .i64) ++ [.int .i64 r])) (hIb : Vi.ownBlock = (Value.slice Aj jdx.length cj).ownBlock ∨ ∃ g, Vi.ownBlock = some g ∧ wr.heap.size ≤ g) (hIn : ∀ i t cur, 3 ≠ t → Blk wr i t cur → (Value.slice Aj jdx.length cj).ownBlock ≠ some i)
    (hv : w6.ownsRow base 68 2 v (st.length + 1) (xs ++ [.pointer (some y.ad), Vi])) : PoS w6 base root gp v ((y, jdx ++ [r]) :: st) P := by
  obtain ⟨A', c', rfl⟩ := own_form hI
  refine ⟨_, (Value.slice A' (jdx.length + 1) c').ownBlock :: D, A, cs, css, hv, ⟨xs, A', c', D, by simp, by simp [Value.ownBlock], fun g hg => ?_, by simpa using hI, hV.keep_int (fun i cur hi hb => hk i _ cur (by decide) (fun e => hD i e hi) hb)⟩,
    (hk gp _ _ (by decide) (hIn gp _ _ (by decide) hB) hB).trans hB, own_same hS (fun g hg => ?_), hT.keep_int (fun i cur hi hb => hk i _ cur (by decide) (fun e => hi (by rw [e]; exact List.mem_cons_self ..)) hb) hs (fun i hl h h' => ?_), ?_, hgp, by omega⟩
  · have hg : (Value.slice A' (jdx.length + 1) c').ownBlock = some g := by simpa [Value.ownBlock] using hg
    rcases hIb with h | ⟨g', h, hg'⟩
    · exact hD g (h.symm.trans hg)
    · intro hm
      rw [h] at hg
      injection hg with hg
      obtain ⟨_, cur, hb⟩ := hV.blk g hm
      have := hb.lt
      omega
  · obtain ⟨_, cur, hc⟩ := own_lo hS hg
    exact hk g _ cur (by decide) (hIn g _ _ (by decide) hc) hc
  · rcases List.mem_cons.1 h' with h' | h'
    · rcases hIb with h2 | ⟨g', h2, hg'⟩
      · exact h (by rw [h', h2]; exact List.mem_cons_self ..)
      · rw [h2] at h'
        injection h' with h'
        omega
    · exact h (List.mem_cons_of_mem _ h')
  · exact LxAt.keep (F := fun i => i < base) (fun i hi hl => hlo i hi) (fun _ h _ => h) root hL
end Go.Proofs.Ytniefnjcimempaa
