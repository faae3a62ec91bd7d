/- Regions that draw their order within a round of a range over a function; the iterator of letterset.All at a set of one letter. -/
import Derived.RangeFuncNested
import Derived.RangeFuncBound
import Derived.RangeFuncCalls
import Derived.RangeFuncLeaves
import Derived.RangeFuncWrites
import Derived.Shelf.Abstract
import Derived.Shelf.RegionOpen
import Derived.WalkKit
import Derived.OwnWalkIn
import Derived.TacticsInMore
import Derived.LoopNIn
import Derived.LoopIn
import Derived.Test.YtpiagfmjekcncaaDoorjHa
set_option linter.unusedVariables false
set_option linter.unusedSimpArgs false
set_option linter.unusedSectionVars false
namespace Go.Proofs.YtpiagfmjekcncaaDoor
open Go.RowKit
attribute [local go_sem] Oper.semAt_some
theorem oper_in {P : Program} {o : Oper} {a : Act} {w : World} {K : Act → World → Prop} {Q : Exit → Act → World → Prop} (l n : Nat) (hd : ∀ c, o.op ≠ .defer c) (h : o.wp P a w K Q) : o.wpIn (Fence.wide.inRound l) n P a w K Q := by
  refine ⟨fun f _ => trivial, ?_⟩
  rw [show (Fence.wide.inRound l).round = some l from rfl, Oper.semAt_some l _ o hd]
  unfold Oper.wp at h
  cases hr : (execOp a.eval o).run P w with
  | ok x w' =>
    rw [hr] at h
    cases x
    case enter f args =>
      refine ⟨(fun e => by cases e), ?_⟩
      exact CallsIn.inRound l (callsIn_wide.2 h)
    case row row args =>
      refine ⟨(fun e => by cases e), fun c cs _ => ?_⟩
      obtain ⟨v, w'', r, s⟩ := h c cs
      refine ⟨v, w'', r, ?_⟩
      rw [fenced_inRound]
      exact stepsIn_wide.2 s
    all_goals first | exact h | exact h.elim
  | halt s w' =>
    rw [hr] at h
    cases s <;> exact h
theorem any_in {P : Program} {md : Region.Mode} {ops : Array Oper} {Q : Exit → Act → World → Prop} (l n : Nat) (hd : ∀ o ∈ ops, ∀ c, o.op ≠ .defer c) (hQ : ¬ LetsOut Q) : ∀ (m : Nat) (listed : Array Bool) (a : Act) (w : World), wpAny P md ops Q m listed a w → wpAnyIn (Fence.wide.inRound l) n P md ops Q m listed a w
  | 0, _, _, _, h => h
  | m + 1, listed, a, w, h => by
    refine ⟨h.1, fun i hi => ?_⟩
    have h2 := h.2 i hi
    unfold wpOp at h2
    unfold wpOpIn
    cases ho : ops[i]? with
    | none => rw [ho] at h2; exact any_in l n hd hQ m _ _ _ h2
    | some o =>
      rw [ho] at h2
      dsimp only at h2 ⊢
      split at h2
      · rename_i hw
        rw [if_pos hw]
        rcases h2 with h2 | h2
        · exact Oper.wpIn_mono (fun a w h => any_in l n hd hQ m _ a w h) (oper_in l n (hd o (Array.mem_of_getElem? ho)) h2)
        · exact absurd h2.2 hQ
      · rename_i hw
        rw [if_neg hw]
        exact ⟨fun f _ => trivial, any_in l n hd hQ m _ _ _ h2⟩
/-- A region that reads and stores at its end, within a round. -/
theorem wpIn_region_still_tail {P : Program} {id : Nat} {Q : Exit → Act → World → Prop} {a : Act} {w : World} {ops : List Oper} {l m : Nat} (n : Nat) (hQ : ¬ LetsOut Q) (hd : ∀ o ∈ ops.toArray, ∀ c, o.op ≠ .defer c) (hm : P.follows .mixedOrders = true) (hB : Region.lexTailB .any ops.toArray n = true)
    (h : wpStill P ops.toArray { w with drawn := w.drawn + 1 } (fun a' => wpList P ops.toArray Q (ops.drop n) a' { w with drawn := w.drawn + 1 }) (ops.take n) a) : (Code.region id ops.toArray true).wpIn (Fence.wide.inRound l) m P Q a w := by
  simp only [Region.lexTailB, Bool.and_eq_true, decide_eq_true_eq] at hB
  obtain ⟨⟨⟨⟨hsel, hn⟩, hs⟩, hc⟩, hlex⟩ := hB
  have hn' : n < ops.length := by simpa using hn
  have htl : (ops.take n).length = n := by simp; omega
  have hdl : (ops.drop n).length = ops.toArray.size - n := by simp
  have inv0 : HeadInv .any ops.toArray n (Array.replicate ops.toArray.size false) :=
    ⟨by simp, fun j oj _ hl => (by rw [getD_replicate_false] at hl; cases hl), fun t _ ht => getD_in (by simpa using ht) (getD_replicate_false _ _)⟩
  have H := wpAnyL_lex (md := .any) (g := ops.toArray.size - n) hsel hs hc hn (ops.take n) 0 _ a (fun j hj => by
    have hj' : j < n := by rw [htl] at hj; exact hj
    simp [hj']) (by simpa using htl) inv0 (by rw [htl]; exact hlex) h
  refine wpIn_region_any hm (any_in l m hd hQ _ _ _ _ ?_)
  have := wpAny_of_head (Q' := Q) (g := ops.toArray.size - n) (fun listed a' hL => by
    have := wpAny_of_seq (md := .any) (Q' := Q) (ops.drop n) n listed a' { w with drawn := w.drawn + 1 } (fun j => by simp [List.getElem?_drop]) (by rw [hdl]; exact hL.1) hL.2
    rwa [hdl] at this) _ _ _ H
  rw [htl, show n + (ops.toArray.size - n) = ops.toArray.size by omega] at this
  exact this
end Go.Proofs.YtpiagfmjekcncaaDoor
namespace Go.Proofs.YtpiagfmjekcncaaDoor
open Go.RowKit
attribute [local go_sem] Oper.semAt_some
/-- What a round that goes on keeps: whatever is not the automaton's block and lay below n₀. -/
def gB (g n₀ : Nat) (i : Nat) : Prop := i = g ∨ n₀ ≤ i
theorem kpA_t {g n₀ : Nat} {A B C : World} (h : Kept (gB g n₀) A B) (k : Kept (gB g n₀) B C) : Kept (gB g n₀) A C := h.then_ k
theorem kpA_b {g n₀ : Nat} {w : World} (hn : n₀ ≤ w.heap.size) (W : World) (l : Nat) (o o' : Obj) (hl : w.heap.size ≤ l) (_ : W.heap[l]? = some o) (_ : o.isCells = false) (_ : o.isWalk = false) : Kept (gB g n₀) W (W.putObj l o') :=
  ⟨rfl, rfl, rfl, by unfold World.putObj; simp, fun i _ hF => World.putObj_heap_other (fun e => hF (.inr (by omega)))⟩
theorem all_val (S : LS) (w : World) : Calls Tryd.prog 53 #[lsV S] w fun e w' => e = .returned (.func (.func 67) #[] #[.pointer (some ⟨w.heap.size, 0, none⟩)]) ∧ w' = w.alloc (.cells (lsC S).toArray 24) := by
  unfold lsV
  go_enter Tryd.func53, Tryd.ntmps53
  go_wp2_with fail
  go_ret
  exact ⟨rfl, rfl⟩
theorem has_4 (S : LS) (b : Nat) (hb : b < 256) (w : World) : Calls Tryd.prog 68 #[.agg #[.int .u64 (wd S 0), .int .u64 (wd S 1), .int .u64 (wd S 2), .int .u64 (wd S 3)], .int .u8 b] w fun e w' => e = .returned (.bool (S b)) ∧ w' = w.alloc (.cells (lsC S).toArray 24) := has_any S b hb w
set_option maxRecDepth 100000 in
set_option maxHeartbeats 2000000 in
theorem all1_in (n : Nat) (l Bs g n₀ : Nat) (b0 : UInt8) (hg : Bs ≠ g) (hB : Bs < n₀) (J Jx : List UInt8 → World → Prop) (W0 : World) (hJ : AbidesFrom W0.heap.size J)
    (hY : ∀ pre x W, J pre W → pre.length < 1 → YieldAt Fence.wide (n - 1) Tryd.prog l #[.int .u8 ((x : UInt8).toNat : Int)] W fun e W' => (e = .returned (.bool true) ∧ J (pre ++ [x]) W' ∧ Kept (gB g n₀) W W') ∨ (e = .returned (.bool false) ∧ Jx (pre ++ [x]) W'))
    (hL : LBlk W0 Bs (oneS b0.toNat)) (h0 : J [] W0) :
    CallsIn Fence.wide n Tryd.prog 67 #[.func (.yield l) #[] #[], .pointer (some ⟨Bs, 0, none⟩)] W0 fun e W' => (∃ v, e = .returned v) ∧ ((∃ xs, xs = [b0] ∧ J xs W') ∨ (∃ pre, pre = [b0] ∧ Jx pre W')) := by
  have hb0 := b0.toNat_lt
  refine callsIn_of_wp Tryd.func67 rfl trivial ?_ rfl
  simp only [Tryd.ntmps67, List.size_toArray, List.length_cons, List.length_nil, Nat.reduceAdd, Nat.reduceSub, Array.replicate_succ, Array.replicate_zero, List.push_toArray, List.append_toArray, List.nil_append, List.cons_append]
  gi_wp2
  gi_loopw [3] (fun i wr => ∃ k : Nat, k ≤ 256 ∧ i = .int .i64 k ∧ J (if b0.toNat < k then [b0] else []) wr ∧ LBlk wr Bs (oneS b0.toNat))
    (fun i _ => 256 - (intOf i).toNat)
  case atStart => exact ⟨0, by omega, rfl, by rw [if_neg (by omega)]; exact h0, hL⟩
  case round =>
    obtain ⟨k, hk, rfl, hJs, hLw⟩ := hrel
    obtain ⟨⟨c0, c1⟩, c2, c3⟩ := hLw.cells
    have hJa : ∀ pre, J pre wr → J pre (wr.alloc (.cells (lsC (oneS b0.toNat)).toArray 24)) := fun pre h => hJ _ _ _ none h (World.grownBy_alloc _ _ _) (fun r e => by cases e)
    have hLa := hLw.alloc (.cells (lsC (oneS b0.toNat)).toArray 24)
    by_cases hlt : k < 256
    · by_cases hkb : k = b0.toNat
      · subst hkb
        rw [if_neg (by omega)] at hJs
        obtain ⟨fn, tmps, assign, body, hy, hR⟩ := hY [] b0 _ (hJa _ hJs) (by simp)
        have hS : oneS b0.toNat b0.toNat = true := by unfold oneS; simp
        have hH := callsIn_wide (n := n - 1).2 (has_4 (oneS b0.toNat) b0.toNat (by omega) wr)
        rw [hS] at hH
        gi_wp2_with fail
        refine ⟨trivial, (fun e => by cases e), ?_⟩
        refine hH.mono ?_
        rintro e w' ⟨rfl, rfl⟩
        gi_wp2_with fail
        refine ⟨(fun e => by cases e), ?_⟩
        refine hR.mono ?_
        rintro e W3 (⟨rfl, hJ3, hk3⟩ | ⟨rfl, hJx3⟩)
        · have hL3 : LBlk W3 Bs (oneS b0.toNat) := Blk.kept hLa hk3 (fun e => e.elim hg (by omega))
          gi_wp2_with fail
          go_roundw
          case rel => exact ⟨b0.toNat + 1, by omega, by simp, by rw [if_pos (by omega)]; exact hJ3, hL3⟩
          case measure => simp [intOf]; omega
        · gi_wp2_with fail
          refine bodyPost_ret (results_none rfl _ _ _) rfl ?_
          exact ⟨⟨_, rfl⟩, .inr ⟨_, rfl, hJx3⟩⟩
      · have hS : oneS b0.toNat k = false := by unfold oneS; simp; omega
        have hH := callsIn_wide (n := n - 1).2 (has_4 (oneS b0.toNat) k (by omega) wr)
        rw [hS] at hH
        gi_wp2_with fail
        refine ⟨trivial, (fun e => by cases e), ?_⟩
        refine hH.mono ?_
        rintro e w' ⟨rfl, rfl⟩
        gi_wp2_with fail
        refine ⟨fun _ h => (by cases h), ?_⟩
        gi_wp2_with fail
        go_roundw
        case rel =>
          refine ⟨k + 1, by omega, by simp, ?_, hLa⟩
          have h := hJa _ hJs
          by_cases hc : b0.toNat < k
          · rw [if_pos hc] at h; rw [if_pos (by omega)]; exact h
          · rw [if_neg hc] at h; rw [if_neg (by omega)]; exact h
        case measure => simp [intOf]; omega
    · obtain rfl : k = 256 := by omega
      rw [if_pos (by omega)] at hJs
      gi_wp2_with fail
      go_end0
      exact ⟨⟨_, rfl⟩, .inl ⟨_, rfl, hJs⟩⟩
end Go.Proofs.YtpiagfmjekcncaaDoor
namespace Go.Proofs.YtpiagfmjekcncaaDoor
open Go.RowKit
attribute [local go_sem] Oper.semAt_some
theorem own_aut {A B : World} {row : Option Nat} {g n : Nat} {R H : Nat → Nat} (h : AutAt A g n R H) (hg : A.grownBy B row) (hr : ∀ r, row = some r → ∃ o : Obj, A.heap[r]? = some o ∧ o.isCells = false) : AutAt B g n R H :=
  h.kept (Kept.of_grown (F := fun i => row = some i) hg (fun _ e => e)) (fun e => by
    obtain ⟨o, ho, hc⟩ := hr g e
    have h' : A.heap[g]? = some (.cells (aC n R H) 69 (0, 0)) := h
    rw [h'] at ho
    cases ho
    cases hc)
theorem shl_one (n : Nat) (hn : n < 64) : IntKind.u64.wrap (2 ^ n) = ((2 ^ n : Nat) : Int) := by
  have h1 : (2 : Nat) ^ n < 2 ^ 64 := Nat.pow_lt_pow_right (by omega) hn
  rw [IntKind.wrap_u64]
  have e0 : ((2 ^ n : Nat) : Int) = 2 ^ n := by simp
  rw [← e0]
  generalize 2 ^ n = z at *
  omega
set_option maxRecDepth 100000 in
set_option maxHeartbeats 4000000 in
theorem letter_any (g n : Nat) (hn : n < 64) (b0 : UInt8) (R H : Nat → Nat) (w : World) (h : AutAt w g n R H) (hR : ∀ b, R b < 18446744073709551616) :
    Calls Tryd.prog 44 #[.pointer (some ⟨g, 0, none⟩), .agg #[.int .u64 (wd (oneS b0.toNat) 0), .int .u64 (wd (oneS b0.toNat) 1), .int .u64 (wd (oneS b0.toNat) 2), .int .u64 (wd (oneS b0.toNat) 3)]] w fun e w' => e = .returned (.agg #[.bool false, .int .u64 ((2 ^ n : Nat) : Int), .int .u64 ((2 ^ n : Nat) : Int)]) ∧ AutAt w' g (n + 1) (updN R b0.toNat (R b0.toNat ||| 2 ^ n)) H ∧ Kept (isG g) w w' := by
  refine callsIn_wide (n := 9).1 ?_
  have hg := h.lt
  have hsh := shl_one n hn
  have h64 : (2 : Nat) ^ n < 18446744073709551616 := Nat.pow_lt_pow_right (by omega) hn
  obtain ⟨z, hz⟩ : ∃ z, z = 2 ^ n := ⟨_, rfl⟩
  rw [← hz] at hsh h64
  rw [← hz]
  have hni : (n : Int) < 64 := by omega
  have h3 : AutAt (((w.alloc (.cells #[.pointer (some ⟨g, 0, none⟩)] 89)).alloc (.cells #[.int .u64 (wd (oneS b0.toNat) 0), .int .u64 (wd (oneS b0.toNat) 1), .int .u64 (wd (oneS b0.toNat) 2), .int .u64 (wd (oneS b0.toNat) 3)] 24)).alloc (.cells #[.bool false, .int .u64 0, .int .u64 0] 71)) g n R H := ((h.alloc _).alloc _).alloc _
  obtain ⟨w3, hw3⟩ : ∃ w3, w3 = (((w.alloc (.cells #[.pointer (some ⟨g, 0, none⟩)] 89)).alloc (.cells #[.int .u64 (wd (oneS b0.toNat) 0), .int .u64 (wd (oneS b0.toNat) 1), .int .u64 (wd (oneS b0.toNat) 2), .int .u64 (wd (oneS b0.toNat) 3)] 24)).alloc (.cells #[.bool false, .int .u64 0, .int .u64 0] 71)) := ⟨_, rfl⟩
  have hK3 : Kept (isG g) w w3 := by rw [hw3]; exact (((Kept.refl (isG g) w).alloc _).alloc _).alloc _
  have hs3 : w3.heap.size = w.heap.size + 3 := by rw [hw3]; simp
  have b1 : Blk w3 w.heap.size 89 #[.pointer (some ⟨g, 0, none⟩)] := by rw [hw3]; exact Blk.alloc (Blk.alloc (Blk.new w _ _) _) _
  have b2 : LBlk w3 (w.heap.size + 1) (oneS b0.toNat) := by
    rw [hw3]
    refine LBlk.alloc ?_ _
    exact LBlk.mk _ (oneS b0.toNat) _ (by simp)
  have b3 : Blk w3 (w.heap.size + 1 + 1) 71 #[.bool false, .int .u64 0, .int .u64 0] := by
    rw [hw3]
    have := Blk.new ((w.alloc (.cells #[.pointer (some ⟨g, 0, none⟩)] 89)).alloc (.cells #[.int .u64 (wd (oneS b0.toNat) 0), .int .u64 (wd (oneS b0.toNat) 1), .int .u64 (wd (oneS b0.toNat) 2), .int .u64 (wd (oneS b0.toNat) 3)] 24)) 71 #[.bool false, .int .u64 0, .int .u64 0]
    rw [show ((w.alloc (.cells #[.pointer (some ⟨g, 0, none⟩)] 89)).alloc (.cells #[.int .u64 (wd (oneS b0.toNat) 0), .int .u64 (wd (oneS b0.toNat) 1), .int .u64 (wd (oneS b0.toNat) 2), .int .u64 (wd (oneS b0.toNat) 3)] 24)).heap.size = w.heap.size + 1 + 1 by simp] at this
    exact this
  rw [← hw3] at h3
  have HW3 := Lib.hid hw3
  have x0 := Blk.cell b1 0
  simp only [List.getElem?_toArray, List.getElem?_cons_zero] at x0
  have c1 := h3.n_
  have f1 := h3.fr 0
  have B1 := Lib.hid b1
  have B2 := Lib.hid b2
  have B3 := Lib.hid b3
  have HA3 := Lib.hid h3
  have HK3 := Lib.hid hK3
  have HA4 := Lib.hid (h3.alloc (.cells #[.int .u64 z] 22))
  have HK4 := Lib.hid (hK3.alloc (.cells #[.int .u64 z] 22))
  have C1 := Lib.hid (b1.alloc (.cells #[.int .u64 z] 22))
  have C2 := Lib.hid (b2.alloc (.cells #[.int .u64 z] 22))
  have C3 := Lib.hid (b3.alloc (.cells #[.int .u64 z] 22))
  have C4 := Lib.hid (Blk.new w3 22 #[.int .u64 z])
  rw [hs3] at C4
  obtain ⟨w4, hw4⟩ : ∃ w4, w4 = w3.alloc (.cells #[.int .u64 z] 22) := ⟨_, rfl⟩
  rw [← hw4] at HA4 HK4 C1 C2 C3 C4
  have hs4 : w4.heap.size = w.heap.size + 4 := by rw [hw4]; simp; omega
  have HW4 := Lib.hid hw4
  have HA5 := Lib.hid (HA4.out.setn (n + 1))
  have HK5 := Lib.hid (HK4.out.setCell (p := ⟨g, 0, none⟩) (.inl rfl) (.int .i64 ((n + 1 : Nat) : Int)))
  have D1 := Lib.hid (Blk.far C1.out (p := ⟨g, 0, none⟩) (by show w.heap.size ≠ g; omega) (.int .i64 ((n + 1 : Nat) : Int)))
  have D2 := Lib.hid (C2.out.far (p := ⟨g, 0, none⟩) (by show w.heap.size + 1 ≠ g; omega) (.int .i64 ((n + 1 : Nat) : Int)))
  have D3 := Lib.hid (Blk.far C3.out (p := ⟨g, 0, none⟩) (by show w.heap.size + 1 + 1 ≠ g; omega) (.int .i64 ((n + 1 : Nat) : Int)))
  have D4 := Lib.hid (Blk.far C4.out (p := ⟨g, 0, none⟩) (by show w.heap.size + 3 ≠ g; omega) (.int .i64 ((n + 1 : Nat) : Int)))
  obtain ⟨w5, hw5⟩ : ∃ w5, w5 = w4.setCell ⟨g, 0, none⟩ (.int .i64 ((n + 1 : Nat) : Int)) := ⟨_, rfl⟩
  rw [← hw5] at HA5 HK5 D1 D2 D3 D4
  have hs5 : w5.heap.size = w.heap.size + 4 := by rw [hw5]; simp [hs4]
  rw [show ((n + 1 : Nat) : Int) = (n : Int) + 1 by omega] at hw5
  have HW5 := Lib.hid hw5
  have y0 := Blk.cell C1.out 0
  simp only [List.getElem?_toArray, List.getElem?_cons_zero] at y0
  have c4 := HA4.out.n_
  have f4 := HA4.out.fr 0
  have HA6 := Lib.hid (HA5.out.alloc (.cells (lsC (oneS b0.toNat)).toArray 24))
  have HK6 := Lib.hid (HK5.out.alloc (.cells (lsC (oneS b0.toNat)).toArray 24))
  have E1 := Lib.hid (D1.out.alloc (.cells (lsC (oneS b0.toNat)).toArray 24))
  have E3 := Lib.hid (D3.out.alloc (.cells (lsC (oneS b0.toNat)).toArray 24))
  have E4 := Lib.hid (D4.out.alloc (.cells (lsC (oneS b0.toNat)).toArray 24))
  have E5 := Lib.hid (LBlk.mk w5 (oneS b0.toNat) (w.heap.size + 4) hs5.symm)
  obtain ⟨w6, hw6⟩ : ∃ w6, w6 = w5.alloc (.cells (lsC (oneS b0.toNat)).toArray 24) := ⟨_, rfl⟩
  rw [← hw6] at HA6 HK6 E1 E3 E4 E5
  have hs6 : w6.heap.size = w.heap.size + 5 := by rw [hw6]; simp; omega
  have HW6 := Lib.hid hw6
  obtain ⟨⟨m0, m1⟩, m2, m3⟩ := D2.out.cells
  clear hz hw3 h b1 b2 b3 hK3 h3 hw4 hw5 hw6
  refine callsIn_of_wp_marks Tryd.func44 rfl trivial ?_ rfl
  rw [wpIn_wide]
  simp only [Tryd.ntmps44, List.size_toArray, List.length_cons, List.length_nil, Nat.reduceAdd, Nat.reduceSub, Array.replicate_succ, Array.replicate_zero, List.push_toArray, List.append_toArray, List.nil_append, List.cons_append]
  go_upto_region 1 with (fail)
  rw [← HW3.out]
  clear HW3
  go_upto_region 2 with (fail)
  rw [← HW4.out]
  go_upto_region 3 with (fail)
  rw [← HW5.out]
  clear HW5 HW4 x0 c1 f1 y0 c4 f4 HA3 HA4 HA5 HK3 HK4 HK5 B1 B2 B3 C1 C2 C3 C4 D1 D2 D3 D4
  go_wp2_with fail
  refine (all_val (oneS b0.toNat) w5).mono ?_
  rintro e w7 ⟨rfl, rfl⟩
  rw [← HW6.out]
  clear HW6 m0 m1 m2 m3
  go_wp2_with fail
  refine wpIn_wide (n := 9).1 ?_
  have hseq : SeqStopsK Fence.wide (9 - 1) Tryd.prog 67 #[.pointer (some ⟨w.heap.size + 4, 0, none⟩)] (fun x : UInt8 => #[.int .u8 (x.toNat : Int)]) (Kept (gB g (w.heap.size + 5))) (fun xs => xs = [b0]) (fun pre => pre = [b0]) 1 w6 := fun l J Jx W hW hJ hJx hY h0 =>
    all1_in (9 - 1) l (w.heap.size + 4) g (w.heap.size + 5) b0 (by omega) (by omega) J Jx W hJ hY (Blk.below E5.out hW (by omega)) h0
  refine wpIn_rangeFunc_ownF rfl (by omega) (gf := 67) (lb := #[.pointer (some ⟨w.heap.size + 4, 0, none⟩)]) rfl trivial (enters_of Tryd.func67 (by kernel_rfl) rfl) hseq kpA_t (kpA_b (by omega)) (Below.refl _ _) (fun _ => rfl)
    (fun pre W => AutAt W g (n + 1) (pre.foldl (fun R x => updN R (x : UInt8).toNat (R x.toNat ||| z)) R) H ∧ Kept (gB g (w.heap.size + 5)) w6 W)
    (fun _ _ _ => False)
    (fun s A B row hs hg' hr => ⟨own_aut hs.1 hg' (fun r e => (hr r e).2), hs.2.then_ (Kept.of_grown hg' (fun r e => .inr (by have := (hr r e).1; omega)))⟩)
    (fun _ _ _ _ _ hs _ _ => hs)
    ⟨HA6.out, Kept.refl _ _⟩
    (fun x => { tmps := #[.pointer (some ⟨g, 0, none⟩), .agg #[.int .u64 (wd (oneS b0.toNat) 0), .int .u64 (wd (oneS b0.toNat) 1), .int .u64 (wd (oneS b0.toNat) 2), .int .u64 (wd (oneS b0.toNat) 3)], .pointer (some ⟨w.heap.size, 0, none⟩), .pointer (some ⟨w.heap.size + 1, 0, none⟩), .pointer (some ⟨w.heap.size + 1 + 1, 0, none⟩), .pointer (some ⟨w.heap.size + 3, 0, none⟩), .int .u8 (x.toNat : Int),
      .pointer (some ⟨g, 0, none⟩), .pointer (some ⟨g, 0, none⟩), .pointer (some ⟨g, 0, none⟩), .int .i64 n, .int .u64 z, .pointer (some ⟨g, 0, none⟩), .pointer (some ⟨g, 0, none⟩), .pointer (some ⟨g, 0, none⟩), .int .i64 n, .int .i64 ((n : Int) + 1), .pointer (some ⟨g, 0, none⟩), .pointer (some ⟨g, 0, none⟩), .agg #[.int .u64 (wd (oneS b0.toNat) 0), .int .u64 (wd (oneS b0.toNat) 1), .int .u64 (wd (oneS b0.toNat) 2), .int .u64 (wd (oneS b0.toNat) 3)],
      .func (Fn.func 67) #[] #[.pointer (some ⟨w.heap.size + 4, 0, none⟩)], .int .u8 (x.toNat : Int), undef, undef, undef, undef, undef, undef, undef, undef, undef, undef, undef, undef, undef, undef], defers := [] }) ?assign ?body ?done ?stop
  case assign =>
    intro l x W K hK
    gi_wp2
    exact hK
  case body =>
    rintro l pre x W ⟨hA, hK⟩ hlen
    obtain rfl : pre = [] := List.eq_nil_of_length_eq_zero (by omega)
    have hA : AutAt W g (n + 1) R H := hA
    have hx := x.toNat_lt
    have k1 : W.cell? ⟨w.heap.size, 0, none⟩ = some (.pointer (some ⟨g, 0, none⟩)) := by
      have := Blk.cell (Blk.kept E1.out hK (fun e => e.elim (by omega) (by omega))) 0
      simpa using this
    have k2 : W.cell? ⟨w.heap.size + 3, 0, none⟩ = some (.int .u64 z) := by
      have := Blk.cell (Blk.kept E4.out hK (fun e => e.elim (by omega) (by omega))) 0
      simpa using this
    have k3 := hA.R_ (b := x.toNat) (by omega)
    have q3 := hA.fr (1 + x.toNat)
    have hor := u64_or_nat _ _ (hR x.toNat) h64
    have hxi : (x.toNat : Int) < 256 := by omega
    have HAn := Lib.hid (hA.setR (b := x.toNat) (by omega) (R x.toNat ||| z)).drew
    have HKn := Lib.hid ((Kept.refl (gB g (w.heap.size + 5)) W).setCell (p := ⟨g, 1 + x.toNat, none⟩) (.inl (.inl rfl)) (.int .u64 ((R x.toNat ||| z : Nat) : Int))).drew
    have HKw := Lib.hid (hK.setCell (p := ⟨g, 1 + x.toNat, none⟩) (.inl (.inl rfl)) (.int .u64 ((R x.toNat ||| z : Nat) : Int))).drew
    clear hA hK
    refine wpIn_block ?_
    refine wpIn_region_still_tail 11 (by rintro ⟨a, w, h⟩; exact h) (by
      intro o ho
      simp only [List.mem_toArray, List.mem_cons, List.not_mem_nil, or_false] at ho
      rcases ho with rfl | rfl | rfl | rfl | rfl | rfl | rfl | rfl | rfl | rfl | rfl | rfl <;> (intro c h; cases h)) (by kernel_rfl) (by kernel_rfl) ?_
    simp only [List.take_succ_cons, List.take_zero, List.drop_succ_cons, List.drop_zero]
    repeat still_step
    try refine wpStill_nil ?_
    go_wp2_with fail
    exact ⟨(KeepsOthers.setCell _ _ _).trans (KeepsOthers.drew _), HKn.out, HAn.out, HKw.out⟩
  case done =>
    rintro D xs W hD rfl ⟨hA, hK⟩ hDd
    have hA : AutAt W g (n + 1) (updN R b0.toNat (R b0.toNat ||| z)) H := hA
    have k2 : W.cell? ⟨w.heap.size + 3, 0, none⟩ = some (.int .u64 z) := by
      have := Blk.cell (Blk.kept E4.out hK (fun e => e.elim (by omega) (by omega))) 0
      simpa using this
    have hZ := Blk.kept E3.out hK (fun e => e.elim (by omega) (by omega))
    have z0 := Blk.frozen hZ 0; have z1 := Blk.frozen hZ 1; have z2 := Blk.frozen hZ 2
    have v0 := Blk.cell hZ 0; have v1 := Blk.cell hZ 1; have v2 := Blk.cell hZ 2
    simp only [List.getElem?_toArray, List.getElem?_cons_zero, List.getElem?_cons_succ] at v0 v1 v2
    have hZ5 := Blk.set_ (Blk.set_ (Blk.set_ hZ 0 (.bool false)) 1 (.int .u64 z)) 2 (.int .u64 z)
    have hA5 := ((hA.far (p := ⟨w.heap.size + 1 + 1, 0, none⟩) (by show g ≠ w.heap.size + 1 + 1; omega) (.bool false)).far (p := ⟨w.heap.size + 1 + 1, 1, none⟩) (by show g ≠ w.heap.size + 1 + 1; omega) (.int .u64 z)).far (p := ⟨w.heap.size + 1 + 1, 2, none⟩) (by show g ≠ w.heap.size + 1 + 1; omega) (.int .u64 z)
    have hK0 : Kept (isG g) w W := HK6.out.trans (hK.mono fun i e => e.elim (fun e => .inl e) (fun e => .inr (by omega)))
    have hK5 := ((hK0.setCell (p := ⟨w.heap.size + 1 + 1, 0, none⟩) (.inr (by show w.heap.size ≤ w.heap.size + 1 + 1; omega)) (.bool false)).setCell (p := ⟨w.heap.size + 1 + 1, 1, none⟩) (.inr (by show w.heap.size ≤ w.heap.size + 1 + 1; omega)) (.int .u64 z)).setCell (p := ⟨w.heap.size + 1 + 1, 2, none⟩) (.inr (by show w.heap.size ≤ w.heap.size + 1 + 1; omega)) (.int .u64 z)
    have hD5 := (((KeepsOthers.setCell W ⟨w.heap.size + 1 + 1, 0, none⟩ (.bool false)).trans (KeepsOthers.setCell _ ⟨w.heap.size + 1 + 1, 1, none⟩ (.int .u64 z))).trans (KeepsOthers.setCell _ ⟨w.heap.size + 1 + 1, 2, none⟩ (.int .u64 z))).same D _ hDd rfl
    obtain ⟨W5, hW5⟩ : ∃ W5, W5 = ((W.setCell ⟨w.heap.size + 1 + 1, 0, none⟩ (.bool false)).setCell ⟨w.heap.size + 1 + 1, 1, none⟩ (.int .u64 z)).setCell ⟨w.heap.size + 1 + 1, 2, none⟩ (.int .u64 z) := ⟨_, rfl⟩
    rw [← hW5] at hZ5 hA5 hK5 hD5
    have hg5 := grownBy_putObj' W5 D (.deferred none)
    have hr5 : ∀ r, some D = some r → ∃ o : Obj, W5.heap[r]? = some o ∧ o.isCells = false := fun r e => by cases e; exact ⟨_, hD5, rfl⟩
    have d0 := cell_kept (Blk.cell hZ5 0) hg5 hr5
    have d1 := cell_kept (Blk.cell hZ5 1) hg5 hr5
    have d2 := cell_kept (Blk.cell hZ5 2) hg5 hr5
    simp at d0 d1 d2
    have HAF := Lib.hid (own_aut hA5 hg5 hr5)
    have HKF := Lib.hid (hK5.trans ((Kept.of_grown (F := fun i => i = D) hg5 (fun r e => (Option.some.inj e).symm)).mono fun i (e : i = D) => .inr (by omega)))
    have HD5 := Lib.hid hD5
    have HW5 := Lib.hid hW5
    have HD := Lib.hid (And.intro d0 (And.intro d1 d2))
    clear hA hK hZ hZ5 hA5 hK0 hK5 hD5 hW5 hg5 hr5 d0 d1 d2
    go_wp2_with fail
    rw [← HW5.out]
    refine ⟨by simp, .inl ⟨_, _, rfl, run_takeDeferred HD5.out, ?_⟩⟩
    obtain ⟨d0, d1, d2⟩ := HD.out
    refine ⟨.agg #[.bool false, .int .u64 z, .int .u64 z], ?_, rfl, HAF.out, HKF.out⟩
    simp [results, Tryd.results44, go_sem, d0, d1, d2]
  case stop =>
    rintro D c pre W _ _ h _
    exact h.elim
end Go.Proofs.YtpiagfmjekcncaaDoor
