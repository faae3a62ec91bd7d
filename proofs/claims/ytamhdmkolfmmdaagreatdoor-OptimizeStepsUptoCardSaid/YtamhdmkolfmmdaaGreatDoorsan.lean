/- The open calls of types.Of: how they hang together, and how they lie in memory. A row of the call's own, opened and closed again. The walk of types.advance. Around the walk of types.Of: the stack of open calls, and the memory as it grows. A region that draws its order and ends in a store that waits for all: what the loads read need not hold behind it. The walk of slices.Insert of one step before another one. A region that draws its order, where two operations may come up. -/
import Derived.Test.YtamhdmkolfmmdaaGreatDoorsak
import Derived.Test.YtamhdmkolfmmdaaGreatDoorsab
import Derived.Deep.LoopGhost
import Derived.OrdersHeld
import Derived.KernelRfl
import Derived.Deep.RegionHeld
import Derived.Test.YtamhdmkolfmmdaaGreatDoorsal
import Derived.Lib.AppendZerosOnto
import Derived.Lib.Overlaps
import Derived.Laws.IdiomCopy
import Derived.Laws.NewBlocks
import Derived.Test.YtamhdmkolfmmdaaGreatDoorsaa
set_option linter.unusedVariables false
set_option linter.unusedSimpArgs false
namespace Go.Proofs.YtamhdmkolfmmdaaGreatDoor
open Go.RowKit
theorem ked {w : World} {base e size n : Nat} {v : Value} {xs : List Value} (h : w.ownsRow base e size v n xs) (hn : 0 < n) : ∃ (g c : Nat) (cur : Array Value), v = .slice (some ⟨g, 0, none⟩) n c ∧ n ≤ c ∧ base ≤ g ∧ Blk w g e cur ∧ cur.size = c * size ∧ cur.toList.take (n * size) = xs ∧
  (∀ (w' : World) (cur' : Array Value) (ys : List Value), Blk w' g e cur' → cur'.size = cur.size → ys.length = n * size → cur'.toList.take (n * size) = ys → w'.ownsRow base e size v n ys) := by
 obtain ⟨h1, h2⟩ := h
 rcases h2 with ⟨_, rfl⟩ | ⟨g, cap, cur, hv, h3, h4, h5, h6, h7, h8⟩
 ·
  omega
 ·
  exact ⟨g, cap, cur, hv, h5, h3, h4, h7, h8, fun w' cur' ys hb hs hl ht => ⟨hl, .inr ⟨g, cap, cur', hv, h3, hb, h5, h6, hs.trans h7, ht⟩⟩⟩
theorem kaq {w : World} {base e size n g : Nat} {v : Value} {xs : List Value} (h : w.ownsRow base e size v n xs) (hg : v.ownBlock = some g) : base ≤ g ∧ ∃ cur, Blk w g e cur := by
 rcases h.2 with ⟨rfl, _⟩ | ⟨g', cap, cur, rfl, h3, hh, _⟩
 ·
  simp [Value.ownBlock] at hg
 ·
  have : g' = g := by simpa [Value.ownBlock] using hg
  subst this
  exact ⟨h3, cur, hh⟩
end Go.Proofs.YtamhdmkolfmmdaaGreatDoor
namespace Go.Proofs.YtamhdmkolfmmdaaGreatDoor
open Go
section
variable {P : Program} {ops : Array Oper} {Q : Exit → Act → World → Prop} {md : Region.Mode} {S : World → Prop}
def kbu (P : Program) (md : Region.Mode) (ops : Array Oper) (Q : Exit → Act → World → Prop) (S : World → Prop) (z : Nat) : Nat → Array Bool → Act → World → Prop
 | 0, listed, a, w => Region.ready md ops listed = [] ∧ Q .normal a w
 | fuel + 1, listed, a, w =>
  (Region.ready md ops listed = [] → Q .normal a w) ∧
  ∀ i ∈ Region.ready md ops listed, wpOp P ops Q i (fun a' w' => (i ≠ z → S w') ∧ kbu P md ops Q S z fuel (listed.setIfInBounds i true) a' w') a w
theorem kfC {z : Nat} : ∀ (fuel : Nat) (listed : Array Bool) (a : Act) (w : World), kbu P md ops Q S z fuel listed a w → wpAny P md ops Q fuel listed a w
 | 0, _, _, _, h => h
 | fuel + 1, _, _, _, h => ⟨h.1, fun i hi => wpOp_mono (fun a' w' h' => kfC fuel _ a' w' h'.2) (h.2 i hi)⟩
def kfI (md : Region.Mode) (ops : Array Oper) (z i : Nat) : Bool := match ops[z]? with
 | some oz => oz.after.any fun e => Region.binds md e && e.on == i
 | none => false
theorem kka {z i : Nat} (h : kfI md ops z i = true) : ∃ oz, ops[z]? = some oz ∧ ∃ e ∈ oz.after, Region.binds md e = true ∧ e.on = i := by
 unfold kfI at h
 split at h
 ·
  rename_i oz hz
  obtain ⟨e, he, hb⟩ := Array.any_eq_true'.1 h
  simp only [Bool.and_eq_true, beq_iff_eq] at hb
  exact ⟨oz, hz, e, he, hb.1, hb.2⟩
 ·
  cases h
theorem kho {i z : Nat} {oi : Oper} {v : Value} (hi : ops[i]? = some oi) (hz : kfI md ops z i = true) (hsel : ∀ (j : Nat) (o : Oper) cs b, ops[j]? = some o → o.op ≠ .select cs b)
  (hQ : ∀ c a w, Q (.panic c) (a.put oi.dst v) w → Q (.panic c) a w) :
  ∀ (fuel : Nat) (listed : Array Bool) (a : Act) (w : World),
   (∀ j oj, ops[j]? = some oj → j ≠ i → listed.getD j true = false → (∀ e ∈ oj.after, Region.binds md e = true → e.on ≠ i) → oi.apart ops oj = true) →
   i ∈ Region.ready md ops listed → YieldsIf P ops S oi v a → S w →
   kbu P md ops Q S z fuel (listed.setIfInBounds i true) (a.put oi.dst v) w → kbu P md ops Q S z (fuel + 1) listed a w := by
 intro fuel
 induction fuel with
 | zero =>
  intro listed a w _ hr hy hS H
  refine ⟨fun h => (by rw [h] at hr; cases hr), fun j hj => ?_⟩
  by_cases hji : j = i
  ·
   subst hji; exact hy.wpOp hi hS ⟨fun _ => hS, H⟩
  ·
   have := ready_mono hj hji
   rw [H.1] at this
   cases this
 | succ fuel ih =>
  intro listed a w hfree hr hy hS H
  refine ⟨fun h => (by rw [h] at hr; cases hr), fun j hj => ?_⟩
  by_cases hji : j = i
  ·
   subst hji; exact hy.wpOp hi hS ⟨fun _ => hS, H⟩
  ·
   have h1 := H.2 j (ready_mono hj hji)
   obtain ⟨hjun, oj, hoj, hall⟩ := mem_ready.1 hj
   have hnot : ∀ e ∈ oj.after, Region.binds md e = true → e.on ≠ i := fun e he hb heq => by
    have h1 := hall e he hb
    have h0 := (mem_ready.1 hr).1
    rw [heq] at h1
    rcases Nat.lt_or_ge i listed.size with h' | h'
    ·
     simp [h'] at h0 h1; rw [h0] at h1; cases h1
    ·
     simp [Array.getElem?_eq_none h'] at h1
   have hjz : j ≠ z := fun e => by
    subst e
    obtain ⟨oz, h2, e, he, hb, heq⟩ := kka hz
    rw [hoj] at h2
    injection h2 with h2
    subst h2
    exact hnot e he hb heq
   have h2 := wpOp_putIf hoj (hfree j oj hoj hji hjun hnot) (fun cs b => hsel i oi cs b hi) (fun cs b => hsel j oj cs b hoj) hQ hy (wpOp_mono (fun a' w' h => (⟨h.1 hjz, h⟩ : S w' ∧ _)) h1)
   have hfree' : ∀ k ok, ops[k]? = some ok → k ≠ i → (listed.setIfInBounds j true).getD k true = false →
     (∀ e ∈ ok.after, Region.binds md e = true → e.on ≠ i) → oi.apart ops ok = true := fun k ok hk hki hun hno => by
    refine hfree k ok hk hki ?_ hno
    by_cases hjk : j = k
    ·
     subst hjk; exact hjun
    ·
     rw [getD_set_ne true hjk] at hun; exact hun
   refine wpOp_mono (fun a' w' h3 => ⟨fun _ => h3.2.1, ih (listed.setIfInBounds j true) a' w' hfree' (ready_mono hr (Ne.symm hji)) h3.1 h3.2.1 ?_⟩) h2
   rw [Array.setIfInBounds_comm _ _ hji]
   exact h3.2.2.2
theorem kio {i z : Nat} {oi : Oper} {v : Value} {fuel : Nat} {listed : Array Bool} {a : Act} {w : World} (hi : ops[i]? = some oi) (hz : kfI md ops z i = true)
  (hs : Region.noSelect ops = true) (hf : Region.free md ops listed i = true) (hr : (Region.ready md ops listed).contains i = true)
  (hQ : ∀ c a w, Q (.panic c) (a.put oi.dst v) w → Q (.panic c) a w) (hy : YieldsIf P ops S oi v a) (hS : S w)
  (h : kbu P md ops Q S z fuel (listed.setIfInBounds i true) (a.put oi.dst v) w) : kbu P md ops Q S z (fuel + 1) listed a w :=
 kho hi hz (Region.noSelect_spec hs) hQ fuel listed a w (Region.free_spec hi hf) (by simpa using hr) hy hS h
theorem kjO {i z : Nat} {o : Oper} {fuel : Nat} {listed : Array Bool} {a : Act} {w : World} (hr : Region.ready md ops listed = [i]) (ho : ops[i]? = some o)
  (h : ∀ K' : Act → World → Prop, Shut (∀ a w, (i ≠ z → S w) → kbu P md ops Q S z fuel (listed.setIfInBounds i true) a w → K' a w) → if Region.wanted o (yielded ops a.tmps) = true then Oper.wp P o a w K' Q else K' (a.put o.dst undef) w) : kbu P md ops Q S z (fuel + 1) listed a w :=
 by
 refine ⟨fun h0 => (by rw [hr] at h0; cases h0), fun j hj => ?_⟩
 rw [hr] at hj
 have : j = i := by simpa using hj
 subst this
 exact wpOp_step ho (fun K' hK => h K' (fun a w hS hW => hK a w ⟨hS, hW⟩))
theorem kip {z : Nat} {listed : Array Bool} {a : Act} {w : World} (hr : Region.ready md ops listed = []) (h : Q .normal a w) : ∀ fuel, kbu P md ops Q S z fuel listed a w
 | 0 => ⟨hr, h⟩
 | _ + 1 => ⟨fun _ => h, by rw [hr]; simp⟩
theorem kin {id z : Nat} {a : Act} {w : World} (hm : P.follows .mixedOrders = true) (hS : S w.drew)
  (h : S w.drew → kbu P .any ops Q S z ops.size (Array.replicate ops.size false) a w.drew) : (Code.region id ops true).wp P Q a w :=
 wp_region_any hm (kfC _ _ _ _ (h hS))
theorem kjP {i : Nat} {o : Oper} {fuel : Nat} {listed : Array Bool} {a : Act} {w : World} (hr : Region.ready md ops listed = [i]) (ho : ops[i]? = some o)
  (h : ∀ K' : Act → World → Prop, Shut (∀ a w, S w → wpAnyH P md ops Q S fuel (listed.setIfInBounds i true) a w → K' a w) → if Region.wanted o (yielded ops a.tmps) = true then Oper.wp P o a w K' Q else K' (a.put o.dst undef) w) : wpAnyH P md ops Q S (fuel + 1) listed a w :=
 wpAnyH_ready hr (by simp) (AllReadyH.cons ho (fun K' hK => h K' (fun a w hS hW => hK a w hS (fun _ => hW))) AllReadyH.nil)
theorem tkO {i : Nat} {o : Oper} {fuel : Nat} {listed : Array Bool} {a : Act} {w : World}
  (h : ∀ K' : Act → World → Prop, Shut (∀ a w, S w → wpAnyH P md ops Q S fuel (listed.setIfInBounds i true) a w → K' a w) → if Region.wanted o (yielded ops a.tmps) = true then Oper.wp P o a w K' Q else K' (a.put o.dst undef) w)
  (hr : Region.ready md ops listed = [i] := by kernel_rfl) (ho : ops[i]? = some o := by rfl) : wpAnyH P md ops Q S (fuel + 1) listed a w := kjP hr ho h
theorem tkP {i z : Nat} {o : Oper} {fuel : Nat} {listed : Array Bool} {a : Act} {w : World}
  (h : ∀ K' : Act → World → Prop, Shut (∀ a w, (i ≠ z → S w) → kbu P md ops Q S z fuel (listed.setIfInBounds i true) a w → K' a w) → if Region.wanted o (yielded ops a.tmps) = true then Oper.wp P o a w K' Q else K' (a.put o.dst undef) w)
  (hr : Region.ready md ops listed = [i] := by kernel_rfl) (ho : ops[i]? = some o := by rfl) : kbu P md ops Q S z (fuel + 1) listed a w := kjO hr ho h
theorem tkZ {i z : Nat} {oi : Oper} {v : Value} {fuel : Nat} {listed : Array Bool} {a : Act} {w : World} (hS : S w)
  (h : kbu P md ops Q S z fuel (listed.setIfInBounds i true) (a.put oi.dst v) w)
  (hi : ops[i]? = some oi := by rfl) (hz : kfI md ops z i = true := by kernel_rfl) (hs : Region.noSelect ops = true := by kernel_rfl) (hf : Region.free md ops listed i = true := by kernel_rfl) (hr : (Region.ready md ops listed).contains i = true := by kernel_rfl)
  (hQ : ∀ c a w, Q (.panic c) (a.put oi.dst v) w → Q (.panic c) a w := by exact fun _ _ _ h => h) (hg : Region.wanted oi (yielded ops a.tmps) = true := by rfl)
  (hy : ∀ w', S w' → (execOp a.eval oi).run P w' = .ok (.value v) w' := by
   intro w' hSw
   (try dsimp only at hSw)
   go_simp <;> with_reducible rfl) : kbu P md ops Q S z (fuel + 1) listed a w :=
 kio hi hz hs hf hr hQ (Or.inl ⟨hg, hy⟩) hS h
end
end Go.Proofs.YtamhdmkolfmmdaaGreatDoor
namespace Go.Proofs.YtamhdmkolfmmdaaGreatDoor
open Go.RowKit
set_option maxRecDepth 100000
set_option maxHeartbeats 4000000
theorem keC {P : Program} {ops : Array Oper} {o : Oper} {a : Act} {w : World} {K : Act → World → Prop} {Q : Exit → Act → World → Prop} {E : Prop} (hg : o.guard = none) (d x : Operand) (dT sT : TypeId)
  (hop : o.op = Op.call { callee := Callee.builtin Builtin.copy, args := #[d, x], argTypes := #[dT, sT] }) (v u : Value) (hd : a.eval d = v) (hx : a.eval x = u) {v' : Value} {w' : World}
  (hr : (Builtin.copy_ #[dT, sT] o.type #[v, u]).run P w = .ok v' w') (hK : K (a.put o.dst v') w') : if Region.wanted o (yielded ops a.tmps) = true then Oper.wp P o a w K Q else E := by
 have hw : Region.wanted o (yielded ops a.tmps) = true := by simp [Region.wanted, hg]
 rw [if_pos hw]
 unfold Oper.wp
 simp [execOp, hop, resolve, invoke, builtin, hd, hx, hr, Result.andThen]
 exact hK
theorem kcE {P : Program} {w : World} {ops : Array Oper} {rest : List Oper} {o : Oper} {a : Act} {Q : Exit → Act → World → Prop} (hgd : o.guard = none) (d s : Operand) (t t' : TypeId)
  (ho : o.op = .call { callee := .builtin .copy, args := #[d, s], argTypes := #[t, t'] }) (v u : Value) (hd : a.eval d = v) (hs : a.eval s = u) {v' : Value} {w' : World}
  (hr : (Builtin.copy_ #[t, t'] o.type #[v, u]).run P w = .ok v' w') (h : wpList P ops Q rest (a.put o.dst v') w') : wpList P ops Q (o :: rest) a w :=
 wpList_plain hgd fun K hK => by
  unfold Oper.wp
  simp [execOp, ho, resolve, invoke, builtin, hd, hs, hr, Result.andThen]
  exact hK _ _ h
theorem kgM {w : World} {g : Nat} {t : TypeId} {cs : Array Value} (h : Blk w g t cs) : w.shape? g = some (t, cs.size) := by
 unfold Blk at h
 simp [World.shape?, h]
theorem kcb (w : World) (ty b o dLen dCap n : Nat) (a : Addr) (sLen sCap : Nat) (cs : List Value) (hn : n = Nat.min sLen dLen) (hl : cs.length = n * 5)
  (hsrc : ∀ j v, cs[j]? = some v → w.cell? (a.add j) = some v) (hc : ∀ j, j < cs.length → (w.cell? ⟨b, o + j, none⟩).isSome = true) (hf : ∀ j, j < cs.length → w.frozen? ⟨b, o + j, none⟩ = false) (h1 : ∀ v ∈ cs, v.oneCell' = true) :
  (Builtin.copy_ #[24, 24] ty #[.slice (some ⟨b, o, none⟩) dLen dCap, .slice (some a) sLen sCap]).run Tryz.prog w = .ok (goInt n) (w.setCells b o cs) := by
 obtain ⟨i0, hinf, hz0, hz1, hz2⟩ := info_parts kcs
 have hlc := run_loadCells_list (P := Tryz.prog) w a cs hsrc
 rw [hl] at hlc
 have hst := run_storeCells_cells (P := Tryz.prog) b o cs 0 w (by simpa using hc) (by simpa using hf) h1
 subst hn
 simp [Builtin.copy_, run_underlying Tryz.underlying24, Builtin.lenOf, Builtin.firstCells, sizeOf, typeInfo, hinf, hz1, hlc, hst]
def keV (gs n i : Nat) (cs vals : Array Value) (w : World) (e : Ending) (w' : World) : Prop :=
 ∃ gs' cap' cs', e = .returned (.slice (some ⟨gs', 0, none⟩) ((n + 1 : Nat) : Int).toNat cap') ∧ w.grownBy w' (some gs) ∧ (gs' = gs ∨ w.heap.size ≤ gs') ∧ Blk w' gs' 77 cs' ∧ cs'.size = cap' * 5 ∧ n + 1 ≤ cap' ∧
  (∀ q, q < i * 5 → cs'[q]? = cs[q]?) ∧ (∀ q, q < 5 → cs'[i * 5 + q]? = vals[q]?) ∧ (∀ q, i * 5 ≤ q → q < n * 5 → cs'[5 + q]? = cs[q]?)
section
variable (gs vb n i cap : Nat) (cs vals : Array Value) (w : World)
theorem kjc (hB : Blk w gs 77 cs) (hsz : cs.size = cap * 5) (hV : Blk w vb 77 vals) (hvs : vals.size = 5) (hne : vb ≠ gs) (hi : i < n) (hnc : n + 1 ≤ cap) (hnb : n ≤ 100000) (h1 : ∀ q v, q < n * 5 → cs[q]? = some v → v.oneCell' = true) (h1v : ∀ v ∈ vals.toList, v.oneCell' = true) :
  Calls Tryz.prog 157 #[.slice (some ⟨gs, 0, none⟩) n cap, .int .i64 i, .slice (some ⟨vb, 0, none⟩) 1 1] w (keV gs n i cs vals w) := by
 obtain ⟨i0, hinf, hz0, hz1, hz2⟩ := info_parts kcs
 obtain ⟨rest, hrest⟩ := xE ((cs.toList.drop (i * 5)).take ((n - i) * 5))
 have hrl : rest.length = (n - i) * 5 := by rw [hrest, List.length_take, List.length_drop, Array.length_toList]; omega
 have hrg : ∀ j v, rest[j]? = some v → cs[i * 5 + j]? = some v ∧ j < (n - i) * 5 := fun j v hj => by
  rw [hrest, List.getElem?_take] at hj
  split at hj
  ·
   exact ⟨by rwa [List.getElem?_drop, Array.getElem?_toList] at hj, by assumption⟩
  ·
   cases hj
 have hr1 : ∀ v ∈ rest, v.oneCell' = true := fun v hv => by
  obtain ⟨j, hj⟩ := List.getElem?_of_mem hv
  obtain ⟨h2, h3⟩ := hrg j v hj
  exact h1 _ v (by omega) h2
 have hov : ∀ lb cb, (callFunc 183 #[.slice (some ⟨vb, 0, none⟩) 1 1, .slice (some ⟨gs, (i + 1) * 5, none⟩) lb cb]).run Tryz.prog w = .ok (.value (.bool false)) w := fun lb cb => by
  rw [run_callFunc_extern Tryz.func183 (by kernel_rfl) (by kernel_rfl) (by kernel_rfl) (e := Extern.SlicesOverlaps.overlaps #[24, 24] #[4]) (by kernel_rfl),
   Lib.run_overlaps_apart w 24 4 77 Tryz.underlying24 5 (fun w => by simp [sizeOf, typeInfo, hinf, hz1]) ⟨vb, 0, none⟩ ⟨gs, (i + 1) * 5, none⟩ 1 1 lb cb hne 77 77 5 cs.size ((kgM hV).trans (by rw [hvs])) (kgM hB) (by omega) (hV.frozen 0) (hV.frozen 5)]
  rfl
 have hcp1 : ∀ ty dc sc, (Builtin.copy_ #[24, 24] ty #[.slice (some ⟨gs, (i + 1) * 5, none⟩) (n + 1 - (i + 1)) dc, .slice (some ⟨gs, i * 5, none⟩) (n + 1 - i) sc]).run Tryz.prog w.drew = .ok (goInt ((n - i : Nat) : Int)) (w.drew.setCells gs ((i + 1) * 5) rest) := fun ty dc sc =>
  kcb w.drew ty gs ((i + 1) * 5) (n + 1 - (i + 1)) dc (n - i) ⟨gs, i * 5, none⟩ (n + 1 - i) sc rest (by simp only [Nat.min_def]; split <;> omega) hrl
   (fun j v hj => by rw [ka1]; exact (hB.cell _).trans (hrg j v hj).1)
   (fun j hj => by rw [show w.drew.cell? ⟨gs, (i + 1) * 5 + j, none⟩ = cs[(i + 1) * 5 + j]? from hB.cell _, Array.getElem?_eq_getElem (by omega)]; rfl)
   (fun j _ => hB.frozen _) hr1
 obtain ⟨cs1, e1, e2, e3, e4⟩ := kaH rest ((i + 1) * 5) w.drew cs hB.drew
 obtain ⟨W1, hW1⟩ := xE (w.drew.setCells gs ((i + 1) * 5) rest)
 have hV1 : Blk W1 vb 77 vals := by rw [hW1]; exact hV.drew.grown (kat rest ((i + 1) * 5) w.drew) (fun e => hne (by injection e))
 have hG1 : w.drew.grownBy W1 (some gs) := by rw [hW1]; exact kat rest ((i + 1) * 5) w.drew
 rw [← hW1] at hcp1 e1
 have hcp2 : ∀ ty dc, (Builtin.copy_ #[24, 24] ty #[.slice (some ⟨gs, i * 5, none⟩) (n + 1 - i) dc, .slice (some ⟨vb, 0, none⟩) 1 1]).run Tryz.prog W1 = .ok (goInt 1) (W1.setCells gs (i * 5) vals.toList) := fun ty dc =>
  kcb W1 ty gs (i * 5) (n + 1 - i) dc 1 ⟨vb, 0, none⟩ 1 1 vals.toList (by simp only [Nat.min_def]; split <;> omega) (by rw [Array.length_toList, hvs])
   (fun j v hj => by rw [ka1, hV1.cell, Nat.zero_add, ← Array.getElem?_toList]; exact hj)
   (fun j hj => by rw [e1.cell, Array.getElem?_eq_getElem (by rw [Array.length_toList] at hj; omega)]; rfl)
   (fun j _ => e1.frozen _) h1v
 obtain ⟨cs2, f1, f2, f3, f4⟩ := kaH vals.toList (i * 5) W1 cs1 e1
 have hG2 := kat (g := gs) vals.toList (i * 5) W1
 have HEND : Hid (keV gs n i cs vals w (.returned (.slice (some ⟨gs, 0, none⟩) (n + 1) cap)) (W1.setCells gs (i * 5) vals.toList)) := hD (by
  rw [Array.length_toList, hvs] at f3 f4
  refine ⟨gs, cap, cs2, by rw [Int.toNat_natCast], ⟨hG2.os.trans hG1.os, hG2.tape.trans hG1.tape, hG2.output.trans hG1.output, Nat.le_trans hG1.size hG2.size, fun q hq hne => (hG2.block q (Nat.lt_of_lt_of_le hq hG1.size) hne).trans (hG1.block q hq hne)⟩, .inl rfl, f1, by omega, hnc, fun q hq => ?_, fun q hq => ?_, fun q hq1 hq2 => ?_⟩
  ·
   rw [f4 q (.inl hq), e4 q (.inl (by omega))]
  ·
   rw [f3 q hq (by omega), Array.getElem?_toList]
  ·
   rw [f4 (5 + q) (.inr (by omega)), show 5 + q = (i + 1) * 5 + (q - i * 5) by omega, e3 (q - i * 5) (by omega) (by omega)]
   rw [hrest, List.getElem?_take, if_pos (by omega), List.getElem?_drop, Array.getElem?_toList]
   congr 1
   omega)
 have q0 : ¬ ((i : Int) = (n : Int)) := by omega
 have q1 : IntKind.i64.wrap ((i : Int) + 1) = (i : Int) + 1 := by rw [IntKind.wrap_i64]; omega
 have q2 : (0 : Int) ≤ (i : Int) + 1 := by omega
 have q3 : i ≤ n := by omega
 have q4 : ((i : Int) + 1).toNat = i + 1 := by omega
 have q5 : ¬ (cap = i + 1) := by omega
 have q6 : (i : Int) ≤ (n : Int) + 1 := by omega
 have q7 : ¬ (cap = i) := by omega
 have q8 : (n : Int) + 1 ≤ (cap : Int) := by omega
 have q9 : (i : Int) ≤ (n : Int) := by omega
 clear hB hV h1 h1v hr1 hrg e1 e2 e3 e4 f1 f2 f3 f4 hG1 hG2 hV1 hrest hrl hW1
 go_enter Tryz.func157, Tryz.ntmps157
 go_wp2_with (simp only [hov])
 go_region_law (refine keC rfl _ _ 24 24 rfl (.slice (some ⟨gs, (i + 1) * 5, none⟩) (n + 1 - (i + 1)) (cap - (i + 1))) (.slice (some ⟨gs, i * 5, none⟩) (n + 1 - i) (cap - i)) (by simp [Act.eval, Act.put]) (by simp [Act.eval, Act.put]) (hcp1 3 (cap - (i + 1)) (cap - i)) ?_)
 go_wp2_with (at_builtin; refine kcE rfl _ _ 24 24 rfl _ _ rfl rfl (hcp2 _ _) ?_)
 go_ret
 exact HEND.out
theorem ins_new (N G : Nat) (ROW : Array Value) (W1 : World) (hW : Below w.heap.size w W1) (hN : w.heap.size ≤ N) (hR : Blk W1 N 77 ROW) (hRs : ROW.size = G * 5) (hG : n + 1 ≤ G) (hROW : ∀ q, q < i * 5 → ROW[q]? = cs[q]?) (hi : i < n) (hvs : vals.size = 5) (hsz : n * 5 ≤ cs.size) :
  keV gs n i cs vals w (.returned (.slice (some ⟨N, 0, none⟩) (n + 1) G)) ((W1.setCells N (i * 5) vals.toList).drew.setCells N ((i + 1) * 5) ((cs.toList.drop (i * 5)).take ((n - i) * 5))) := by
 obtain ⟨c1, e1, e2, e3, e4⟩ := kaH vals.toList (i * 5) W1 ROW hR
 obtain ⟨c2, f1, f2, f3, f4⟩ := kaH ((cs.toList.drop (i * 5)).take ((n - i) * 5)) ((i + 1) * 5) (W1.setCells N (i * 5) vals.toList).drew c1 e1.drew
 have g1 := kat (g := N) vals.toList (i * 5) W1
 have g2 := kat (g := N) ((cs.toList.drop (i * 5)).take ((n - i) * 5)) ((i + 1) * 5) (W1.setCells N (i * 5) vals.toList).drew
 have hrl : ((cs.toList.drop (i * 5)).take ((n - i) * 5)).length = (n - i) * 5 := by rw [List.length_take, List.length_drop, Array.length_toList]; omega
 rw [Array.length_toList, hvs] at e3 e4
 rw [hrl] at f3 f4
 refine ⟨N, G, c2, by rw [Int.toNat_natCast], ⟨g2.os.trans (g1.os.trans hW.os), g2.tape.trans (g1.tape.trans hW.tape), g2.output.trans (g1.output.trans hW.output), Nat.le_trans hW.size (Nat.le_trans g1.size g2.size), fun q hq _ => ?_⟩, .inr hN, f1, by omega, hG, fun q hq => ?_, fun q hq => ?_, fun q hq1 hq2 => ?_⟩
 ·
  have hqn : some q ≠ some N := fun e => by injection e; omega
  have h1 : q < W1.heap.size := Nat.lt_of_lt_of_le hq hW.size
  exact (g2.block q (Nat.lt_of_lt_of_le h1 g1.size) hqn).trans ((g1.block q h1 hqn).trans (hW.block q hq))
 ·
  rw [f4 q (.inl (by omega)), e4 q (.inl hq), hROW q hq]
 ·
  rw [f4 (i * 5 + q) (.inl (by omega)), e3 q hq (by omega), Array.getElem?_toList]
 ·
  rw [show 5 + q = (i + 1) * 5 + (q - i * 5) by omega, f3 (q - i * 5) (by omega) (by omega)]
  rw [List.getElem?_take, if_pos (by omega), List.getElem?_drop, Array.getElem?_toList]
  congr 1
  omega
theorem kjd (hB : Blk w gs 77 cs) (hsz : cs.size = n * 5) (hV : Blk w vb 77 vals) (hvs : vals.size = 5) (hi : i < n) (hnb : n ≤ 100000) (h1 : ∀ q v, q < n * 5 → cs[q]? = some v → v.oneCell' = true) (h1v : ∀ v ∈ vals.toList, v.oneCell' = true) :
  Calls Tryz.prog 157 #[.slice (some ⟨gs, 0, none⟩) n n, .int .i64 i, .slice (some ⟨vb, 0, none⟩) 1 1] w (keV gs n i cs vals w) := by
 obtain ⟨i0, hinf, hz0, hz1, hz2⟩ := info_parts kcs
 obtain ⟨rest, hrest⟩ := xE ((cs.toList.drop (i * 5)).take ((n - i) * 5))
 have hrl : rest.length = (n - i) * 5 := by rw [hrest, List.length_take, List.length_drop, Array.length_toList]; omega
 have hrg : ∀ j v, rest[j]? = some v → cs[i * 5 + j]? = some v ∧ j < (n - i) * 5 := fun j v hj => by
  rw [hrest, List.getElem?_take] at hj
  split at hj
  ·
   exact ⟨by rwa [List.getElem?_drop, Array.getElem?_toList] at hj, by assumption⟩
  ·
   cases hj
 have hr1 : ∀ v ∈ rest, v.oneCell' = true := fun v hv => by
  obtain ⟨j, hj⟩ := List.getElem?_of_mem hv
  obtain ⟨h2, h3⟩ := hrg j v hj
  exact h1 _ v (by omega) h2
 obtain ⟨olds, holds⟩ := xE (cs.toList.take (i * 5))
 have hol : olds.length = i * 5 := by rw [holds, List.length_take, Array.length_toList]; omega
 have hold : (Builtin.firstCells i0.size i (.slice (some ⟨gs, 0, none⟩) i n)).run Tryz.prog w.drew = .ok olds.toArray w.drew := by
  rw [hz1]
  exact run_firstCells_some w.drew 5 i ⟨gs, 0, none⟩ i n olds hol (fun j v hj => by
   rw [ka1, Nat.zero_add]
   rw [holds, List.getElem?_take] at hj
   split at hj
   ·
    exact (hB.cell j).trans (by rw [← Array.getElem?_toList]; exact hj)
   ·
    cases hj)
 have hkk : (n : Int) + 1 - (i : Int) = ((n + 1 - i : Nat) : Int) := by omega
 have hik : i + (n + 1 - i) = n + 1 := by omega
 obtain ⟨z, hz⟩ := xE (Value.agg #[.string ⟨#[]⟩, .slice none 0 0, .int .i64 0, .string ⟨#[]⟩, .int .i64 0])
 have hzc : z.cells.size = 5 := by rw [hz]; kernel_rfl
 rw [← hz] at hz0
 obtain ⟨G, hG⟩ := xE (grownCap w (n + 1) n 77)
 obtain ⟨ROW, hROW⟩ : ∃ ROW : Array Value, ROW = olds.toArray ++ Builtin.zeroCells z.cells (n + 1 - i) ++ Builtin.zeroCells z.cells (G - (n + 1)) := ⟨_, rfl⟩
 have hrz : ∀ ty, (Builtin.append_ #[24, 3] ty #[.slice (some ⟨gs, 0, none⟩) i n, .int .i64 ((n : Int) + 1 - (i : Int))]).run Tryz.prog w =
   .ok (.slice (some ⟨w.heap.size, 0, none⟩) (n + 1) G) (w.drew.alloc (.cells ROW 77)) := fun ty => by
  have h := Lib.run_append_grow_zeros w 24 3 ty 77 i0 z .i64 .i64 Tryz.underlying24 Tryz.underlying3 hinf hz0 (some ⟨gs, 0, none⟩) i n olds hold (n + 1 - i) (by omega) (by omega) (by omega) (by omega) (by rw [hz2]; omega) (by rw [hz2, hik]; exact growslice_fits (by omega) (by omega))
  rw [hik, ← hG, ← hROW] at h
  rw [hkk]
  exact h
 have hGn : n + 1 ≤ G := by rw [hG]; exact grownCap_ge w _ _ _
 have hG63 : G ≤ 9223372036854775807 := by
  have := grownCap_le_maxLen w (n + 1) n 77 (by unfold maxLen; omega)
  rw [← hG] at this
  unfold maxLen at this
  omega
 have hRs : ROW.size = G * 5 := by
  rw [hROW]
  simp only [Array.size_append, List.size_toArray, hol, Builtin.zeroCells, Array.size_map, Array.size_range, hzc]
  omega
 have hR0 : ∀ q, q < i * 5 → ROW[q]? = cs[q]? := fun q hq => by
  rw [hROW, Array.append_assoc, Array.getElem?_append_left (by rw [List.size_toArray]; omega), gA, holds, List.getElem?_take, if_pos hq, Array.getElem?_toList]
 obtain ⟨W1, hW1⟩ := xE (w.drew.alloc (.cells ROW 77))
 have hWB : Below w.heap.size w W1 := by rw [hW1]; exact (Below.refl _ w).drew.alloc (Nat.le_refl _) _
 have hWR : Blk W1 w.heap.size 77 ROW := by rw [hW1]; exact Blk.new w.drew _ _
 have hgw := hB.lt
 have hvw := hV.lt
 have hB1 := hB.below hWB hgw
 have hV1 := hV.below hWB hvw
 have HEND := hD (ins_new gs n i cs vals w w.heap.size G ROW W1 hWB (Nat.le_refl _) hWR hRs hGn hR0 hi hvs (by omega))
 rw [← hrest] at HEND
 have hcpA : ∀ W : World, W.heap = W1.heap → ∀ ty dc, (Builtin.copy_ #[24, 24] ty #[.slice (some ⟨w.heap.size, i * 5, none⟩) (n + 1 - i) dc, .slice (some ⟨vb, 0, none⟩) 1 1]).run Tryz.prog W = .ok (goInt 1) (W.setCells w.heap.size (i * 5) vals.toList) := fun W hW ty dc =>
  kcb W ty w.heap.size (i * 5) (n + 1 - i) dc 1 ⟨vb, 0, none⟩ 1 1 vals.toList (by simp only [Nat.min_def]; split <;> omega) (by rw [Array.length_toList, hvs])
   (fun j v hj => by
    have hVW : Blk W vb 77 vals := by unfold Blk; rw [hW]; exact hV1
    rw [ka1, hVW.cell, Nat.zero_add, ← Array.getElem?_toList]; exact hj)
   (fun j hj => by
    have hRW : Blk W w.heap.size 77 ROW := by unfold Blk; rw [hW]; exact hWR
    rw [hRW.cell, Array.getElem?_eq_getElem (by rw [Array.length_toList] at hj; omega)]; rfl)
   (fun j _ => by
    have hRW : Blk W w.heap.size 77 ROW := by unfold Blk; rw [hW]; exact hWR
    exact hRW.frozen _) h1v
 obtain ⟨c1, e1, e2, e3, e4⟩ := kaH vals.toList (i * 5) W1 ROW hWR
 have hB2 : Blk (W1.setCells w.heap.size (i * 5) vals.toList) gs 77 cs := hB1.grown (kat vals.toList (i * 5) W1) (fun e => by injection e; omega)
 have hcpB : ∀ W : World, W.heap = (W1.setCells w.heap.size (i * 5) vals.toList).heap → ∀ ty dc sc, (Builtin.copy_ #[24, 24] ty #[.slice (some ⟨w.heap.size, (i + 1) * 5, none⟩) (n + 1 - (i + 1)) dc, .slice (some ⟨gs, i * 5, none⟩) (n - i) sc]).run Tryz.prog W = .ok (goInt ((n - i : Nat) : Int)) (W.setCells w.heap.size ((i + 1) * 5) rest) := fun W hW ty dc sc =>
  kcb W ty w.heap.size ((i + 1) * 5) (n + 1 - (i + 1)) dc (n - i) ⟨gs, i * 5, none⟩ (n - i) sc rest (by simp only [Nat.min_def]; split <;> omega) hrl
   (fun j v hj => by
    have hVW : Blk W gs 77 cs := by unfold Blk; rw [hW]; exact hB2
    rw [ka1, hVW.cell]; exact (hrg j v hj).1)
   (fun j hj => by
    have hRW : Blk W w.heap.size 77 c1 := by unfold Blk; rw [hW]; exact e1
    rw [hRW.cell, Array.getElem?_eq_getElem (by omega)]; rfl)
   (fun j _ => by
    have hRW : Blk W w.heap.size 77 c1 := by unfold Blk; rw [hW]; exact e1
    exact hRW.frozen _) hr1
 have q0 : ¬ ((i : Int) = (n : Int)) := by omega
 have q1 : IntKind.i64.wrap ((i : Int) + 1) = (i : Int) + 1 := by rw [IntKind.wrap_i64]; omega
 have q2 : (0 : Int) ≤ (i : Int) + 1 := by omega
 have q3 : i ≤ n := by omega
 have q4 : ((i : Int) + 1).toNat = i + 1 := by omega
 have q5 : ¬ (G = i + 1) := by omega
 have q6 : (i : Int) ≤ (n : Int) + 1 := by omega
 have q7 : ¬ (G = i) := by omega
 have q8 : (n : Int) < (n : Int) + 1 := by omega
 have q9 : (i : Int) ≤ (n : Int) := by omega
 have qa : ¬ (n = i) := by omega
 subst hW1
 have hE1 : ((w.alloc (.cells ROW 77)).drew).heap = (w.drew.alloc (.cells ROW 77)).heap := rfl
 have hE2 : (((w.alloc (.cells ROW 77)).drew.setCells w.heap.size (i * 5) vals.toList).drew).heap = ((w.drew.alloc (.cells ROW 77)).setCells w.heap.size (i * 5) vals.toList).heap := rfl
 clear hB hV h1 h1v hr1 hrg e1 e2 e3 e4 hrest hrl hold holds hol hkk hik hROW hG hRs hR0 hWB hWR hB1 hV1 hB2 hz0 hz1 hz2 hinf hz hzc
 go_enter Tryz.func157, Tryz.ntmps157
 go_wp2_with (first
  | (at_builtin; refine Lib.wpList_append_run _ rfl _ _ _ _ rfl _ _ rfl rfl _ _ (hrz _) ?_)
  | (at_builtin; refine kcE rfl _ _ 24 24 rfl _ _ rfl rfl (hcpA _ hE1 _ _) ?_)
  | (at_builtin; refine kcE rfl _ _ 24 24 rfl _ _ rfl rfl (hcpB _ rfl _ _ _) ?_))
 go_region_law (refine keC rfl _ _ 24 24 rfl (.slice (some ⟨w.heap.size, (i + 1) * 5, none⟩) (n + 1 - (i + 1)) (G - (i + 1))) (.slice (some ⟨gs, i * 5, none⟩) (n - i) (n - i)) (by simp [Act.eval, Act.put]) (by simp [Act.eval, Act.put]) (hcpB _ hE2 3 (G - (i + 1)) (n - i)) ?_)
 go_wp2
 go_ret
 exact HEND.out
end
end Go.Proofs.YtamhdmkolfmmdaaGreatDoor
namespace Go.Proofs.YtamhdmkolfmmdaaGreatDoor
open Go
section
variable {P : Program} {ops : Array Oper} {Q : Exit → Act → World → Prop} {md : Region.Mode} {S : World → Prop}
theorem kb8 {i j : Nat} {o o' : Oper} {fuel : Nat} {listed : Array Bool} {a : Act} {w : World} (hr : Region.ready md ops listed = [i, j]) (ho : ops[i]? = some o) (ho' : ops[j]? = some o')
  (h : ∀ K' : Act → World → Prop, Shut (∀ a w, S w → wpAnyH P md ops Q S fuel (listed.setIfInBounds i true) a w → K' a w) → if Region.wanted o (yielded ops a.tmps) = true then Oper.wp P o a w K' Q else K' (a.put o.dst undef) w)
  (h' : ∀ K' : Act → World → Prop, Shut (∀ a w, S w → wpAnyH P md ops Q S fuel (listed.setIfInBounds j true) a w → K' a w) → if Region.wanted o' (yielded ops a.tmps) = true then Oper.wp P o' a w K' Q else K' (a.put o'.dst undef) w) : wpAnyH P md ops Q S (fuel + 1) listed a w :=
 wpAnyH_ready hr (by simp) (AllReadyH.cons ho (fun K' hK => h K' (fun a w hS hW => hK a w hS (fun _ => hW))) (AllReadyH.cons ho' (fun K' hK => h' K' (fun a w hS hW => hK a w hS (fun _ => hW))) AllReadyH.nil))
end
end Go.Proofs.YtamhdmkolfmmdaaGreatDoor
