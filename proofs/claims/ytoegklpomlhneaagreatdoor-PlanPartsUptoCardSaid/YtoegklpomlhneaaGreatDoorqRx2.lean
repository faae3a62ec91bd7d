/- A struct of two pointers as a key. tree.Finite, for a tree in memory. The walk of syntax.Same at two equal trees. -/
import Derived.Test.YtoegklpomlhneaaGreatDoorqRb
import Derived.Test.YtoegklpomlhneaaGreatDoorProg
import Derived.Test.YtoegklpomlhneaaGreatDoorqTyN
import Derived.Test.YtoegklpomlhneaaGreatDoorqOfT
import Derived.Test.YtoegklpomlhneaaGreatDoorqRm
import Derived.Deep.RegionHeld3
import Derived.BigQuiet
namespace Go.Proofs.YtoegklpomlhneaaGreatDoor
open Go.RowKit
def encP (p : Addr × Addr) : Value := .agg #[.pointer (some p.1), .pointer (some p.2)]
theorem pairU : (Tryz.prog.underlying 90).map (fun d => match d with | .struct fs => fs.toList.map (fun f => (decide (f.name = "_"), f.type, f.offset)) | _ => []) = some [(false, 88, 0), (false, 88, 1)] := by kernel_rfl
set_option maxRecDepth 100000 in
theorem pairS : ∃ f g : Field, Tryz.prog.underlying 90 = some (.struct #[f, g]) ∧ (f.name ≠ "_" ∧ f.type = 88 ∧ f.offset = 0) ∧ (g.name ≠ "_" ∧ g.type = 88 ∧ g.offset = 1) := by
  have h := pairU
  cases hd : Tryz.prog.underlying 90 with
  | none => rw [hd] at h; cases h
  | some d =>
    rw [hd] at h
    simp only [Option.map_some, Option.some.injEq] at h
    cases d <;> simp only [reduceCtorEq] at h
    rename_i fs
    obtain ⟨fs⟩ := fs
    match fs, h with
    | [f, g], h =>
      simp at h
      exact ⟨f, g, rfl, ⟨h.1.1, h.1.2⟩, ⟨h.2.1, h.2.2⟩⟩
theorem infoExprP : (Tryz.prog.info? 41).map (fun i => (i.zero, i.size, i.bytes)) = some (some (.agg #[.int .i64 0, .string ⟨#[]⟩, .int .i64 0, .slice none 0 0]), 4, 56) := by kernel_rfl
theorem pairHeld : Tryz.prog.stoodInHeld 90 = false := by kernel_rfl
theorem ptrAgg (w : World) : (isAgg 88).run Tryz.prog w = .ok false w := by kernel_rfl
theorem part_ptr (cs : Array Value) (i : Nat) (v : Value) (h : cs[i]? = some v) (w : World) : (part 88 cs i).run Tryz.prog w = .ok v w := by
  simp [part, ptrAgg, h, Sem.run_bind, Result.andThen]
theorem part_a (x y : Value) (w : World) : (part 88 #[x, y] 0).run Tryz.prog w = .ok x w := part_ptr _ 0 x rfl w
theorem part_b (x y : Value) (w : World) : (part 88 #[x, y] 1).run Tryz.prog w = .ok y w := part_ptr _ 1 y rfl w
theorem pair_keyEq (w : World) : KeyEq Tryz.prog 90 encP w (fun p => plainA w p.1 ∧ plainA w p.2) where
  check := fun k em _ => by
    have h : ∀ n : Nat, (Instr.checkKey em (n + 1 + 1) 90 (encP k)).run Tryz.prog w = .ok () w := fun n => by
      obtain ⟨f, g, hu, ⟨f1, f2, f3⟩, ⟨g1, g2, g3⟩⟩ := pairS
      unfold encP
      rw [Instr.checkKey]
      simp [run_underlying hu, f1, f2, f3, g1, g2, g3, part_a, part_b, Sem.run_bind, Result.andThen, Instr.checkKey, run_underlying Tryz.underlying88]
    exact h 9998
  find := fun k es _ => by
    obtain ⟨f, g, hu, _⟩ := pairS
    cases es with
    | nil => simp [Instr.findKey, run_underlying hu, Instr.findNow, Instr.findAsking]
    | cons e es => simp [Instr.findKey, run_underlying hu, Instr.findNow, Instr.sameNow]
  eq := fun a b ha hb => by
    obtain ⟨f, g, hu, ⟨f1, f2, f3⟩, ⟨g1, g2, g3⟩⟩ := pairS
    have hp : ∀ (d : Nat) (a b : Addr), plainA w a → plainA w b → (Op.equalIn (d + 1) 88 (encA a) (encA b)).run Tryz.prog w = .ok (decide (a = b)) w := fun d a b ha hb => by
      obtain ⟨ta, ca, ha⟩ := ha
      obtain ⟨tb, cb, hb⟩ := hb
      obtain ⟨j, he, hs⟩ : ∃ j : TypeInfo, Tryz.prog.info? 41 = some j ∧ j.size ≠ 0 := by
        obtain ⟨i0, hinf, _, hz, _⟩ := info_parts infoExprP
        exact ⟨i0, hinf, by rw [hz]; decide⟩
      unfold encA
      by_cases hab : a = b
      · subst hab
        simp [Op.equalIn, run_underlying Tryz.underlying88, sizeOf, typeInfo, he, run_sameAddr_same]
      · simp [Op.equalIn, run_underlying Tryz.underlying88, sizeOf, typeInfo, he, hs, run_sameAddr_other w hab ha hb, hab]
    obtain ⟨a1, a2⟩ := a
    obtain ⟨b1, b2⟩ := b
    have h : ∀ d : Nat, (Op.equalIn (d + 1 + 1) 90 (encP (a1, a2)) (encP (b1, b2))).run Tryz.prog w = .ok (decide ((a1, a2) = (b1, b2))) w := fun d => by
      have e1 := hp d a1 b1 ha.1 hb.1
      have e2 := hp d a2 b2 ha.2 hb.2
      unfold encA at e1 e2
      unfold encP
      rw [Op.equalIn]
      simp [run_underlying hu, f1, f2, f3, g1, g2, g3, part_a, part_b, Sem.run_bind, Result.andThen, e1, e2]
      by_cases h1 : a1 = b1
      · by_cases h2 : a2 = b2
        · simp [h1, h2, part_b, Result.andThen] at e2 ⊢
          simp [e2]
        · simp [h1, h2, part_b, Result.andThen] at e2 ⊢
          simp [e2]
      · simp [h1, Result.andThen]
    exact h 9998
  bits := fun k _ => by
    have h : ∀ n : Nat, Instr.sameBits (n + 1) (encP k) (encP k) = true := fun n => by unfold encP; cases n <;> simp [Instr.sameBits]
    exact h 9999
end Go.Proofs.YtoegklpomlhneaaGreatDoor
namespace Go.Proofs.YtoegklpomlhneaaGreatDoor
open Go.RowKit
theorem true_fin (a : Addr) (w : World) : Calls Tryz.prog 51 #[.pointer (some a)] w fun e w' => e = .returned (.bool true) ∧ w = w' := by
  go_enter Tryz.func51, Tryz.ntmps51
  go_wp2_with fail
  go_ret
  exact ⟨rfl, rfl⟩
/-- What tree.Finite answers, for a tree in memory. -/
theorem Finite_any (r : Lx) (w : World) (hr : LxAt w (fun i => i < w.heap.size) r) (hsz : r.size ≤ 1000000) :
    Calls Tryz.prog 36 #[.pointer (some r.ad)] w fun e w' => e = .returned (.bool true) ∧ Below w.heap.size w w' := by
  have hc := all_any 51 (fun _ => true) r w (fun _ _ => by kernel_rfl) hr hsz (fun x w1 _ _ => true_fin _ _)
  go_enter Tryz.func36, Tryz.ntmps36
  go_wp2_with fail
  refine hc.mono ?_
  rintro e w1 ⟨he, hbel⟩
  rw [allT] at he
  subst he
  go_wp2_with fail
  go_ret
  exact ⟨rfl, hbel⟩
end Go.Proofs.YtoegklpomlhneaaGreatDoor
namespace Go.Proofs.YtoegklpomlhneaaGreatDoor
open Go.RowKit
def prC (st : List (Lx × Lx)) : List Value := st.flatMap fun p => [.pointer (some p.1.ad), .pointer (some p.2.ad)]
theorem prC_append (a b : List (Lx × Lx)) : prC (a ++ b) = prC a ++ prC b := by unfold prC; rw [List.flatMap_append]
theorem prC_one (x y : Lx) : prC [(x, y)] = [.pointer (some x.ad), .pointer (some y.ad)] := rfl
theorem prC_len : ∀ st : List (Lx × Lx), (prC st).length = st.length * 2
  | [] => rfl
  | p :: st => by
    have := prC_len st
    unfold prC at this ⊢
    rw [List.flatMap_cons, List.length_append, this, List.length_cons]
    simp; omega
def szP (st : List (Lx × Lx)) : Nat := (st.map fun p => p.1.size).sum
theorem szP_append (a b : List (Lx × Lx)) : szP (a ++ b) = szP a + szP b := by unfold szP; rw [List.map_append, List.sum_append]
theorem szP_one (x y : Lx) : szP [(x, y)] = x.size := by simp [szP]
theorem szP_len : ∀ st : List (Lx × Lx), st.length ≤ szP st
  | [] => Nat.le_refl _
  | p :: st => by
    have h1 := szP_len st
    have h2 := p.1.size_pos
    unfold szP at h1 ⊢
    rw [List.map_cons, List.sum_cons, List.length_cons]
    omega
theorem szP_zip : ∀ (l m : List Lx), szP (l.zip m) ≤ sizeXL l
  | [], m => by simp [szP]
  | x :: l, [] => by simp [szP]
  | x :: l, y :: m => by
    have h := szP_zip l m
    rw [List.zip_cons_cons, show ((x, y) :: l.zip m) = [(x, y)] ++ l.zip m from rfl, szP_append, szP_one, sizeXL]
    omega
theorem snoc_or {α : Type} (l : List α) : l = [] ∨ ∃ L b, l = L ++ [b] := by
  rcases List.eq_nil_or_concat l with h | ⟨L, b, h⟩
  · exact .inl h
  · exact .inr ⟨L, b, by rw [h, List.concat_eq_append]⟩
theorem mem_upd' {κ : Type} [DecidableEq κ] {l : List (κ × Value)} {k : κ} {v : Value} {p : κ × Value} (h : p ∈ updL l k v) : p = (k, v) ∨ p ∈ l := by
  induction l with
  | nil => simp [updL] at h; exact .inl h
  | cons q l ih =>
    unfold updL at h
    split at h
    · rcases List.mem_cons.1 h with rfl | h
      · exact .inl rfl
      · exact .inr (List.mem_cons_of_mem _ h)
    · rcases List.mem_cons.1 h with rfl | h
      · exact .inr (List.mem_cons_self ..)
      · rcases ih h with h | h
        · exact .inl h
        · exact .inr (List.mem_cons_of_mem _ h)
def SmPure (a b : Lx) (st : List (Lx × Lx)) (s : List ((Addr × Addr) × Value)) : Prop :=
  (∀ p ∈ st, Sub p.1 a ∧ Sub p.2 b ∧ p.1.er = p.2.er) ∧ ∀ q ∈ s, q.2 = .bool true ∧ ∃ x y, Sub x a ∧ Sub y b ∧ q.1 = (x.ad, y.ad)
def SmMem (w wr : World) (a b : Lx) (mb : Nat) (v : Value) (st : List (Lx × Lx)) (s : List ((Addr × Addr) × Value)) : Prop :=
  wr.ownsRow (w.heap.size + 2) 90 2 v st.length (prC st) ∧ MapIs wr mb encP s ∧ LxAt wr (fun i => i < w.heap.size + 2) a ∧ LxAt wr (fun i => i < w.heap.size + 2) b ∧ w.heap.size + 2 ≤ mb ∧ Below w.heap.size w wr ∧ w.heap.size + 2 ≤ wr.heap.size
theorem SmMem.alloc {w wr : World} {a b : Lx} {mb : Nat} {v : Value} {st : List (Lx × Lx)} {s : List ((Addr × Addr) × Value)} (h : SmMem w wr a b mb v st s) (o : Obj) : SmMem w (wr.alloc o) a b mb v st s := by
  obtain ⟨h1, h2, h3, h4, h5, h6, h7⟩ := h
  have hb := below_alloc wr o
  refine ⟨own_below h1 hb, h2.keep (Below.heap_alloc wr o mb ?_), LxAt.keep (F := fun i => i < w.heap.size + 2) (fun i hi hl => hb.block i hl) (fun _ h _ => h) a h3, LxAt.keep (F := fun i => i < w.heap.size + 2) (fun i hi hl => hb.block i hl) (fun _ h _ => h) b h4, h5, h6.alloc (by omega) o, Nat.le_trans h7 hb.size⟩
  obtain ⟨es, clock, hm, _⟩ := h2
  exact (Array.getElem?_eq_some_iff.1 hm).1
theorem smap_lt {κ : Type} {w : World} {g : Nat} {enc : κ → Value} {l : List (κ × Value)} (h : MapIs w g enc l) : g < w.heap.size := by
  obtain ⟨es, clock, hm, _⟩ := h
  exact (Array.getElem?_eq_some_iff.1 hm).1
theorem map_neP {κ : Type} {w : World} {mb g : Nat} {enc : κ → Value} {l : List (κ × Value)} {t : TypeId} {cs : Array Value} (h : MapIs w mb enc l) (hb : Blk w g t cs) : mb ≠ g := by
  rintro rfl
  obtain ⟨es, clock, hm, _⟩ := h
  unfold Blk at hb
  rw [hb] at hm
  cases hm
theorem SmMem.cut {w wr : World} {a b : Lx} {mb : Nat} {v : Value} {st : List (Lx × Lx)} {p : Lx × Lx} {s : List ((Addr × Addr) × Value)} {g c : Nat} (h : SmMem w wr a b mb v (st ++ [p]) s) (hv : v = .slice (some ⟨g, 0, none⟩) (st.length + 1) c) : SmMem w wr a b mb (.slice (some ⟨g, 0, none⟩) st.length c) st s := by
  subst hv
  obtain ⟨h1, h2⟩ := h
  rw [List.length_append, List.length_singleton] at h1
  have hcut := own_cut h1 st.length (by omega) (by omega)
  rw [prC_append, List.take_left' (prC_len st)] at hcut
  exact ⟨hcut, h2⟩
theorem SmMem.upd {w wr w4 : World} {a b : Lx} {mb : Nat} {v : Value} {st : List (Lx × Lx)} {s s' : List ((Addr × Addr) × Value)} (h : SmMem w wr a b mb v st s) (hM : MapIs w4 mb encP s') (hg : wr.grownBy w4 (some mb)) : SmMem w w4 a b mb v st s' := by
  obtain ⟨h1, h2, h3, h4, h5, h6, h7⟩ := h
  have hne : ∀ i, i < w.heap.size + 2 → some i ≠ some mb := fun i hi e => by injection e with e; omega
  refine ⟨own_same h1 (fun g hgv => ?_), hM, LxAt.keep (F := fun i => i < w.heap.size + 2) (fun i hi hl => hg.block i hl (hne i hi)) (fun _ h _ => h) a h3, LxAt.keep (F := fun i => i < w.heap.size + 2) (fun i hi hl => hg.block i hl (hne i hi)) (fun _ h _ => h) b h4, h5, h6.grown hg (by omega) (fun j e => by injection e with e; omega), Nat.le_trans h7 hg.size⟩
  obtain ⟨_, cur, hc⟩ := own_lo h1 hgv
  exact hg.block g hc.lt (fun e => by injection e with e; exact map_neP h2 hc e.symm)
theorem SmMem.push {w wr w7 : World} {a b x y : Lx} {mb : Nat} {v v7 : Value} {st : List (Lx × Lx)} {s : List ((Addr × Addr) × Value)} {o : Obj} (h : SmMem w wr a b mb v st s) (hg : (wr.alloc o).drew.grownBy w7 v.ownBlock)
    (ho : w7.ownsRow (w.heap.size + 2) 90 2 v7 (st.length + 1) (prC st ++ [.pointer (some x.ad), .pointer (some y.ad)])) : SmMem w w7 a b mb v7 (st ++ [(x, y)]) s := by
  obtain ⟨h1, h2, h3, h4, h5, h6, h7⟩ := h
  have hg2 : wr.grownBy w7 v.ownBlock := (only_of_below (below_alloc wr o).drew _).trans hg
  have hne : ∀ i, i < w.heap.size + 2 → some i ≠ v.ownBlock := fun i hi e => by have := (own_lo h1 e.symm).1; omega
  refine ⟨by rw [List.length_append, prC_append, prC_one]; exact ho, h2.keep (hg2.block mb (smap_lt h2) (fun e => ?_)), LxAt.keep (F := fun i => i < w.heap.size + 2) (fun i hi hl => hg2.block i hl (hne i hi)) (fun _ h _ => h) a h3, LxAt.keep (F := fun i => i < w.heap.size + 2) (fun i hi hl => hg2.block i hl (hne i hi)) (fun _ h _ => h) b h4, h5, h6.grown hg2 (by omega) (fun j e => by have := (own_lo h1 e).1; omega), Nat.le_trans h7 hg2.size⟩
  obtain ⟨_, cur, hc⟩ := own_lo h1 e.symm
  exact map_neP h2 hc rfl
def SmRel (w : World) (a b : Lx) (mb : Nat) (f : Nat) (v : Value) (wr : World) : Prop := ∃ st s, Hid (SmPure a b st s) ∧ szP st < f ∧ szP st ≤ 900001 ∧ Hid (SmMem w wr a b mb v st s)
theorem SmMem.drewN {w wr : World} {a b : Lx} {mb : Nat} {v : Value} {st : List (Lx × Lx)} {s : List ((Addr × Addr) × Value)} (h : SmMem w wr a b mb v st s) (n : Nat) : SmMem w (wr.drewN n) a b mb v st s :=
  ⟨h.1, h.2.1, LxAt.keep (w := wr) (w' := wr.drewN n) (F := fun i => i < w.heap.size + 2) (fun _ _ _ => rfl) (fun _ h _ => h) a h.2.2.1, LxAt.keep (w := wr) (w' := wr.drewN n) (F := fun i => i < w.heap.size + 2) (fun _ _ _ => rfl) (fun _ h _ => h) b h.2.2.2.1, h.2.2.2.2.1, below_drewN h.2.2.2.2.2.1 n, h.2.2.2.2.2.2⟩
def SmIn (w : World) (a b x y : Lx) (mb n : Nat) (st : List (Lx × Lx)) (s : List ((Addr × Addr) × Value)) (f : Nat) (v i : Value) (wr : World) : Prop := ∃ j : Nat, i = .int .i64 j ∧ j ≤ n ∧ n - j < f ∧ Hid (SmMem w wr a b mb v (st ++ (x.args.zip y.args).take j) s)
theorem infoPairS : (Tryz.prog.info? 90).map (fun i => (i.zero, i.size, i.bytes)) = some (some (.agg #[.pointer none, .pointer none]), 2, 16) := by kernel_rfl
theorem er_len {x y : Lx} (h : x.er = y.er) : x.kind = y.kind ∧ x.text = y.text ∧ x.num = y.num ∧ x.args.length = y.args.length := by
  refine ⟨by rw [← er_kind, h, er_kind], by rw [← er_text, h, er_text], by rw [← er_num, h, er_num], ?_⟩
  have := congrArg Tx.args h
  rw [er_args, er_args] at this
  have := congrArg List.length this
  rwa [erL_length, erL_length] at this
theorem er_get {x y p q : Lx} (h : x.er = y.er) {j : Nat} (hp : x.args[j]? = some p) (hq : y.args[j]? = some q) : p.er = q.er := by
  have := congrArg Tx.args h
  rw [er_args, er_args, erL_map, erL_map] at this
  have := congrArg (fun l => l[j]?) this
  simp only [List.getElem?_map, hp, hq, Option.map_some, Option.some.injEq] at this
  exact this
set_option maxRecDepth 100000 in
set_option maxHeartbeats 4000000 in
theorem same_any (τ : Tx) (cs1 cs2 : List Value) (w : World) (h1 : NodeV w (fun i => i < w.heap.size) τ cs1) (h2 : NodeV w (fun i => i < w.heap.size) τ cs2) (hsz : τ.size ≤ 900000) :
    Calls Tryz.prog 19 #[.agg cs1.toArray, .agg cs2.toArray] w fun e w' => e = .returned (.bool true) ∧ Below w.heap.size w w' := by
  obtain ⟨A, c, l, rfl, hle, hls⟩ := h1
  obtain ⟨A', c', l', rfl, hle', hls'⟩ := h2
  obtain ⟨a, ha⟩ : ∃ r, r = Lx.node ⟨w.heap.size, 0, none⟩ τ.kind τ.text τ.num l := ⟨_, rfl⟩
  obtain ⟨b, hb⟩ : ∃ r, r = Lx.node ⟨w.heap.size + 1, 0, none⟩ τ.kind τ.text τ.num l' := ⟨_, rfl⟩
  have hea : a.er = τ := by rw [ha]; cases τ; rw [Lx.er, hle]; rfl
  have heb : b.er = τ := by rw [hb]; cases τ; rw [Lx.er, hle']; rfl
  have hla : τ.args.length = l.length := by rw [← hle, erL_length]
  have hlb : τ.args.length = l'.length := by rw [← hle', erL_length]
  obtain ⟨W, hW⟩ : ∃ W, W = (w.alloc (.cells #[.int .i64 τ.kind, .string ⟨τ.text.toArray⟩, .int .i64 τ.num, .slice A τ.args.length c] 41)).alloc (.cells #[.int .i64 τ.kind, .string ⟨τ.text.toArray⟩, .int .i64 τ.num, .slice A' τ.args.length c'] 41) := ⟨_, rfl⟩
  have hb0 : Below w.heap.size w W := by rw [hW]; exact (below_alloc w _).alloc (by simp) _
  have hs0 : W.heap.size = w.heap.size + 2 := by rw [hW]; simp
  have hA0 : LxAt W (fun i => i < w.heap.size + 2) a := by
    rw [ha]
    unfold LxAt
    refine ⟨w.heap.size, 0, A, c, 41, _, rfl, by omega, by rw [hW]; exact (Blk.new _ _ _).alloc _, rfl, rfl, rfl, by rw [← hla]; rfl, ?_⟩
    exact LxAts.keep (F := fun i => i < w.heap.size) (fun i hi _ => hb0.block i hi) (fun i hi _ => by omega) A 0 l hls
  have hB0 : LxAt W (fun i => i < w.heap.size + 2) b := by
    rw [hb]
    unfold LxAt
    refine ⟨w.heap.size + 1, 0, A', c', 41, _, rfl, by omega, by rw [hW]; have := Blk.new (w.alloc (.cells #[.int .i64 τ.kind, .string ⟨τ.text.toArray⟩, .int .i64 τ.num, .slice A τ.args.length c] 41)) 41 #[.int .i64 τ.kind, .string ⟨τ.text.toArray⟩, .int .i64 τ.num, .slice A' τ.args.length c']; simpa using this, rfl, rfl, rfl, by rw [← hlb]; rfl, ?_⟩
    exact LxAts.keep (F := fun i => i < w.heap.size) (fun i hi _ => hb0.block i hi) (fun i hi _ => by omega) A' 0 l' hls'
  have haa : a.ad = ⟨w.heap.size, 0, none⟩ := by rw [ha]; rfl
  have hba : b.ad = ⟨w.heap.size + 1, 0, none⟩ := by rw [hb]; rfl
  have hza : a.size ≤ 900000 := by rw [size_er, hea]; exact hsz
  have hzb : b.size ≤ 900000 := by rw [size_er, heb]; exact hsz
  have hfa := Finite_any a W (by rw [hs0]; exact hA0) (by omega)
  rw [haa, hW] at hfa
  have HFA := Lib.hid hfa
  have HFB := Lib.hid (show ∀ W2, Below W.heap.size W W2 → Calls Tryz.prog 36 #[.pointer (some ⟨w.heap.size + 1, 0, none⟩)] W2 fun e w' => e = .returned (.bool true) ∧ Below W2.heap.size W2 w' from fun W2 hb2 => by
    have := Finite_any b W2 (LxAt.keep (F := fun i => i < w.heap.size + 2) (fun i hi hl => hb2.block i hl) (fun i hi _ => by have := hb2.size; omega) b hB0) (by omega)
    rwa [hba] at this)
  have HA0 := Lib.hid hA0
  have HB0 := Lib.hid hB0
  have HBW := Lib.hid hb0
  have HS0 := Lib.hid hs0
  have HAA := Lib.hid haa
  have HBA := Lib.hid hba
  have HEA := Lib.hid (hea.trans heb.symm)
  have HZA := Lib.hid hza
  have HW := Lib.hid hW
  obtain ⟨kd, hkd⟩ : ∃ kd, kd = τ.kind := ⟨_, rfl⟩
  obtain ⟨tx, htx⟩ : ∃ tx, tx = τ.text := ⟨_, rfl⟩
  obtain ⟨nm, hnm⟩ : ∃ nm, nm = τ.num := ⟨_, rfl⟩
  obtain ⟨ln, hln⟩ : ∃ ln, ln = τ.args.length := ⟨_, rfl⟩
  rw [← hkd, ← htx, ← hnm, ← hln] at HFA HW ⊢
  clear hfa hA0 hB0 hb0 hs0 haa hba hea heb hza hzb hW hla hlb hle hle' hls hls' ha hb hsz hkd htx hnm hln
  go_enter Tryz.func19, Tryz.ntmps19
  go_wp2_with fail
  refine HFA.out.mono ?_
  rintro e w1 ⟨rfl, hb1⟩
  rw [← HW.out] at hb1
  have HB1 := Lib.hid hb1
  clear hb1
  go_wp2_with fail
  refine (HFB.out w1 HB1.out).mono ?_
  rintro e w2 ⟨rfl, hb2⟩
  have hbW2 := HB1.out.trans (hb2.mono HB1.out.size)
  have HB2 := Lib.hid hbW2
  have hz2 : w.heap.size + 2 ≤ w2.heap.size := by have := hbW2.size; have := HS0.out; omega
  have hA2 : LxAt w2 (fun i => i < w.heap.size + 2) a := LxAt.keep (F := fun i => i < w.heap.size + 2) (fun i hi hl => hbW2.block i hl) (fun _ h _ => h) a HA0.out
  have hB2 : LxAt w2 (fun i => i < w.heap.size + 2) b := LxAt.keep (F := fun i => i < w.heap.size + 2) (fun i hi hl => hbW2.block i hl) (fun _ h _ => h) b HB0.out
  have hv0 := World.ownsRow_lit (base := w.heap.size + 2) (e := 90) (size := 2) w2 #[.pointer (some ⟨w.heap.size, 0, none⟩), .pointer (some ⟨w.heap.size + 1, 0, none⟩)] 1 hz2 (by decide) rfl
  have hM0 := MapIs.new (w2.alloc (.cells #[.pointer (some ⟨w.heap.size, 0, none⟩), .pointer (some ⟨w.heap.size + 1, 0, none⟩)] 90)) encP 0
  have hs3 : (w2.alloc (.cells #[.pointer (some ⟨w.heap.size, 0, none⟩), .pointer (some ⟨w.heap.size + 1, 0, none⟩)] 90)).heap.size = w2.heap.size + 1 := by simp
  rw [hs3] at hM0
  have hbb := (below_alloc w2 (.cells #[.pointer (some ⟨w.heap.size, 0, none⟩), .pointer (some ⟨w.heap.size + 1, 0, none⟩)] 90)).alloc (by simp) (.map #[] 0)
  have HM0 := Lib.hid (show SmMem w ((w2.alloc (.cells #[.pointer (some ⟨w.heap.size, 0, none⟩), .pointer (some ⟨w.heap.size + 1, 0, none⟩)] 90)).alloc (.map #[] 0)) a b (w2.heap.size + 1) (.slice (some ⟨w2.heap.size, 0, none⟩) 1 1) [(a, b)] [] from
    ⟨by rw [prC_one, HAA.out, HBA.out]; exact own_below hv0 (below_alloc _ _), hM0, LxAt.keep (F := fun i => i < w.heap.size + 2) (fun i hi hl => hbb.block i hl) (fun _ h _ => h) a hA2, LxAt.keep (F := fun i => i < w.heap.size + 2) (fun i hi hl => hbb.block i hl) (fun _ h _ => h) b hB2, by omega, (HBW.out.trans (hbW2.mono HBW.out.size)).trans (hbb.mono (by omega)), by have := hbb.size; omega⟩)
  have hmm : ∀ (W : World), (Instr.makeMap 92 none).run Tryz.prog W = .ok (.map (some W.heap.size)) (W.alloc (.map #[] 0)) := fun W => by
    simp [Instr.makeMap, run_underlying Tryz.underlying92]
  have HP0 := Lib.hid (show SmPure a b [(a, b)] [] from ⟨fun p hp => by
    have : p = (a, b) := by simpa using hp
    subst this
    exact ⟨.refl _, .refl _, HEA.out⟩, fun q hq => by cases hq⟩)
  clear hb2 hbW2 hA2 hB2 hv0 hM0 hs3 hbb HB1 HB2 HFA HFB HA0 HB0 HBW HW
  go_wp2_with fail
  clear hmm
  go_loopg [5, 7, 8, 9, 10, 92] (a.size + 1) (fun f v _ _ _ _ _ wr => SmRel w a b (w2.heap.size + 1) f v wr)
  case atStart => exact ⟨[(a, b)], [], HP0, by rw [szP_one]; omega, by rw [szP_one]; have := HZA.out; omega, HM0⟩
  case round =>
    clear HP0 HM0
    obtain ⟨wo, rfl⟩ : ∃ wo : World, wo = wr := ⟨_, rfl⟩
    obtain ⟨st, s, HP, hms, hbd, HM⟩ := hrel
    obtain ⟨f, rfl⟩ : ∃ f, gk = f + 1 := ⟨gk - 1, by omega⟩
    rcases snoc_or st with rfl | ⟨st, q, rfl⟩
    · obtain ⟨A9, c9, rfl⟩ := own_form HM.out.1
      have HBE := Lib.hid HM.out.2.2.2.2.2.1
      simp only [List.length_nil]
      go_wp2_with fail
      go_ret
      exact ⟨rfl, HBE.out⟩
    · obtain ⟨x, y⟩ := q
      obtain ⟨g, c9, rfl, hnc, hbg, hgl, hcells⟩ := own_at HM.out.1 (by simp)
      have hsub := HP.out.1 (x, y) (by simp)
      obtain ⟨hsx, hsy, hxy⟩ := hsub
      rw [List.length_append, List.length_singleton] at hnc ⊢
      rw [prC_append, prC_one] at hcells
      have y0 : wo.cell? ⟨g, st.length * 2, none⟩ = some (.pointer (some x.ad)) := hcells _ _ (by rw [List.getElem?_append_right (by rw [prC_len]; omega), prC_len, Nat.sub_self]; rfl)
      have y1 : wo.cell? ⟨g, st.length * 2 + 1, none⟩ = some (.pointer (some y.ad)) := hcells _ _ (by rw [List.getElem?_append_right (by rw [prC_len]; omega), prC_len, show st.length * 2 + 1 - st.length * 2 = 1 by omega]; rfl)
      have HM1 := Lib.hid (SmMem.cut HM.out (by rw [List.length_append, List.length_singleton]))
      rw [szP_append, szP_one] at hms hbd
      have hxp := x.size_pos
      have hlen := szP_len st
      obtain ⟨m, hm⟩ : ∃ m, m = st.length := ⟨_, rfl⟩
      rw [← hm] at y0 y1 hnc hlen ⊢
      have HMM := Lib.hid hm
      obtain ⟨xa, hxa⟩ : ∃ xa, xa = x.ad := ⟨_, rfl⟩
      obtain ⟨ya, hya⟩ : ∃ ya, ya = y.ad := ⟨_, rfl⟩
      rw [← hxa] at y0
      rw [← hya] at y1
      have HXA := Lib.hid hxa
      have HYA := Lib.hid hya
      have HSX := Lib.hid hsx
      have HSY := Lib.hid hsy
      have HXY := Lib.hid hxy
      have hw1 : IntKind.i64.wrap (((m + 1 : Nat) : Int) - 1) = (m : Int) := by rw [show ((m + 1 : Nat) : Int) - 1 = (m : Int) by omega]; exact IntWalk.i64_in _ (by omega)
      have hw2 : IntKind.i64.wrap ((m : Nat) : Int) = (m : Int) := IntWalk.i64_in _ (by omega)
      have t1 : decide ((m : Int) < ((m + 1 : Nat) : Int)) = true := by simp; omega
      have t2 : decide (0 < m + 1) = true := by simp
      have t3 : (0 : Int) < ((m + 1 : Nat) : Int) := by omega
      have hpx : ∀ (W : World) (v : Value) (st' : List (Lx × Lx)) (s' : List ((Addr × Addr) × Value)), SmMem w W a b (w2.heap.size + 1) v st' s' → plainA W xa ∧ plainA W ya := fun W v st' s' h => ⟨by rw [HXA.out]; exact (LxAt.sub HSX.out h.2.2.1).plain.1, by rw [HYA.out]; exact (LxAt.sub HSY.out h.2.2.2.1).plain.1⟩
      have hps : ∀ (W : World) (v : Value) (st' : List (Lx × Lx)), SmMem w W a b (w2.heap.size + 1) v st' s → ∀ q ∈ s, plainA W q.1.1 ∧ plainA W q.1.2 := fun W v st' h q hq => by
        obtain ⟨_, x', y', h1, h2, h3⟩ := HP.out.2 q hq
        rw [h3]
        exact ⟨(LxAt.sub h1 h.2.2.1).plain.1, (LxAt.sub h2 h.2.2.2.1).plain.1⟩
      have HMA := Lib.hid (HM1.out.alloc (.cells #[.pointer (some xa), .pointer (some ya)] 90))
      obtain ⟨bv, hbv⟩ : ∃ bv, (lookL s (xa, ya)).getD (.bool false) = .bool bv := by
        have hh : ∀ (L : List ((Addr × Addr) × Value)), (∀ q ∈ L, q.2 = .bool true) → ∃ bv, (lookL L (xa, ya)).getD (.bool false) = .bool bv := fun L => by
          induction L with
          | nil => intro _; exact ⟨false, rfl⟩
          | cons q L ih =>
            intro h
            unfold lookL
            split
            · rw [h q (List.mem_cons_self ..)]; exact ⟨true, rfl⟩
            · exact ih (fun q hq => h q (List.mem_cons_of_mem _ hq))
        exact hh s (fun q hq => (HP.out.2 q hq).1)
      have hlk := HMA.out.2.1.lookup (pair_keyEq _) Tryz.underlying92 (hps _ _ _ HMA.out) (z := .bool false) (by kernel_rfl) (xa, ya) (hpx _ _ _ _ HMA.out) false
      rw [hbv] at hlk
      have hlk : (Instr.lookup 92 (.map (some (w2.heap.size + 1))) (.agg #[.pointer (some xa), .pointer (some ya)]) false).run Tryz.prog (wo.alloc (.cells #[.pointer (some xa), .pointer (some ya)] 90)) = .ok (.bool bv) (wo.alloc (.cells #[.pointer (some xa), .pointer (some ya)] 90)) := hlk
      have HPX := Lib.hid hpx
      have HPS := Lib.hid hps
      clear hcells hm hxa hya hsx hsy hxy hbv hpx hps HM
      cases bv with
      | true =>
        go_wp2_with fail
        go_roundg f
        case measure => omega
        case rel => exact ⟨st, s, Lib.hid ⟨fun p hp => HP.out.1 p (List.mem_append_left _ hp), HP.out.2⟩, by omega, by omega, by have := HMA.out; rw [← HMM.out] at this; exact Lib.hid this⟩
      | false =>
        go_wp2_with (at_mapUpdate; refine wpList_update_law rfl _ _ _ 92 rfl (w2.heap.size + 1) encP s 90 4 _ HMA.out.2.1 (pair_keyEq _) Tryz.underlying92 (HPS.out _ _ _ HMA.out) (xa, ya) (HPX.out _ _ _ _ HMA.out) rfl rfl ?_)
        intro w4 hM4 hg4 hs4
        have hmbl := smap_lt HM1.out.2.1
        have hHU := SmMem.upd HMA.out hM4 hg4
        have hX4 : Blk w4 wo.heap.size 90 #[.pointer (some xa), .pointer (some ya)] := Blk.grown (Blk.new wo _ _) hg4 (fun e => by injection e with e; omega)
        have x0 := hX4.cell 0
        have x1 := hX4.cell 1
        simp only [List.getElem?_toArray, List.getElem?_cons_zero, List.getElem?_cons_succ] at x0 x1
        obtain ⟨b1, o1, A1, c1, had1, _, hbl1, d0, d1, d2, d3, _⟩ := (LxAt.sub HSX.out hHU.2.2.1).cells
        obtain ⟨b2, o2, A2, c2, had2, _, hbl2, e0, e1, e2, e3, _⟩ := (LxAt.sub HSY.out hHU.2.2.2.1).cells
        obtain ⟨k1, k2, k3, k4⟩ := er_len HXY.out
        rw [← k1] at e0
        rw [← k2] at e1
        rw [← k3] at e2
        rw [← k4] at e3
        have hxa2 : xa = ⟨b1, o1, none⟩ := HXA.out.trans had1
        have hya2 : ya = ⟨b2, o2, none⟩ := HYA.out.trans had2
        subst hxa2 hya2
        have HU := Lib.hid hHU
        have hxz := x.size_eq
        have hxl := args_len x
        obtain ⟨kd', hkd'⟩ : ∃ k, k = x.kind := ⟨_, rfl⟩
        obtain ⟨tx', htx'⟩ : ∃ k, k = x.text := ⟨_, rfl⟩
        obtain ⟨nm', hnm'⟩ : ∃ k, k = x.num := ⟨_, rfl⟩
        obtain ⟨n, hn⟩ : ∃ k, k = x.args.length := ⟨_, rfl⟩
        rw [← hkd'] at d0 e0
        rw [← htx'] at d1 e1
        rw [← hnm'] at d2 e2
        rw [← hn] at d3 e3 hxl
        have HN := Lib.hid hn
        have HN4 := Lib.hid (show y.args.length = n from by rw [hn, k4])
        have HXZ := Lib.hid hxz
        have hlt4 : wo.heap.size < w4.heap.size := hX4.lt
        clear hM4 hg4 hs4 hX4 hHU had1 had2 k1 k2 k3 k4 hkd' htx' hnm' hn hxz HMA hlk y0 y1 HPX HPS
        go_wp2_with fail
        go_quiet (fail)
        go_wp2_with fail
        go_quiet (fail)
        go_wp2_with fail
        have hUD := fun k => SmMem.drewN HU.out k
        rw [← HMM.out] at hUD
        have HUD := Lib.hid hUD
        clear hUD
        go_loopg [5, 10, 92] (n + 1) (fun f v _ i wr => SmIn w a b x y (w2.heap.size + 1) n st (updL s (⟨b1, o1, none⟩, ⟨b2, o2, none⟩) (.bool true)) f v i wr)
        case atStart => exact ⟨0, rfl, by omega, by omega, Lib.hid (by simpa using HUD.out _)⟩
        case round =>
          clear x0 x1 d0 d1 d2 d3 e0 e1 e2 e3 hlt4 hbl1 hbl2
          obtain ⟨wq, hwq⟩ : ∃ wq, wq = wr := ⟨_, rfl⟩
          subst hwq
          obtain ⟨j, rfl, hj, hjf, HM⟩ := hrel
          obtain ⟨f2, rfl⟩ : ∃ f2, gk = f2 + 1 := ⟨gk - 1, by omega⟩
          by_cases hjn : j < n
          · obtain ⟨b1', o1', A1, c1, had1, hbF1, hbl1, _, _, _, d3, hA1⟩ := (LxAt.sub HSX.out HM.out.2.2.1).cells
            obtain ⟨b2', o2', A2, c2, had2, hbF2, hbl2, _, _, _, e3, hA2⟩ := (LxAt.sub HSY.out HM.out.2.2.2.1).cells
            have h1 := HXA.out.trans had1
            have h2 := HYA.out.trans had2
            injection h1 with h11 h12
            injection h2 with h21 h22
            subst h11 h12 h21 h22
            obtain ⟨p, hp⟩ : ∃ p, x.args[j]? = some p := ⟨_, List.getElem?_eq_getElem (by rw [← HN.out]; exact hjn)⟩
            obtain ⟨q, hq⟩ : ∃ q, y.args[j]? = some q := ⟨_, List.getElem?_eq_getElem (by rw [HN4.out]; exact hjn)⟩
            obtain ⟨⟨b3, o3, hAe1, hpa⟩, _⟩ := hA1.get j p hp
            obtain ⟨⟨b4, o4, hAe2, hqa⟩, _⟩ := hA2.get j q hq
            subst hAe1 hAe2
            rw [Nat.zero_add] at hpa hqa
            rw [← HN.out] at d3
            rw [HN4.out] at e3
            obtain ⟨Av, cv, rfl⟩ := own_form HM.out.1
            have hzt : (x.args.zip y.args).take (j + 1) = (x.args.zip y.args).take j ++ [(p, q)] := by
              rw [List.take_add_one, show (x.args.zip y.args)[j]? = some (p, q) from List.getElem?_zip_eq_some.2 ⟨hp, hq⟩]
              rfl
            have hll : (st ++ (x.args.zip y.args).take j).length ≤ m + n := by
              rw [List.length_append, List.length_take, ← HMM.out]
              omega
            have hxz := HXZ.out
            obtain ⟨L, hL⟩ : ∃ L, L = (st ++ (x.args.zip y.args).take j).length := ⟨_, rfl⟩
            obtain ⟨C, hC⟩ : ∃ C, C = prC (st ++ (x.args.zip y.args).take j) := ⟨_, rfl⟩
            have ho4 := own_below HM.out.1 ((below_alloc wq (.cells #[.pointer (some ⟨b3, o3 + j * 4, none⟩), .pointer (some ⟨b4, o4 + j * 4, none⟩)] 90)).drew)
            rw [← hL, ← hC] at ho4
            rw [← hL] at hll ⊢
            have hrr := (reads2 wq (.pointer (some ⟨b3, o3 + j * 4, none⟩)) (.pointer (some ⟨b4, o4 + j * 4, none⟩)) 90).drew
            have K5 := Lib.hid (show ∀ W7, (wq.alloc (.cells #[.pointer (some ⟨b3, o3 + j * 4, none⟩), .pointer (some ⟨b4, o4 + j * 4, none⟩)] 90)).drew.grownBy W7 (Value.slice Av L cv).ownBlock → W7.cell? ⟨b1, o1 + 3, none⟩ = some (.slice (some ⟨b3, o3, none⟩) n c1) ∧ W7.cell? ⟨b2, o2 + 3, none⟩ = some (.slice (some ⟨b4, o4, none⟩) n c2) from fun W7 hg => by
              have hg2 : wq.grownBy W7 (Value.slice Av L cv).ownBlock := (only_of_below (below_alloc wq _).drew _).trans hg
              have hne : ∀ i, i < w.heap.size + 2 → some i ≠ (Value.slice Av L cv).ownBlock := fun i hi e => by
                have := (own_lo ho4 e.symm).1; omega
              exact ⟨(World.cell?_of_block (hg2.block b1 hbl1 (hne b1 hbF1))).trans d3, (World.cell?_of_block (hg2.block b2 hbl2 (hne b2 hbF2))).trans e3⟩)
            have HP1 := Lib.hid hpa
            have HP2 := Lib.hid hqa
            have HLL := Lib.hid hL
            have HCC := Lib.hid hC
            have HZT := Lib.hid hzt
            have hqq1 : L + 1 ≤ maxLen := by unfold maxLen; omega
            have hqq2 : (L + 1) * 16 ≤ 140737488355328 := by omega
            have hqq3 : w.heap.size + 2 ≤ (wq.alloc (.cells #[.pointer (some ⟨b3, o3 + j * 4, none⟩), .pointer (some ⟨b4, o4 + j * 4, none⟩)] 90)).drew.heap.size := Nat.le_trans HM.out.2.2.2.2.2.2 ((below_alloc wq (.cells #[.pointer (some ⟨b3, o3 + j * 4, none⟩), .pointer (some ⟨b4, o4 + j * 4, none⟩)] 90)).drew).size
            have r0 : (j : Int) < (n : Int) := by omega
            have r1 : (0 : Int) ≤ (j : Int) := by omega
            have r2 : ¬ (wq.heap.size = b1) := by omega
            have r3 : ¬ (wq.heap.size = b2) := by omega
            clear had1 had2 hA1 hA2 hp hq hpa hqa hL hC hzt hxz
            go_wp2_with fail
            obtain ⟨i0, hinf, hz0, hz1, hz2'⟩ := info_parts infoPairS
            go_region_held3 (fun w' => w'.cell? ⟨b1, o1 + 3, none⟩ = some (.slice (some ⟨b3, o3, none⟩) n c1) ∧ w'.cell? ⟨b2, o2 + 3, none⟩ = some (.slice (some ⟨b4, o4, none⟩) n c2))
              (first | go_keep | (refine ⟨?_, ?_⟩ <;> assumption))
              ((refine step_append_any _ rfl (.tmp 95) (.tmp 109) 91 rfl (w.heap.size + 2) 90 i0 (.agg #[.pointer none, .pointer none]) 2 16 Tryz.underlying91 hinf hz0 hz1 hz2' rfl (by decide) (.slice Av L cv) L C rfl ho4 (wq.heap.size + 1) (some ⟨wq.heap.size, 0, none⟩) 1 1 [.pointer (some ⟨b3, o3 + j * 4, none⟩), .pointer (some ⟨b4, o4 + j * 4, none⟩)] rfl hrr (by simp [Value.oneCell']) hqq1 hqq2 hqq3 ?_; intro v7 w7 hown7 hg7 hv7; obtain ⟨u0, u1⟩ := K5.out w7 hg7; have HO7 := Lib.hid hown7; have HG7 := Lib.hid hg7; clear hown7 hg7 hv7))
            have HM7 : Hid (SmMem w w7 a b (w2.heap.size + 1) v7 (st ++ (x.args.zip y.args).take (j + 1)) (updL s (⟨b1, o1, none⟩, ⟨b2, o2, none⟩) (.bool true))) := Lib.hid (by
              rw [HZT.out, ← List.append_assoc]
              refine SmMem.push (o := .cells #[.pointer (some ⟨b3, o3 + j * 4, none⟩), .pointer (some ⟨b4, o4 + j * 4, none⟩)] 90) HM.out (by rw [← HLL.out]; exact HG7.out) ?_
              rw [← HLL.out, ← HCC.out, HP1.out, HP2.out]
              exact HO7.out)
            clear HO7 HG7 K5 u0 u1 d3 e3 hrr ho4 hinf hz0 hz1 hz2'
            go_wp2_with fail
            go_roundg f2
            case measure => omega
            case rel => exact ⟨j + 1, by go_num, by omega, by omega, HM7⟩
          · have hjn : j = n := by omega
            subst hjn
            have hbig : szP (st ++ (x.args.zip y.args).take j) ≤ szP st + sizeXL x.args := by
              rw [List.take_of_length_le (by rw [List.length_zip]; have := HN.out; omega), szP_append]
              have := szP_zip x.args y.args
              omega
            have hxz := HXZ.out
            have r0 : ¬ ((j : Int) < (j : Int)) := by omega
            go_wp2_with fail
            go_roundg f
            case measure => omega
            case rel =>
              refine ⟨st ++ (x.args.zip y.args).take j, _, Lib.hid ⟨fun p hp => ?_, fun q hq => ?_⟩, by omega, by omega, HM⟩
              · rcases List.mem_append.1 hp with hp | hp
                · exact HP.out.1 p (List.mem_append_left _ hp)
                · have hz := List.mem_of_mem_take hp
                  obtain ⟨i, hi⟩ := List.getElem?_of_mem hz
                  obtain ⟨p1, p2⟩ := p
                  obtain ⟨h1, h2⟩ := List.getElem?_zip_eq_some.1 hi
                  exact ⟨.arg (List.mem_of_getElem? h1) HSX.out, .arg (List.mem_of_getElem? h2) HSY.out, er_get HXY.out h1 h2⟩
              · rcases mem_upd' hq with hq | hq
                · rw [hq]
                  exact ⟨rfl, x, y, HSX.out, HSY.out, by rw [← HXA.out, ← HYA.out]⟩
                · exact HP.out.2 q hq
end Go.Proofs.YtoegklpomlhneaaGreatDoor
