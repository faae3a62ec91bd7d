/- The walk of optimize's insert: one more step before a step of the editor. The walk of optimize's insert (printed by gen_ozz.py). The walk of optimize.share at any plan. -/
import Derived.Test.YtamhdmkolfmmdaaGreatDoorsan
import Derived.Test.YtamhdmkolfmmdaaGreatDoorsax
import Derived.Test.YtamhdmkolfmmdaaGreatDoorsaa
import Derived.Test.YtamhdmkolfmmdaaGreatDoorsav
import Derived.Test.YtamhdmkolfmmdaaGreatDoorsao
set_option linter.unusedVariables false
set_option linter.unusedSimpArgs false
namespace Go.Proofs.YtamhdmkolfmmdaaGreatDoor
open Go.RowKit
set_option maxHeartbeats 4000000
theorem kgj {α : Type} (l : List α) (i : Nat) (x : α) (hi : i ≤ l.length) (q : Nat) : (l.take i ++ x :: l.drop i)[q]? = if q < i then l[q]? else if q = i then some x else l[q - 1]? := by
 have hl : (l.take i).length = i := by rw [List.length_take]; omega
 by_cases h : q < i
 ·
  rw [if_pos h, List.getElem?_append_left (by omega), List.getElem?_take, if_pos h]
 ·
  rw [if_neg h, List.getElem?_append_right (by omega), hl]
  by_cases h2 : q = i
  ·
   subst h2
   rw [if_pos rfl, Nat.sub_self, gB]
  ·
   rw [if_neg h2]
   obtain ⟨m, hm⟩ : ∃ m, q - i = m + 1 := ⟨q - i - 1, by omega⟩
   rw [hm, gC, List.getElem?_drop]
   congr 1
   omega
theorem EdX.ins {w w1 w2 : World} {base g gs cap i n gs' cap' : Nat} {l : List St} {vs : List Value} {V : Value} (h : EdX w base g gs cap l vs V) (hn : n = l.length) (hi : i < n) (hcap : n + 1 ≤ 100000) (s' : St) (v' : Value) (ho : w.ownsRow base 3 1 v' s'.args.length (s'.args.map (Value.int .i64)))
  (hd : ∀ (j : Nat) (v : Value), vs[j]? = some v → v'.ownBlock = none ∨ v.ownBlock ≠ v'.ownBlock) (hv1 : v'.oneCell' = true) (hg1 : w.grownBy w1 (some gs)) (hgs' : gs' = gs ∨ w.heap.size ≤ gs') (cs' : Array Value) (hb1 : Blk w1 gs' 77 cs') (hsz : cs'.size = cap' * 5) (hc' : n + 1 ≤ cap')
  (hcs : ∀ cs, Blk w gs 77 cs → (∀ q, q < i * 5 → cs'[q]? = cs[q]?) ∧ (∀ q, q < 5 → cs'[i * 5 + q]? = #[Value.string ⟨s'.op.toArray⟩, v', .int .i64 s'.num, .string ⟨s'.text.toArray⟩, .int .i64 s'.ty][q]?) ∧ (∀ q, i * 5 ≤ q → q < n * 5 → cs'[5 + q]? = cs[q]?))
  (he : w2 = w1.setCell ⟨g, 0, none⟩ (.slice (some ⟨gs', 0, none⟩) (n + 1) cap')) : EdX w2 base g gs' cap' (l.take i ++ s' :: l.drop i) (vs.take i ++ v' :: vs.drop i) V ∧ FrX base w w2 := by
 subst he
 subst hn
 obtain ⟨cs, e1, e2, e3⟩ := h.blk
 obtain ⟨z1, z2, z3⟩ := hcs cs e1
 have hne := h.ne
 have hgl := h.ed.lt
 have hbase := h.base_le
 have hne' : g ≠ gs' := by
  rcases hgs' with rfl | h0
  ·
   exact hne
  ·
   omega
 have hvl := h.len
 have hE1 : Blk w1 g 85 #[.slice (some ⟨gs, 0, none⟩) l.length cap, V] := h.ed.grown hg1 (fun e => hne (by injection e))
 have hlen : (l.take i ++ s' :: l.drop i).length = l.length + 1 := by simp; omega
 have hlenv : (vs.take i ++ v' :: vs.drop i).length = l.length + 1 := by simp; omega
 have hgs : (w1.setCell ⟨g, 0, none⟩ (.slice (some ⟨gs', 0, none⟩) (l.length + 1) cap')).heap[gs']? = w1.heap[gs']? := Below.heap_setCell w1 ⟨g, 0, none⟩ _ gs' (fun e => hne' e.symm)
 have hgetv : ∀ j v, (vs.take i ++ v' :: vs.drop i)[j]? = some v → (∃ j', vs[j']? = some v ∧ (j < i ∧ j' = j ∨ i < j ∧ j = j' + 1)) ∨ (j = i ∧ v = v') := fun j v hv => by
  rw [kgj vs i v' (by omega)] at hv
  by_cases h1 : j < i
  ·
   rw [if_pos h1] at hv
   exact .inl ⟨j, hv, .inl ⟨h1, rfl⟩⟩
  ·
   rw [if_neg h1] at hv
   by_cases h2 : j = i
   ·
    rw [if_pos h2] at hv
    injection hv with hv
    exact .inr ⟨h2, hv.symm⟩
   ·
    rw [if_neg h2] at hv
    exact .inl ⟨j - 1, hv, .inr ⟨by omega, by omega⟩⟩
 have hidx : ∀ j s v, (l.take i ++ s' :: l.drop i)[j]? = some s → (vs.take i ++ v' :: vs.drop i)[j]? = some v → (∃ j', l[j']? = some s ∧ vs[j']? = some v ∧ (j < i ∧ j' = j ∨ i < j ∧ j = j' + 1)) ∨ (j = i ∧ s = s' ∧ v = v') := fun j s v hs hv => by
  rw [kgj l i s' (by omega)] at hs
  rw [kgj vs i v' (by omega)] at hv
  by_cases h1 : j < i
  ·
   rw [if_pos h1] at hs hv
   exact .inl ⟨j, hs, hv, .inl ⟨h1, rfl⟩⟩
  ·
   rw [if_neg h1] at hs hv
   by_cases h2 : j = i
   ·
    rw [if_pos h2] at hs hv
    injection hs with hs
    injection hv with hv
    exact .inr ⟨h2, hs.symm, hv.symm⟩
   ·
    rw [if_neg h2] at hs hv
    exact .inl ⟨j - 1, hs, hv, .inr ⟨by omega, by omega⟩⟩
 have hkeep : ∀ b, b < w.heap.size → b ≠ g → b ≠ gs → (w1.setCell ⟨g, 0, none⟩ (.slice (some ⟨gs', 0, none⟩) (l.length + 1) cap')).heap[b]? = w.heap[b]? := fun b hb h1 h2 =>
  (Below.heap_setCell w1 ⟨g, 0, none⟩ _ b h1).trans (hg1.block b hb (fun e => h2 (by injection e)))
 refine ⟨⟨by rw [hlen]; exact hE1.set_ 0 _, ⟨cs', hb1.far (p := ⟨g, 0, none⟩) (fun e => hne' e.symm) _, hsz, fun q v hq hv => ?_⟩, by rw [hlen, hlenv], fun j s v hs hv => ?_, fun j s v hs hv => ?_, fun a b v v2 hab hv hv2 => ?_, by rw [hlen]; omega, by rw [hlen]; omega, h.hg, by rcases hgs' with rfl | h0; exact h.hgs; omega⟩, ?_⟩
 ·
  rw [hlen] at hq
  by_cases h1 : q < i * 5
  ·
   exact e3 q v (by omega) (by rw [← z1 q h1]; exact hv)
  ·
   by_cases h2 : q < i * 5 + 5
   ·
    rw [show q = i * 5 + (q - i * 5) by omega, z2 (q - i * 5) (by omega)] at hv
    have hm := List.mem_of_getElem? (by rw [gA] at hv; exact hv)
    simp only [List.mem_cons, List.not_mem_nil, or_false] at hm
    rcases hm with rfl | rfl | rfl | rfl | rfl
    ·
     rfl
    ·
     exact hv1
    ·
     rfl
    ·
     rfl
    ·
     rfl
   ·
    exact e3 (q - 5) v (by omega) (by rw [← z3 (q - 5) (by omega) (by omega), show 5 + (q - 5) = q by omega]; exact hv)
 ·
  rcases hidx j s v hs hv with ⟨j', hs', hv', hc⟩ | ⟨rfl, rfl, rfl⟩
  ·
   obtain ⟨x0, x1, x2, x3, x4⟩ := h.cells j' s v hs' hv'
   have hjl := (List.getElem?_eq_some_iff.1 hs').1
   have hcc : ∀ k, k < 5 → (w1.setCell ⟨g, 0, none⟩ (.slice (some ⟨gs', 0, none⟩) (l.length + 1) cap')).cell? ⟨gs', j * 5 + k, none⟩ = w.cell? ⟨gs, j' * 5 + k, none⟩ := fun k hk => by
    rw [World.cell?_of_block (a := ⟨gs', j * 5 + k, none⟩) hgs, hb1.cell, e1.cell]
    rcases hc with ⟨h1, rfl⟩ | ⟨h1, rfl⟩
    ·
     exact z1 _ (by omega)
    ·
     rw [show (j' + 1) * 5 + k = 5 + (j' * 5 + k) by omega]
     exact z3 _ (by omega) (by omega)
   exact ⟨(hcc 0 (by omega)).trans x0, (hcc 1 (by omega)).trans x1, (hcc 2 (by omega)).trans x2, (hcc 3 (by omega)).trans x3, (hcc 4 (by omega)).trans x4⟩
  ·
   have hcc : ∀ k, k < 5 → (w1.setCell ⟨g, 0, none⟩ (.slice (some ⟨gs', 0, none⟩) (l.length + 1) cap')).cell? ⟨gs', j * 5 + k, none⟩ = #[Value.string ⟨s.op.toArray⟩, v, .int .i64 s.num, .string ⟨s.text.toArray⟩, .int .i64 s.ty][k]? := fun k hk => by
    rw [World.cell?_of_block (a := ⟨gs', j * 5 + k, none⟩) hgs, hb1.cell]
    exact z2 k hk
   exact ⟨hcc 0 (by omega), hcc 1 (by omega), hcc 2 (by omega), hcc 3 (by omega), hcc 4 (by omega)⟩
 ·
  rcases hidx j s v hs hv with ⟨j', hs', hv', _⟩ | ⟨rfl, rfl, rfl⟩
  ·
   refine kaA (h.own j' s v hs' hv') (fun b hb => ?_)
   obtain ⟨hq1, hq2⟩ := h.apart hs' hv' hb
   exact hkeep b (kbO (h.own j' s v hs' hv') b hb) hq1 hq2
  ·
   refine kaA ho (fun b hb => hkeep b (kbO ho b hb) (fun e => ?_) (fun e => ?_))
   ·
    exact kan ho h.ed (by decide) (by rw [hb, e])
   ·
    exact kan ho e1 (by decide) (by rw [hb, e])
 ·
  rcases hgetv a v hv with ⟨a', ha, hca⟩ | ⟨h1, rfl⟩
  ·
   rcases hgetv b v2 hv2 with ⟨b', hb, hcb⟩ | ⟨h2, rfl⟩
   ·
    exact h.dis a' b' v v2 (by omega) ha hb
   ·
    rcases hd a' v ha with h0 | h0
    ·
     cases hvo : v.ownBlock with
     | none => exact .inl rfl
     | some x => exact .inr (by rw [h0]; intro e; cases e)
    ·
     exact .inr h0
  ·
   rcases hgetv b v2 hv2 with ⟨b', hb, hcb⟩ | ⟨h2, rfl⟩
   ·
    rcases hd b' v2 hb with h0 | h0
    ·
     exact .inl h0
    ·
     exact .inr (fun e => h0 e.symm)
   ·
    omega
 ·
  exact (FrX.grown hg1 hbase h.hgs e1 (by decide)).setCell (p := ⟨g, 0, none⟩) h.hg hE1 (by decide) _
theorem klV (gs vb n i cap : Nat) (cs vals : Array Value) (w : World) (hB : Blk w gs 77 cs) (hsz : cs.size = cap * 5) (hV : Blk w vb 77 vals) (hvs : vals.size = 5) (hne : vb ≠ gs) (hi : i < n) (hnc : n ≤ cap) (hnb : n ≤ 100000) (h1 : ∀ q v, q < n * 5 → cs[q]? = some v → v.oneCell' = true) (h1v : ∀ v ∈ vals.toList, v.oneCell' = true) :
  Calls Tryz.prog 157 #[.slice (some ⟨gs, 0, none⟩) n cap, .int .i64 i, .slice (some ⟨vb, 0, none⟩) 1 1] w (keV gs n i cs vals w) := by
 by_cases h : n + 1 ≤ cap
 ·
  exact kjc gs vb n i cap cs vals w hB hsz hV hvs hne hi h hnb h1 h1v
 ·
  obtain rfl : cap = n := by omega
  exact kjd gs vb cap i cs vals w hB hsz hV hvs hi hnb h1 h1v
set_option maxRecDepth 100000
set_option maxHeartbeats 8000000
def fIn (i : Nat) (a : Int) : Int := if (i : Int) ≤ a then a + 1 else a
def InoRel (base g gs cap : Nat) (f0 : Int → Int) (i d : Nat) (l1 : List St) (vs : List Value) (V : Value) (w : World) (b0 : Nat) (K0 : Array Value) (vP : Value) (xs : List Int) (f : Nat) (c : Value) (wr : World) : Prop := ∃ p : Nat, c = .int .i64 p ∧ p ≤ d ∧ d - p < f ∧ Hid (EdX wr base g gs cap (kaj f0 i p l1) vs V) ∧ Hid (FrX base w wr) ∧ Hid (Blk wr b0 77 K0) ∧ Hid (wr.ownsRow base 3 1 vP xs.length (xs.map (Value.int .i64)))
def IniRel (base g gs cap : Nat) (f0 : Int → Int) (i p : Nat) (l1 : List St) (s : St) (vs : List Value) (V : Value) (w : World) (b1 : Nat) (K1 : Array Value) (b0 : Nat) (K0 : Array Value) (vP : Value) (xs : List Int) (f : Nat) (c : Value) (wr : World) : Prop := ∃ k : Nat, c = .int .i64 k ∧ k ≤ s.args.length ∧ s.args.length - k < f ∧ Hid (Blk wr b1 77 K1) ∧ Hid (EdX wr base g gs cap ((kaj f0 i p l1).set (i + p) { s with args := kau f0 s.args k }) vs V) ∧ Hid (FrX base w wr) ∧ Hid (Blk wr b0 77 K0) ∧ Hid (wr.ownsRow base 3 1 vP xs.length (xs.map (Value.int .i64)))
theorem kkK {l : List St} {i d : Nat} {s : St} (h : i + d = l.length) : (kaj (fIn i) i d l).take i ++ s :: (kaj (fIn i) i d l).drop i = Oz.insertR l i s := by
 rw [kcU h]
 have hl : (l.take i).length = i := by rw [List.length_take]; omega
 have h1 : (l.take i ++ (l.drop i).map (Oz.mapA (fIn i))).take i = l.take i := by rw [List.take_append_of_le_length (by omega), List.take_of_length_le (by omega)]
 have h2 : (l.take i ++ (l.drop i).map (Oz.mapA (fIn i))).drop i = (l.drop i).map (Oz.mapA (fIn i)) := by rw [List.drop_append_of_le_length (by omega), List.drop_of_length_le (by omega), List.nil_append]
 rw [h1, h2]
 rfl
theorem kej (base g gs cap i : Nat) (l : List St) (vs : List Value) (V : Value) (w : World) (h : EdX w base g gs cap l vs V) (hi : i < l.length) (hl1 : l.length + 1 ≤ 100000) (hb : ∀ s ∈ l, s.args.length ≤ 3 ∧ ∀ a ∈ s.args, 0 ≤ a ∧ a ≤ 100000) (op : List UInt8) (xs : List Int) (num : Int) (text : List UInt8) (ty : Int) (vP : Value)
  (hov : w.ownsRow base 3 1 vP xs.length (xs.map (Value.int .i64))) (hd : ∀ (j : Nat) (v : Value), vs[j]? = some v → vP.ownBlock = none ∨ v.ownBlock ≠ vP.ownBlock) :
  Calls Tryz.prog 120 #[.pointer (some ⟨g, 0, none⟩), .int .i64 i, .agg #[.string ⟨op.toArray⟩, vP, .int .i64 num, .string ⟨text.toArray⟩, .int .i64 ty]] w fun e w' => e = .returned (.tuple #[]) ∧ (∃ gs' cap', EdX w' base g gs' cap' (Oz.insertR l i (Oz.mk op xs num text ty)) (vs.take i ++ vP :: vs.drop i) V) ∧ FrX base w w' := by
 have t12q0 := True.intro
 exact y2
def kbc (s : St) : KeyS := ⟨s.op, s.text, Oz.arg s 0, Oz.arg s 1, Oz.arg s 2, s.num⟩
def fk (l : List St) (k : Nat) (s : KeyS) : Option Nat := (List.range k).find? fun j => decide (kbc (Oz.at_ l j) = s)
theorem keD (l : List St) (k : Nat) : Oz.sameAt l k = fk l k (kbc (Oz.at_ l k)) := by
 unfold Oz.sameAt fk
 congr 1
 funext j
 have h : (Oz.keyR (Oz.at_ l j) = Oz.keyR (Oz.at_ l k)) ↔ (kbc (Oz.at_ l j) = kbc (Oz.at_ l k)) := by
  unfold Oz.keyR kbc
  simp only [Prod.mk.injEq, List.cons.injEq, and_true, KeyS.mk.injEq]
  constructor
  ·
   rintro ⟨a, b, ⟨c, d, e⟩, f⟩; exact ⟨a, b, c, d, e, f⟩
  ·
   rintro ⟨a, b, c, d, e, f⟩; exact ⟨a, b, ⟨c, d, e⟩, f⟩
 by_cases h0 : kbc (Oz.at_ l j) = kbc (Oz.at_ l k)
 ·
  rw [decide_eq_true h0, decide_eq_true (h.2 h0)]
 ·
  rw [decide_eq_false h0, decide_eq_false (fun e => h0 (h.1 e))]
theorem fk_lt {l : List St} {k j : Nat} {s : KeyS} (h : fk l k s = some j) : j < k := List.mem_range.1 (List.mem_of_find?_eq_some h)
theorem kjH (l : List St) (k : Nat) (s : KeyS) : fk l (k + 1) s = match fk l k s with
  | some j => some j
  | none => if kbc (Oz.at_ l k) = s then some k else none := by
 unfold fk
 rw [List.range_succ, List.find?_append]
 generalize (List.range k).find? (fun j : Nat => decide (kbc (Oz.at_ l (j : Int)) = s)) = o
 cases o with
 | some j => rfl
 | none =>
  show List.find? (fun j : Nat => decide (kbc (Oz.at_ l (j : Int)) = s)) [k] = if kbc (Oz.at_ l k) = s then some k else none
  by_cases h : kbc (Oz.at_ l k) = s
  ·
   simp [h]
  ·
   simp [h]
theorem fk_hit {l : List St} {k j : Nat} (h : fk l k (kbc (Oz.at_ l k)) = some j) (s : KeyS) : fk l (k + 1) s = fk l k s := by
 rw [kjH]
 cases hs : fk l k s with
 | some j' => rfl
 | none =>
  dsimp only
  rw [if_neg]
  intro e
  rw [e, hs] at h
  cases h
def Mirror (l : List St) (k : Nat) (L : List (KeyS × Value)) : Prop := ∀ s : KeyS, kbj L s = (fk l k s).map fun j => Value.int .i64 (j : Int)
theorem Mirror.miss {l : List St} {k : Nat} {L : List (KeyS × Value)} (h : Mirror l k L) (hn : fk l k (kbc (Oz.at_ l k)) = none) : Mirror l (k + 1) (updL L (kbc (Oz.at_ l k)) (.int .i64 (k : Int))) := fun s => by
 rw [khZ, kjH]
 by_cases e : kbc (Oz.at_ l k) = s
 ·
  rw [if_pos e]
  rw [e] at hn
  rw [hn]
  dsimp only
  rw [if_pos e]
  rfl
 ·
  rw [if_neg e, h s]
  cases fk l k s with
  | some j => rfl
  | none =>
   dsimp only
   rw [if_neg e]
theorem Mirror.hit {l : List St} {k j : Nat} {L : List (KeyS × Value)} (h : Mirror l k L) (hn : fk l k (kbc (Oz.at_ l k)) = some j) : Mirror l (k + 1) L := fun s => by rw [fk_hit hn]; exact h s
theorem keL {f : List St → Nat → Option (List St)} {l : List St} (h : ∀ k, k < l.length → f l k = none) : Oz.firstOf f l = none := by
 unfold Oz.firstOf
 rw [List.findSome?_eq_none_iff]
 exact fun k hk => h k (List.mem_range.1 hk)
theorem keK {f : List St → Nat → Option (List St)} {l l' : List St} {k : Nat} (hk : k < l.length) (h0 : ∀ j, j < k → f l j = none) (h : f l k = some l') : Oz.firstOf f l = some l' := by
 unfold Oz.firstOf
 have hr : ∀ n, k < n → (List.range n).findSome? (f l) = some l' := by
  intro n
  induction n with
  | zero => omega
  | succ n ih =>
   intro hn
   rw [List.range_succ, List.findSome?_append]
   by_cases hkn : k < n
   ·
    rw [ih hkn]; rfl
   ·
    have hkn : k = n := by omega
    subst hkn
    have : (List.range k).findSome? (f l) = none := by
     rw [List.findSome?_eq_none_iff]
     exact fun j hj => h0 j (List.mem_range.1 hj)
    rw [this]
    simp [h]
 exact hr _ hk
def SgRel (w : World) (mb : Nat) (l : List St) (f : Nat) (i : Value) (wr : World) : Prop := ∃ (k : Nat) (L : List (KeyS × Value)), i = .int .i64 k ∧ k ≤ l.length ∧ l.length - k < f ∧ Hid (MapIs wr mb encK L) ∧ Hid (Mirror l k L) ∧ Hid (Below w.heap.size w wr) ∧ mb < wr.heap.size ∧ Hid (∀ j, j < k → Oz.shareAt l j = none)
theorem klu (base g gs cap : Nat) (l : List St) (vs : List Value) (V : Value) (w : World) (h : EdX w base g gs cap l vs V) (hb : ∀ s ∈ l, s.args.length ≤ 3 ∧ ∀ a ∈ s.args, 0 ≤ a ∧ a ≤ 100000) :
  Calls Tryz.prog 66 #[.pointer (some ⟨g, 0, none⟩)] w (kax base g V (Oz.firstOf Oz.shareAt l) w) := by
 have hmm : ∀ (W : World), (Instr.makeMap 163 none).run Tryz.prog W = .ok (.map (some W.heap.size)) (W.alloc (.map #[] 0)) := fun W => by
  simp [Instr.makeMap, run_underlying Tryz.underlying163]
 have hgl := h.ed.lt
 have hgsl := h.gs_lt
 have hbase := h.base_le
 have x0 := h.ed.cell 0
 simp only [gA, gB] at x0
 have hcap := h.cap
 obtain ⟨n, hn⟩ := xE l.length
 rw [← hn] at x0 hcap
 have HN := hD hn
 have HH := hD h
 have HBB := hD hb
 have hg1 : (w.alloc (.map #[] 0)).cell? ⟨g, 0, none⟩ = some (.slice (some ⟨gs, 0, none⟩) n cap) := (World.cell?_alloc_lt w _ _ hgl).trans x0
 clear h hb x0 hn
 go_enter Tryz.func66, Tryz.ntmps66
 go_wp2_with fail
 clear hmm hg1
 go_loopg [4, 5, 6, 7, 8, 15] (n + 1) (fun f _ _ _ _ _ i wr => SgRel w w.heap.size l f i wr)
 case atStart => exact ⟨0, [], rfl, by omega, by have := HN.out; omega, hD (MapIs.new w encK 0), hD (fun s => rfl), hD ((Below.refl _ _).alloc (Nat.le_refl _) _), by simp, hD (fun j hj => by omega)⟩
 case round =>
  obtain ⟨k, L, rfl, hk, hkf, HMP, HMI, HB, hml, HNO⟩ := hrel
  rw [← HN.out] at hk hkf
  obtain ⟨f, rfl⟩ : ∃ f, gk = f + 1 := ⟨gk - 1, by omega⟩
  by_cases hlt : k < n
  ·
   obtain ⟨s, hs⟩ : ∃ s, l[k]? = some s := ⟨l[k]'(by have := HN.out; omega), List.getElem?_eq_getElem _⟩
   obtain ⟨v, hv, ⟨x0, x1, x2, x3, x4⟩, ho⟩ := (HH.out.below HB.out).at_ hs
   obtain ⟨As, c, rfl⟩ := kak ho
   have h0 := (HBB.out s (List.mem_of_getElem? hs)).1
   have q0 : (k : Int) < (n : Int) := by omega
   have q1 : (0 : Int) ≤ (k : Int) := by omega
   have hgsr := Nat.lt_of_lt_of_le hgsl HB.out.size
   obtain ⟨m, hm⟩ := xE s.args.length
   rw [← hm] at x1
   obtain ⟨num, hnum⟩ := xE s.num
   rw [← hnum] at x2
   obtain ⟨ty, hty⟩ := xE s.ty
   rw [← hty] at x4
   obtain ⟨op, hop⟩ := xE s.op
   rw [← hop] at x0
   obtain ⟨text, htext⟩ := xE s.text
   rw [← htext] at x3
   obtain ⟨K, hK⟩ := xE (kbc s)
   have HR := hD (Reads.of_own ho)
   have HS := hD hs
   have HSP := hD (kfS (op := op) (text := text) (num := num) (args := s.args) (k := K) h0 (by rw [hK, hop]; rfl) (by rw [hK, htext]; rfl) (by rw [hK, hnum]; rfl) (by rw [hK]; rfl) (by rw [hK]; rfl) (by rw [hK]; rfl))
   have HKK : Hid (K = kbc (Oz.at_ l k)) := hD (by rw [hK, kad hs])
   have hsame : Oz.sameAt l k = fk l k K := by rw [keD, HKK.out]
   have HSA : Hid (Oz.shareAt l k = match fk l k K with | none => none | some j => Oz.replaceR l k j) := hD (by unfold Oz.shareAt; rw [hsame]; cases fk l k K <;> rfl)
   have HM3' := hD hm
   have hm3 : m ≤ 3 := by omega
   clear hs hv ho hnum hty hop htext hK hsame hm h0
   go_upto_region 6 with (fail)
   obtain ⟨w2, hw2⟩ := xE ((wr.alloc (.cells #[.string ⟨op.toArray⟩, .slice As m c, .int .i64 num, .string ⟨text.toArray⟩, .int .i64 ty] 77)).alloc (.cells #[.string ⟨op.toArray⟩, .string ⟨text.toArray⟩, .int .i64 0, .int .i64 0, .int .i64 0, .int .i64 num] 166))
   rw [← hw2]
   have hb2 : Below wr.heap.size wr w2 := by rw [hw2]; exact ((Below.refl _ _).alloc (Nat.le_refl _) _).alloc (by simp) _
   have HKB := hD (show Blk w2 (wr.heap.size + 1) 166 #[.string ⟨op.toArray⟩, .string ⟨text.toArray⟩, .int .i64 0, .int .i64 0, .int .i64 0, .int .i64 num] by
    rw [hw2]
    have := Blk.new (wr.alloc (.cells #[.string ⟨op.toArray⟩, .slice As m c, .int .i64 num, .string ⟨text.toArray⟩, .int .i64 ty] 77)) 166 #[.string ⟨op.toArray⟩, .string ⟨text.toArray⟩, .int .i64 0, .int .i64 0, .int .i64 0, .int .i64 num]
    simpa using this)
   have HSB := hD (show Blk w2 wr.heap.size 77 #[.string ⟨op.toArray⟩, .slice As m c, .int .i64 num, .string ⟨text.toArray⟩, .int .i64 ty] by rw [hw2]; exact (Blk.new _ _ _).alloc _)
   have HB2 := hD hb2
   have HR2 := hD ((HR.out.below hb2).more hb2.size)
   have y1 := HSB.out.cell 1
   simp only [gA, gB, gC] at y1
   have hm2 : w.heap.size < wr.heap.size := hml
   clear hw2 hb2 x0 x1 x2 x3 x4
   go_region_law (first | (refine step_copy_splice rfl (.tmp 28) (.tmp 30) 47 47 rfl 3 Tryz.underlying47 (by kernel_rfl) (some ⟨wr.heap.size + 1, 2, none⟩) As 3 3 m c rfl rfl (wr.heap.size + 1) 2 [.string ⟨op.toArray⟩, .string ⟨text.toArray⟩, .int .i64 0, .int .i64 0, .int .i64 0, .int .i64 num] 166 HKB.out (s.args.map (Value.int .i64)) (by rw [List.length_map, ← HM3'.out]; exact (Nat.min_eq_left hm3).symm) (fun hp => ⟨rfl, by obtain ⟨ad, e1, _, e3⟩ := HR2.out.2 (by simpa using hp); exact ⟨ad, e1, e3⟩⟩) (by have := HM3'.out; simp; omega) (fun v hv => by obtain ⟨x, _, rfl⟩ := List.mem_map.1 hv; rfl) wr.heap.size wr HB2.out.drew (by omega) ?_; intro w3 hg3 hb3; have HG3 := hD hg3.out; have HB3 := hD hb3; clear hg3 hb3))
   rw [HSP.out] at HG3
   have HK3 := hD (show Blk w3 (wr.heap.size + 1) 166 #[.string ⟨K.op.toArray⟩, .string ⟨K.text.toArray⟩, .int .i64 K.a, .int .i64 K.b, .int .i64 K.c, .int .i64 K.num] from HG3.out)
   have z0 := HK3.out.cell 0
   have z1 := HK3.out.cell 1
   have z2 := HK3.out.cell 2
   have z3 := HK3.out.cell 3
   have z4 := HK3.out.cell 4
   have z5 := HK3.out.cell 5
   simp only [gA, gB, gC] at z0 z1 z2 z3 z4 z5
   have HM3 := hD (HMP.out.keep (HB3.out.block w.heap.size hml))
   have hlk := HM3.out.lookup (kdG w3) Tryz.underlying163 (fun _ _ => trivial) (z := .int .i64 0) (by kernel_rfl) K trivial true
   rw [HMI.out K] at hlk
   have hw0 := HB.out.size
   have hw3 := HB3.out.size
   cases hfk : fk l k K with
   | none =>
    rw [hfk] at hlk
    have HFK := hD hfk
    have HSN : Hid (Oz.shareAt l k = none) := hD (by rw [HSA.out, hfk])
    have hlk : (Instr.lookup 163 (.map (some w.heap.size)) (.agg #[.string ⟨K.op.toArray⟩, .string ⟨K.text.toArray⟩, .int .i64 K.a, .int .i64 K.b, .int .i64 K.c, .int .i64 K.num]) true).run Tryz.prog w3 = .ok (.tuple #[.int .i64 0, .bool false]) w3 := hlk
    clear HG3 y1 hfk
    go_wp2_with (at_mapUpdate; refine kc8 rfl _ _ _ 163 rfl w.heap.size encK L 166 3 (fun _ => True) HM3.out (kdG w3) Tryz.underlying163 (fun _ _ => trivial) K trivial rfl rfl ?_)
    intro w4 hm4 hg4 hz4
    have HM4 := hD hm4
    have HB4 := hD ((HB.out.trans (HB3.out.mono hw0)).grown hg4 (by omega) (fun j e => by injection e with e; omega))
    have HMI4 : Hid (Mirror l (k + 1) (updL L K (.int .i64 (k : Int)))) := hD (by
     have h1 := HFK.out
     rw [HKK.out] at h1 ⊢
     exact HMI.out.miss h1)
    have HNO4 : Hid (∀ j, j < k + 1 → Oz.shareAt l j = none) := hD (fun j hj => by
     by_cases e : j = k
     ·
      rw [e]; exact HSN.out
     ·
      exact HNO.out j (by omega))
    have hz5 : w.heap.size < w4.heap.size := by omega
    clear hm4 hg4 hz4 hlk z0 z1 z2 z3 z4 z5
    go_wp2_with fail
    go_roundg f
    case measure => omega
    case rel => exact ⟨k + 1, _, by go_num, by have := HN.out; omega, by have := HN.out; omega, HM4, HMI4, HB4, hz5, HNO4⟩
   | some j =>
    rw [hfk] at hlk
    have hjk := fk_lt hfk
    have hlk : (Instr.lookup 163 (.map (some w.heap.size)) (.agg #[.string ⟨K.op.toArray⟩, .string ⟨K.text.toArray⟩, .int .i64 K.a, .int .i64 K.b, .int .i64 K.c, .int .i64 K.num]) true).run Tryz.prog w3 = .ok (.tuple #[.int .i64 j, .bool true]) w3 := hlk
    have HB3w := hD (HB.out.trans (HB3.out.mono hw0))
    obtain ⟨r, hr⟩ := xE (Oz.replaceR l k j)
    have HSN : Hid (Oz.shareAt l k = r) := hD (by rw [HSA.out, hfk, hr])
    have HRP := hD (ka5 base g gs cap k j l vs V w3 (HH.out.below HB3w.out) hjk (by have := HN.out; omega) HBB.out)
    rw [← hr] at HRP
    have HMI4 : Hid (Mirror l (k + 1) L) := hD (by
     have h1 := hfk
     rw [HKK.out] at h1
     exact HMI.out.hit h1)
    clear HG3 y1 hfk hr
    go_wp2_with fail
    refine HRP.out.mono ?_
    intro e w5 h5
    clear hlk z0 z1 z2 z3 z4 z5 HRP
    cases r with
    | none =>
     have h5 : e = .returned (.bool false) ∧ Below w3.heap.size w3 w5 := h5
     obtain ⟨rfl, hb5⟩ := h5
     have HB5 := hD (HB3w.out.trans (hb5.mono HB3w.out.size))
     have HM5 := hD (HM3.out.keep (hb5.block w.heap.size (by omega)))
     have hz5 : w.heap.size < w5.heap.size := by have := hb5.size; omega
     have HNO4 : Hid (∀ j, j < k + 1 → Oz.shareAt l j = none) := hD (fun j hj => by
      by_cases e : j = k
      ·
       rw [e]; exact HSN.out
      ·
       exact HNO.out j (by omega))
     clear hb5
     go_wp2_with fail
     go_roundg f
     case measure => omega
     case rel => exact ⟨k + 1, _, by go_num, by have := HN.out; omega, by have := HN.out; omega, HM5, HMI4, HB5, hz5, HNO4⟩
    | some l9 =>
     have h5 : e = .returned (.bool true) ∧ (∃ vs9, EdX w5 base g gs cap l9 vs9 V) ∧ FrX base w3 w5 := h5
     obtain ⟨rfl, ⟨vs9, he9⟩, hf9⟩ := h5
     have HE9 := hD he9
     have HF9 := hD (((FrX.refl base w).below HB3w.out hbase).trans hf9)
     have HRN : Hid (Oz.firstOf Oz.shareAt l = some l9) := hD (keK (by have := HN.out; omega) HNO.out HSN.out)
     clear he9 hf9
     go_wp2_with fail
     go_ret
     unfold kax
     rw [HRN.out]
     exact ⟨rfl, ⟨_, _, _, HE9.out⟩, HF9.out⟩
  ·
   have hkn : k = n := by omega
   subst hkn
   have q0 : ¬ ((k : Int) < (k : Int)) := by omega
   have HRN : Hid (Oz.firstOf Oz.shareAt l = none) := hD (keL (fun j hj => HNO.out j (by have := HN.out; omega)))
   go_wp2_with fail
   go_ret
   unfold kax
   rw [HRN.out]
   exact ⟨rfl, HB.out⟩
end Go.Proofs.YtamhdmkolfmmdaaGreatDoor
