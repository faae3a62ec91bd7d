/- Rows of the document's steps in memory: a copy whose rows of arguments are its own and apart. The document's remove and insert, step by step (plain). -/
import Derived.Test.YtamhdmkolfmmdaaGreatDoorsay
import Derived.Test.YtamhdmkolfmmdaaGreatDoorsbd
import Derived.Test.YtamhdmkolfmmdaaGreatDoorsau
import Derived.Test.YtamhdmkolfmmdaaGreatDoorsas
import Derived.Test.YtamhdmkolfmmdaaGreatDoorsaa
set_option linter.unusedVariables false
set_option linter.unusedSimpArgs false
namespace Go.Proofs.YtamhdmkolfmmdaaGreatDoor
open Go.RowKit
structure CpX (w : World) (base gs : Nat) (l : List St) (vs : List Value) : Prop where
 blk : ∃ cs, Blk w gs 76 cs
 len : vs.length = l.length
 cells : ∀ (i : Nat) (s : St) (v : Value), l[i]? = some s → vs[i]? = some v → CellsAt w gs i s v
 own : ∀ (i : Nat) (s : St) (v : Value), l[i]? = some s → vs[i]? = some v → w.ownsRow base 3 1 v s.args.length (s.args.map (Value.int .i64))
 dis : ∀ (i j : Nat) (v v' : Value), i ≠ j → vs[i]? = some v → vs[j]? = some v' → v.ownBlock = none ∨ v.ownBlock ≠ v'.ownBlock
 hgs : base ≤ gs
section
variable {w w' : World} {base gs : Nat} {l : List St} {vs : List Value}
theorem CpX.gs_lt (h : CpX w base gs l vs) : gs < w.heap.size := by obtain ⟨cs, hb⟩ := h.blk; exact hb.lt
theorem CpX.at_ (h : CpX w base gs l vs) {i : Nat} {s : St} (hs : l[i]? = some s) : ∃ v, vs[i]? = some v ∧ CellsAt w gs i s v ∧ w.ownsRow base 3 1 v s.args.length (s.args.map (Value.int .i64)) := by
 have hi := (gH hs).1
 have hv : vs[i]? = some (vs[i]'(by rw [h.len]; exact hi)) := List.getElem?_eq_getElem _
 exact ⟨_, hv, h.cells i s _ hs hv, h.own i s _ hs hv⟩
theorem CpX.apart (h : CpX w base gs l vs) {i : Nat} {s : St} {v : Value} (hs : l[i]? = some s) (hv : vs[i]? = some v) {q : Nat} (hq : v.ownBlock = some q) : q ≠ gs := fun e => by
 have ho := h.own i s v hs hv
 obtain ⟨cs, hb⟩ := h.blk
 exact kan ho hb (by decide) (by rw [hq, e])
theorem CpX.arg (h : CpX w base gs l vs) : ArgPl w (some ⟨gs, 0, none⟩) l := fun i s hs => by
 obtain ⟨v, hv, ⟨x0, x1, x2, x3, x4⟩, ho⟩ := h.at_ hs
 obtain ⟨A, c, rfl⟩ := kak ho
 refine ⟨gs, 0, A, c, rfl, h.gs_lt, ?_, ?_, ?_, ?_, ?_, by simp, fun hn => ?_⟩
 ·
  rw [Nat.zero_add]; exact x0
 ·
  rw [Nat.zero_add]; exact x1
 ·
  rw [Nat.zero_add]; exact x2
 ·
  rw [Nat.zero_add]; exact x3
 ·
  rw [Nat.zero_add]; exact x4
 ·
  obtain ⟨q, c', hvq, _, _, hql, hc⟩ := ka8 ho hn
  injection hvq with hA
  subst hA
  exact ⟨_, rfl, hql, fun j u hj => by rw [ka1, Nat.zero_add]; exact hc j u hj⟩
theorem CpX.setArg (h : CpX w base gs l vs) {i k : Nat} {s : St} {v : Value} (hs : l[i]? = some s) (hv : vs[i]? = some v) (hk : k < s.args.length) (x : Int) : ∃ q c, v = .slice (some ⟨q, 0, none⟩) s.args.length c ∧ (∀ a, s.args[k]? = some a → w.cell? ⟨q, k, none⟩ = some (.int .i64 a)) ∧ w.frozen? ⟨q, k, none⟩ = false ∧ base ≤ q ∧
  CpX (w.setCell ⟨q, k, none⟩ (.int .i64 x)) base gs (l.set i { s with args := s.args.set k x }) vs := by
 exact y24
end
def kbt : List St → List Value → List Value
 | s :: l, v :: vs => [.string ⟨s.op.toArray⟩, v, .int .i64 s.num, .string ⟨s.text.toArray⟩, .int .i64 s.ty] ++ kbt l vs
 | _, _ => []
theorem keE : ∀ (l : List St) (vs : List Value) (s : St) (v : Value), vs.length = l.length → kbt (l ++ [s]) (vs ++ [v]) = kbt l vs ++ [.string ⟨s.op.toArray⟩, v, .int .i64 s.num, .string ⟨s.text.toArray⟩, .int .i64 s.ty]
 | [], [], s, v, _ => rfl
 | [], _ :: _, s, v, h => by simp at h
 | _ :: _, [], s, v, h => by simp at h
 | t :: l, u :: vs, s, v, h => by
  have ih := keE l vs s v (by simpa using h)
  show [Value.string ⟨t.op.toArray⟩, u, .int .i64 t.num, .string ⟨t.text.toArray⟩, .int .i64 t.ty] ++ kbt (l ++ [s]) (vs ++ [v]) = _
  rw [ih]
  rfl
theorem kfM : ∀ (l : List St) (vs : List Value) (i r : Nat) (s : St) (v u : Value), l[i]? = some s → vs[i]? = some v → ([.string ⟨s.op.toArray⟩, v, .int .i64 s.num, .string ⟨s.text.toArray⟩, .int .i64 s.ty] : List Value)[r]? = some u → (kbt l vs)[i * 5 + r]? = some u
 | [], _, i, r, s, v, u, h, _, _ => by simp at h
 | _ :: _, [], i, r, s, v, u, _, h, _ => by simp at h
 | t :: l, x :: vs, 0, r, s, v, u, hs, hv, hu => by
  injection hs with hs
  injection hv with hv
  subst hs hv
  unfold kbt
  rw [Nat.zero_mul, Nat.zero_add, List.getElem?_append_left (gH hu).1]
  exact hu
 | t :: l, x :: vs, i + 1, r, s, v, u, hs, hv, hu => by
  have ih := kfM l vs i r s v u hs hv hu
  unfold kbt
  rw [List.getElem?_append_right (by simp; omega), ← ih]
  congr 1
  simp
  omega
structure CsX (w : World) (base : Nat) (l : List St) (vs : List Value) : Prop where
 len : vs.length = l.length
 own : ∀ (i : Nat) (s : St) (v : Value), l[i]? = some s → vs[i]? = some v → w.ownsRow base 3 1 v s.args.length (s.args.map (Value.int .i64))
 dis : ∀ (i j : Nat) (v v' : Value), i ≠ j → vs[i]? = some v → vs[j]? = some v' → v.ownBlock = none ∨ v.ownBlock ≠ v'.ownBlock
theorem CsX.nil (w : World) (base : Nat) : CsX w base [] [] := ⟨rfl, fun i s v h => by simp at h, fun i j v v' _ h => by simp at h⟩
theorem CsX.keep {w w' : World} {base : Nat} {l : List St} {vs : List Value} (h : CsX w base l vs) (hk : ∀ i cur, Blk w i 3 cur → w'.heap[i]? = w.heap[i]?) : CsX w' base l vs :=
 ⟨h.len, fun i s v hs hv => kaA (h.own i s v hs hv) (fun g hg => by obtain ⟨_, cur, hc⟩ := kaq (h.own i s v hs hv) hg; exact hk g cur hc), h.dis⟩
theorem CsX.snoc {w w' : World} {base : Nat} {l : List St} {vs : List Value} (h : CsX w base l vs) (hk : ∀ i cur, Blk w i 3 cur → w'.heap[i]? = w.heap[i]?) (s : St) (v : Value) (ho : w'.ownsRow base 3 1 v s.args.length (s.args.map (Value.int .i64))) (hd : ∀ g, v.ownBlock = some g → w.heap.size ≤ g) : CsX w' base (l ++ [s]) (vs ++ [v]) := by
 have hl := h.len
 have hold : ∀ (i : Nat) u, vs[i]? = some u → ∀ g, u.ownBlock = some g → g < w.heap.size := fun i u hu g hg => by
  have hi : i < l.length := by rw [← hl]; exact (gH hu).1
  exact kbO (h.own i _ u (List.getElem?_eq_getElem hi) hu) g hg
 have hsplit : ∀ (i : Nat) u, (vs ++ [v])[i]? = some u → (i < vs.length ∧ vs[i]? = some u) ∨ (i = vs.length ∧ u = v) := fun i u hu => by
  by_cases hi : i < vs.length
  ·
   rw [List.getElem?_append_left hi] at hu
   exact .inl ⟨hi, hu⟩
  ·
   rw [List.getElem?_append_right (by omega)] at hu
   have hi0 : i - vs.length < 1 := (gH hu).1
   have : i = vs.length := by omega
   subst this
   simp at hu
   exact .inr ⟨rfl, hu.symm⟩
 refine ⟨by simp [hl], fun i t u ht hu => ?_, fun i j u u' hij hu hu' => ?_⟩
 ·
  rcases hsplit i u hu with ⟨hi, hu1⟩ | ⟨e1, e2⟩
  ·
   rw [List.getElem?_append_left (by omega)] at ht
   exact (h.keep hk).own i t u ht hu1
  ·
   rw [e1, hl, List.getElem?_append_right (Nat.le_refl _)] at ht
   simp at ht
   rw [e2, ← ht]
   exact ho
 ·
  rcases hsplit i u hu with ⟨hi, hu1⟩ | ⟨e1, e2⟩
  ·
   rcases hsplit j u' hu' with ⟨hj, hu2⟩ | ⟨e3, e4⟩
   ·
    exact h.dis i j u u' hij hu1 hu2
   ·
    cases hg : u.ownBlock with
    | none => exact .inl rfl
    | some g =>
     refine .inr (fun e => ?_)
     have h1 := hold i u hu1 g hg
     have h2 := hd g (by rw [← e4]; exact e.symm)
     omega
  ·
   rcases hsplit j u' hu' with ⟨hj, hu2⟩ | ⟨e3, e4⟩
   ·
    cases hg : u.ownBlock with
    | none => exact .inl rfl
    | some g =>
     refine .inr (fun e => ?_)
     have h1 := hold j u' hu2 g e.symm
     have h2 := hd g (by rw [← e2]; exact hg)
     omega
   ·
    exact absurd (e1.trans e3.symm) hij
theorem CsX.cpx {w : World} {base : Nat} {l : List St} {vs : List Value} {v : Value} (h : CsX w base l vs) (ho : w.ownsRow base 76 5 v l.length (kbt l vs)) (hl : 0 < l.length) : ∃ gs cap, v = .slice (some ⟨gs, 0, none⟩) l.length cap ∧ l.length ≤ cap ∧ CpX w base gs l vs := by
 obtain ⟨gs, cap, cur, rfl, hnc, hbg, hB, hsz, ht, _⟩ := ked ho hl
 refine ⟨gs, cap, rfl, hnc, ⟨cur, hB⟩, h.len, fun i s v hs hv => ?_, h.own, h.dis, hbg⟩
 have hil := (gH hs).1
 have hc : ∀ (r : Nat) u, ([.string ⟨s.op.toArray⟩, v, .int .i64 s.num, .string ⟨s.text.toArray⟩, .int .i64 s.ty] : List Value)[r]? = some u → w.cell? ⟨gs, i * 5 + r, none⟩ = some u := fun r u hu => by
  have h1 := kfM l vs i r s v u hs hv hu
  have hr : r < 5 := (gH hu).1
  rw [← ht, List.getElem?_take, if_pos (by omega), Array.getElem?_toList] at h1
  rw [hB.cell]
  exact h1
 exact ⟨hc 0 _ rfl, hc 1 _ rfl, hc 2 _ rfl, hc 3 _ rfl, hc 4 _ rfl⟩
def fmF (w : World) (base : Nat) (i : Nat) : Prop := i < w.heap.size ∧ (i < base ∨ ∃ cur, Blk w i 3 cur)
theorem StVs.keep_fm {w w' : World} {base : Nat} {P : List St} {css : List Value} (h : StVs w (fmF w base) P css) (h0 : ∀ i, i < base → i < w.heap.size → w'.heap[i]? = w.heap[i]?) (hk : ∀ i cur, Blk w i 3 cur → w'.heap[i]? = w.heap[i]?) (hs : w.heap.size ≤ w'.heap.size) : StVs w' (fmF w' base) P css :=
 h.keep (fun i hi _ => by
  obtain ⟨h1, h2 | ⟨cur, h2⟩⟩ := hi
  ·
   exact h0 i h2 h1
  ·
   exact hk i cur h2) hs (fun i hi hl => by
  obtain ⟨h1, h2 | ⟨cur, h2⟩⟩ := hi
  ·
   exact ⟨by omega, .inl h2⟩
  ·
   exact ⟨by omega, .inr ⟨cur, (hk i cur h2).trans h2⟩⟩)
theorem kbA {w : World} {base B n c : Nat} {A : Option Addr} {xs : List Value} (h : w.ownsRow base 3 1 (.slice A n c) n xs) : RdF w (fmF w B) 1 A n xs := by
 refine ⟨h.1, fun hn => ?_⟩
 obtain ⟨g, c', hv, _, _, hgl, hc⟩ := ka8 h hn
 injection hv with hA
 subst hA
 obtain ⟨_, cur, hb⟩ := kaq h (g := g) rfl
 exact ⟨g, 0, rfl, ⟨hgl, .inr ⟨cur, hb⟩⟩, hgl, fun j u hj => by rw [Nat.zero_add]; exact hc j u hj⟩
theorem ArgPl.of_rows {w : World} {base B c : Nat} {A : Option Addr} {l : List St} {css : List Value} (ho : w.ownsRow base 76 5 (.slice A l.length c) l.length css) (hT : StVs w (fmF w B) l css) : ArgPl w A l :=
 PlAt.arg (w := w) ⟨css, kf8 ho (fun _ _ h2 => h2), hT.keep (w' := w) (fun _ _ _ => rfl) (Nat.le_refl _) (fun _ hi _ => hi.1)⟩
theorem ArgPl.take {w : World} {A : Option Addr} {l : List St} (h : ArgPl w A l) (n : Nat) : ArgPl w A (l.take n) := fun i s hs => h i s (by
 rw [List.getElem?_take] at hs
 split at hs
 ·
  exact hs
 ·
  cases hs)
structure BdL (l : List St) : Prop where
 len : l.length ≤ 10000
 arg : ∀ s ∈ l, s.args.length ≤ 3 ∧ ∀ a ∈ s.args, 0 ≤ a ∧ a ≤ 10000
def kbd (w : World) (l : List St) (e : Ending) (w' : World) : Prop := Below w.heap.size w w' ∧ ∃ A c, e = .returned (.slice A l.length c) ∧ l.length ≤ c ∧ ArgPl w' A l
def kal (w : World) (r : Option (List St)) (e : Ending) (w' : World) : Prop := Below w.heap.size w w' ∧ match r with
 | none => e = .returned (.tuple #[.slice none 0 0, .bool false])
 | some l' => ∃ A c, e = .returned (.tuple #[.slice A l'.length c, .bool true]) ∧ l'.length ≤ c ∧ ArgPl w' A l'
theorem kjA {w : World} {base e size n c : Nat} {A : Option Addr} {xs : List Value} (h : w.ownsRow base e size (.slice A n c) n xs) : n ≤ c := by
 rcases Nat.eq_zero_or_pos n with h0 | h0
 ·
  omega
 ·
  obtain ⟨g, c', hv, hn, _⟩ := ka8 h h0
  injection hv with _ _ hc
  omega
namespace Rf
def remK (f : Int → Int) (l : List St) (i k : Nat) : List St := (l.take (min k i)).map (Oz.mapA f) ++ ((l.take k).drop (i + 1)).map (Oz.mapA f)
theorem remK_zero (f : Int → Int) (l : List St) (i : Nat) : remK f l i 0 = [] := by unfold remK; simp
theorem remK_skip (f : Int → Int) (l : List St) (i : Nat) : remK f l i (i + 1) = remK f l i i := by
 unfold remK
 rw [List.drop_eq_nil_of_le (by rw [List.length_take]; omega), List.drop_eq_nil_of_le (by rw [List.length_take]; omega), show min (i + 1) i = i by omega, Nat.min_self]
theorem remK_succ {f : Int → Int} {l : List St} {i k : Nat} {s : St} (hs : l[k]? = some s) (hk : k ≠ i) : remK f l i (k + 1) = remK f l i k ++ [Oz.mapA f s] := by
 have hl := (gH hs).1
 unfold remK
 by_cases h : k < i
 ·
  rw [List.drop_eq_nil_of_le (by rw [List.length_take]; omega), List.drop_eq_nil_of_le (by rw [List.length_take]; omega), show min (k + 1) i = k + 1 by omega, show min k i = k by omega, List.take_add_one, hs]
  simp
 ·
  rw [show min (k + 1) i = i by omega, show min k i = i by omega, List.take_add_one, hs, List.drop_append_of_le_length (by rw [List.length_take]; omega)]
  simp
theorem remK_len {f : Int → Int} {l : List St} {i k : Nat} : (remK f l i k).length ≤ k := by
 unfold remK
 rw [List.length_append, List.length_map, List.length_map, List.length_drop, List.length_take, List.length_take]
 omega
theorem remK_all {l : List St} {i : Nat} (hi : i < l.length) : remK (fRm i) l i l.length = removeL l i := by
 unfold remK removeL
 rw [List.take_length, show min l.length i = i by omega]
def insK (f : Int → Int) (l : List St) (j : Nat) (x : St) (k : Nat) : List St := (l.take (min k j)).map (Oz.mapA f) ++ (if j < k then x :: ((l.take k).drop j).map (Oz.mapA f) else [])
theorem insK_zero (f : Int → Int) (l : List St) (j : Nat) (x : St) : insK f l j x 0 = [] := by unfold insK; simp
theorem insK_at {f : Int → Int} {l : List St} {j : Nat} {x s : St} (hs : l[j]? = some s) : insK f l j x (j + 1) = (insK f l j x j ++ [x]) ++ [Oz.mapA f s] := by
 have hl := (gH hs).1
 unfold insK
 rw [if_pos (by omega), if_neg (by omega), show min (j + 1) j = j by omega, Nat.min_self, List.take_add_one, hs, List.drop_append_of_le_length (by rw [List.length_take]; omega), List.drop_eq_nil_of_le (by rw [List.length_take]; omega)]
 simp
theorem insK_succ {f : Int → Int} {l : List St} {j k : Nat} {x s : St} (hs : l[k]? = some s) (hk : k ≠ j) : insK f l j x (k + 1) = insK f l j x k ++ [Oz.mapA f s] := by
 have hl := (gH hs).1
 unfold insK
 by_cases h : k < j
 ·
  rw [if_neg (by omega), if_neg (by omega), show min (k + 1) j = k + 1 by omega, show min k j = k by omega, List.take_add_one, hs]
  simp
 ·
  rw [if_pos (by omega), if_pos (by omega), show min (k + 1) j = j by omega, show min k j = j by omega, List.take_add_one, hs, List.drop_append_of_le_length (by rw [List.length_take]; omega)]
  simp
theorem insK_len {f : Int → Int} {l : List St} {j k : Nat} {x : St} : (insK f l j x k).length ≤ k + 1 := by
 unfold insK
 rw [List.length_append, List.length_map, List.length_take]
 split
 ·
  rw [List.length_cons, List.length_map, List.length_drop, List.length_take]
  omega
 ·
  simp
  omega
theorem insK_all {l : List St} {j : Nat} {x : St} (hj : j < l.length) : insK (fIn j) l j x l.length = insertL l j x := by
 unfold insK insertL
 rw [if_pos hj, List.take_length, show min l.length j = j by omega]
end Rf
theorem kcW {l : List St} (hc : kac l = 0) : BdL l := ⟨by have := (check_fit.1 hc).2.1; omega, fun s hs => by
 have h := kbC hc s hs
 have := (check_fit.1 hc).2.1
 exact ⟨h.1, fun a ha => by have := h.2 a ha; omega⟩⟩
def BdN (m : Nat) (l : List St) : Prop := l.length ≤ m ∧ ∀ s ∈ l, s.args.length ≤ 3 ∧ ∀ a ∈ s.args, 0 ≤ a ∧ a ≤ (m : Int)
theorem BdN.bd {m : Nat} {l : List St} (h : BdN m l) (hm : m ≤ 10000) : BdL l := ⟨by have := h.1; omega, fun s hs => ⟨(h.2 s hs).1, fun a ha => by have := (h.2 s hs).2 a ha; omega⟩⟩
theorem kc6 {l : List St} (hc : kac l = 0) : BdN 4096 l := ⟨by have := (check_fit.1 hc).2.1; omega, fun s hs => by
 have h := kbC hc s hs
 have := (check_fit.1 hc).2.1
 exact ⟨h.1, fun a ha => by have := h.2 a ha; omega⟩⟩
theorem BdN.set {m : Nat} {l : List St} (h : BdN m l) (i : Nat) (x : St) (hx : x.args.length ≤ 3 ∧ ∀ a ∈ x.args, 0 ≤ a ∧ a ≤ (m : Int)) : BdN m (l.set i x) := ⟨by rw [List.length_set]; exact h.1, fun s hs => (List.mem_or_eq_of_mem_set hs).elim (h.2 s) (fun e => e ▸ hx)⟩
theorem BdN.map {m n : Nat} {l : List St} (h : BdN m l) (f : Int → Int) (hmn : m ≤ n) (hf : ∀ a : Int, 0 ≤ a → a ≤ (m : Int) → 0 ≤ f a ∧ f a ≤ (n : Int)) : BdN n (l.map (Oz.mapA f)) := ⟨by rw [List.length_map]; have := h.1; omega, fun s hs => by
 obtain ⟨t, ht, rfl⟩ := List.mem_map.1 hs
 have := h.2 t ht
 unfold Oz.mapA
 refine ⟨by rw [List.length_map]; exact this.1, fun a ha => ?_⟩
 obtain ⟨b, hb, rfl⟩ := List.mem_map.1 ha
 exact hf b (this.2 b hb).1 (this.2 b hb).2⟩
theorem BdN.insert {m : Nat} {l : List St} (h : BdN m l) (j : Nat) (x : St) (hx : x.args.length ≤ 3 ∧ ∀ a ∈ x.args, 0 ≤ a ∧ a ≤ (m : Int)) : BdN (m + 1) (Rf.insertL l j x) := by
 have hf : ∀ a : Int, 0 ≤ a → a ≤ (m : Int) → 0 ≤ fIn j a ∧ fIn j a ≤ ((m + 1 : Nat) : Int) := fun a h1 h2 => by unfold fIn; split <;> omega
 have h1 : BdN (m + 1) (l.map (Oz.mapA (fIn j))) := h.map _ (by omega) hf
 have hall : ∀ s ∈ Rf.insertL l j x, s = x ∨ s ∈ l.map (Oz.mapA (fIn j)) := fun s hs => by
  unfold Rf.insertL at hs
  rcases List.mem_append.1 hs with hs | hs
  ·
   obtain ⟨t, ht, rfl⟩ := List.mem_map.1 hs
   exact .inr (List.mem_map.2 ⟨t, List.mem_of_mem_take ht, rfl⟩)
  ·
   rcases List.mem_cons.1 hs with rfl | hs
   ·
    exact .inl rfl
   ·
    obtain ⟨t, ht, rfl⟩ := List.mem_map.1 hs
    exact .inr (List.mem_map.2 ⟨t, List.mem_of_mem_drop ht, rfl⟩)
 refine ⟨?_, fun s hs => ?_⟩
 ·
  unfold Rf.insertL
  have := h.1
  rw [List.length_append, List.length_cons, List.length_map, List.length_map, List.length_take, List.length_drop]
  omega
 ·
  rcases hall s hs with rfl | hs
  ·
   exact ⟨hx.1, fun a ha => by have := hx.2 a ha; omega⟩
  ·
   exact h1.2 s hs
end Go.Proofs.YtamhdmkolfmmdaaGreatDoor
