/- optimize's lenOf; what an inserted step leaves of the questions (plain Lean). What the edits of optimize leave of a plan's check, cost and last type (plain Lean): remove, replace, insert, a step set. Each rule of optimize keeps a plan a plan, lowers its cost and keeps its last type (plain Lean). -/
import Derived.Test.YtamhdmkolfmmdaaGreatDoorsaz
import Derived.Test.YtamhdmkolfmmdaaGreatDoorsba
import Derived.Test.YtamhdmkolfmmdaaGreatDoorsaa
set_option linter.unusedVariables false
set_option linter.unusedSimpArgs false
namespace Go.Proofs.YtamhdmkolfmmdaaGreatDoor
open Go.RowKit
set_option maxRecDepth 100000
theorem kfw (a : Int) (w : World) : Calls Tryz.prog 121 #[.int .i64 a] w fun e w' => ∃ N, e = .returned (.agg #[.string ⟨#[108, 101, 110]⟩, .slice (some ⟨N, 0, none⟩) 1 1, .int .i64 0, .string ⟨#[]⟩, .int .i64 1]) ∧ w'.ownsRow w.heap.size 3 1 (.slice (some ⟨N, 0, none⟩) 1 1) 1 [.int .i64 a] ∧ Below w.heap.size w w' := by
 go_enter Tryz.func121, Tryz.ntmps121
 go_wp2_with fail
 obtain ⟨w1, hw1⟩ := xE (w.alloc (.cells #[.string ⟨#[108, 101, 110]⟩, .slice (some ⟨w.heap.size + 1, 0, none⟩) 1 1, .int .i64 0, .string ⟨#[]⟩, .int .i64 1] 77))
 rw [← hw1]
 have hsz : w1.heap.size = w.heap.size + 1 := by rw [hw1]; simp
 have hb1 : Blk w1 w.heap.size 77 #[.string ⟨#[108, 101, 110]⟩, .slice (some ⟨w.heap.size + 1, 0, none⟩) 1 1, .int .i64 0, .string ⟨#[]⟩, .int .i64 1] := by rw [hw1]; exact Blk.new _ _ _
 have hB : Below w.heap.size w w1 := by rw [hw1]; exact kaa _ _
 have ho := kd1 w1 [a] (by show 1 ≤ 100; decide)
 rw [hsz] at ho
 have hb2 := hb1.alloc (.cells #[.int .i64 a] 3)
 have hB2 := hB.alloc (by omega) (.cells #[.int .i64 a] 3)
 obtain ⟨w2, hw2⟩ := xE (w1.alloc (.cells #[.int .i64 a] 3))
 have ho2 : w2.ownsRow (w.heap.size + 1) 3 1 (.slice (some ⟨w.heap.size + 1, 0, none⟩) 1 1) 1 [.int .i64 a] := by rw [hw2]; exact ho
 rw [← hw2] at hb2 hB2 ⊢
 have f0 := hb2.cell 0
 have f1 := hb2.cell 1
 have f2 := hb2.cell 2
 have f3 := hb2.cell 3
 have f4 := hb2.cell 4
 simp only [gA, gB, gC] at f0 f1 f2 f3 f4
 refine bodyPost_ret (v := .agg #[.string ⟨#[108, 101, 110]⟩, .slice (some ⟨w.heap.size + 1, 0, none⟩) 1 1, .int .i64 0, .string ⟨#[]⟩, .int .i64 1]) (by simp [results, Tryz.results121, go_sem, f0, f1, f2, f3, f4]) rfl ?_
 exact ⟨w.heap.size + 1, rfl, ho2.mono (by omega), hB2⟩
theorem kaQ (l : List St) (j : Nat) (s : St) : (Oz.insertR l j s).length = l.length + 1 := by
 unfold Oz.insertR
 simp only [List.length_append, List.length_take, List.length_cons, List.length_map, List.length_drop]
 omega
theorem kbq (l : List St) (j : Nat) (s : St) (hj : j ≤ l.length) (q : Nat) : (Oz.insertR l j s)[q]? = if q < j then l[q]? else if q = j then some s else (l[q - 1]?).map (Oz.mapA (fIn j)) := by
 have hl : (l.take j).length = j := by rw [List.length_take]; omega
 unfold Oz.insertR
 by_cases h : q < j
 ·
  rw [if_pos h, List.getElem?_append_left (by omega), List.getElem?_take, if_pos h]
 ·
  rw [if_neg h, List.getElem?_append_right (by omega), hl]
  by_cases h2 : q = j
  ·
   subst h2
   rw [if_pos rfl, Nat.sub_self, gB]
  ·
   rw [if_neg h2]
   obtain ⟨m, hm⟩ : ∃ m, q - j = m + 1 := ⟨q - j - 1, by omega⟩
   rw [hm, gC, List.getElem?_map, List.getElem?_drop, show j + m = q - 1 by omega]
   rfl
theorem kcO (l : List St) (i j : Nat) (s : St) (hj : j ≤ l.length) : Oz.canR (Oz.insertR l j s) (i + 1) (j + 1) = Oz.canR l i j := by
 unfold Oz.canR
 rw [kaQ]
 congr 1
 ·
  congr 1
  simp
 ·
  unfold Oz.safeB
  have : ((Oz.insertR l j s).take (i + 1)).drop (j + 1 + 1) = ((l.take i).drop (j + 1)).map (Oz.mapA (fIn j)) := by
   apply List.ext_getElem?
   intro q
   rw [List.getElem?_drop, List.getElem?_take, List.getElem?_map, List.getElem?_drop, List.getElem?_take]
   by_cases h : j + 1 + q < i
   ·
    rw [if_pos (by omega), if_pos h, kbq l j s hj, if_neg (by omega), if_neg (by omega)]
    congr 2
    omega
   ·
    rw [if_neg (by omega), if_neg h]
    rfl
  rw [this, List.all_map]
  rfl
theorem kh2 {l : List St} {j : Nat} {s : St} {B : Int} (hb : ∀ s ∈ l, s.args.length ≤ 3 ∧ ∀ a ∈ s.args, 0 ≤ a ∧ a ≤ B) (hs : s.args.length ≤ 3 ∧ ∀ a ∈ s.args, 0 ≤ a ∧ a ≤ B + 1) : ∀ s' ∈ Oz.insertR l j s, s'.args.length ≤ 3 ∧ ∀ a ∈ s'.args, 0 ≤ a ∧ a ≤ B + 1 := fun s' hs' => by
 unfold Oz.insertR at hs'
 rcases List.mem_append.1 hs' with h | h
 ·
  have := hb s' (List.mem_of_mem_take h)
  exact ⟨this.1, fun a ha => by have := this.2 a ha; omega⟩
 ·
  rcases List.mem_cons.1 h with rfl | h
  ·
   exact hs
  ·
   obtain ⟨t, ht, rfl⟩ := List.mem_map.1 h
   have := hb t (List.mem_of_mem_drop ht)
   refine ⟨by unfold Oz.mapA; simpa using this.1, fun a ha => ?_⟩
   unfold Oz.mapA at ha
   obtain ⟨b, hb', rfl⟩ := List.mem_map.1 ha
   have := this.2 b hb'
   split <;> omega
theorem set_bd {l : List St} {j : Nat} {s : St} {B : Int} (hb : ∀ s ∈ l, s.args.length ≤ 3 ∧ ∀ a ∈ s.args, 0 ≤ a ∧ a ≤ B) (hs : s.args.length ≤ 3 ∧ ∀ a ∈ s.args, 0 ≤ a ∧ a ≤ B) : ∀ s' ∈ l.set j s, s'.args.length ≤ 3 ∧ ∀ a ∈ s'.args, 0 ≤ a ∧ a ≤ B := fun s' hs' => by
 rcases List.mem_or_eq_of_mem_set hs' with h | rfl
 ·
  exact hb s' h
 ·
  exact hs
theorem kfY {l : List St} {B C : Int} (hb : ∀ s ∈ l, s.args.length ≤ 3 ∧ ∀ a ∈ s.args, 0 ≤ a ∧ a ≤ B) (h : B ≤ C) : ∀ s ∈ l, s.args.length ≤ 3 ∧ ∀ a ∈ s.args, 0 ≤ a ∧ a ≤ C := fun s hs => ⟨(hb s hs).1, fun a ha => by have := (hb s hs).2 a ha; omega⟩
theorem kdU {w : World} {base g gs cap : Nat} {l : List St} {vs : List Value} {V : Value} (h : EdX w base g gs cap l vs V) {N : Nat} (hN : w.heap.size ≤ N) (n c : Nat) : ∀ (j : Nat) (v : Value), vs[j]? = some v → (Value.slice (some ⟨N, 0, none⟩) n c).ownBlock = none ∨ v.ownBlock ≠ (Value.slice (some ⟨N, 0, none⟩) n c).ownBlock := fun j v hv => by
 refine .inr (fun e => ?_)
 have hjl := (gH hv).1
 rw [h.len] at hjl
 have := kbO (h.own j _ v (List.getElem?_eq_getElem hjl) hv) N (by rw [e]; rfl)
 omega
def Fit (l : List St) : Prop := ∀ (i : Nat) (s : St), l[i]? = some s → ∃ o, Fine l i s o
theorem klZ {l : List St} {i : Nat} {s : St} {o : OpI} (f : Fine l i s o) : kaL l i s = 0 := by
 rw [khx f.op f.len f.back, if_neg, if_neg, ]
 ·
  by_cases h : o.regex = true
  ·
   rw [if_pos h, f.pat h]
  ·
   rw [if_neg h]
 ·
  rintro (h | h)
  ·
   exact h f.ty
  ·
   rw [f.typed] at h; cases h
 ·
  rintro (h | ⟨h, h2⟩ | ⟨h, h2⟩)
  ·
   have := f.num; omega
  ·
   exact h2 (f.numN h)
  ·
   rw [f.text h] at h2; cases h2
theorem check_fit {l : List St} : kac l = 0 ↔ 1 ≤ l.length ∧ l.length ≤ 4096 ∧ Fit l := by
 constructor
 ·
  intro h
  obtain ⟨h1, h2, h3⟩ := kbK h
  exact ⟨h1, h2, fun i s hs => kdd (h3 i s hs)⟩
 ·
  rintro ⟨h1, h2, h3⟩
  unfold kac
  rw [if_neg (by omega)]
  refine (kck l 0).2 fun j s hs => ?_
  obtain ⟨o, f⟩ := h3 j s hs
  rw [Nat.zero_add]
  exact klZ f
theorem kh3 (f : Int → Int) {l : List Int} {k : Nat} (h : k < l.length) : (l.map f).getD k 0 = f (l.getD k 0) := by
 rw [List.getD_eq_getElem?_getD, List.getD_eq_getElem?_getD, List.getElem?_map, List.getElem?_eq_getElem h]
 rfl
theorem kb5 {l : List Int} {k : Nat} (h : k < l.length) : l.getD k 0 ∈ l := by
 rw [List.getD_eq_getElem?_getD, List.getElem?_eq_getElem h]
 exact List.getElem_mem h
theorem kcM {l l' : List St} {i i' : Nat} {s : St} {o : OpI} (f : Int → Int) (h : Fine l i s o) (hf : ∀ a ∈ s.args, 0 ≤ f a ∧ f a < (i' : Int) ∧ tyAt l' (f a) = tyAt l a) : Fine l' i' (Oz.mapA f s) o := by
 refine ⟨h.op, by unfold Oz.mapA; rw [List.length_map]; exact h.len, fun a ha => ?_, h.num, h.numN, h.text, h.ty, ?_, h.pat⟩
 ·
  unfold Oz.mapA at ha
  obtain ⟨b, hb, rfl⟩ := List.mem_map.1 ha
  exact ⟨(hf b hb).1, (hf b hb).2.1⟩
 ·
  have ht := h.typed
  unfold ka7 at ht ⊢
  show (if kaG s.op = true then (if tyAt l' ((s.args.map f).getD 0 0) ≠ tyAt l' ((s.args.map f).getD 1 0) then false else if tyAt l' ((s.args.map f).getD 0 0) = 2 then kcx s.op else decide (tyAt l' ((s.args.map f).getD 0 0) = 1 ∨ tyAt l' ((s.args.map f).getD 0 0) = 3)) else decide ((s.args.map f).map (tyAt l') = o.args)) = true
  by_cases hc : kaG s.op = true
  ·
   have hl : s.args.length = 2 := by rw [h.len]; exact kgh h.op hc
   rw [if_pos hc] at ht ⊢
   rw [kh3 f (by omega), kh3 f (by omega), (hf _ (kb5 (by omega))).2.2, (hf _ (kb5 (by omega))).2.2]
   exact ht
  ·
   rw [if_neg hc] at ht ⊢
   have : (s.args.map f).map (tyAt l') = s.args.map (tyAt l) := by
    rw [List.map_map]
    exact List.map_congr_left fun a ha => (hf a ha).2.2
   rw [this]
   exact ht
theorem kd5 {f : Int → Int} {s : St} (h : ∀ a ∈ s.args, f a = a) : Oz.mapA f s = s := by
 unfold Oz.mapA
 have : s.args.map f = s.args := by
  conv => rhs; rw [← List.map_id s.args]
  exact List.map_congr_left fun a ha => by rw [h a ha]; rfl
 rw [this]
theorem keM {l l' : List St} {i : Nat} {s : St} {o : OpI} (h : Fine l i s o) (hf : ∀ a ∈ s.args, tyAt l' a = tyAt l a) : Fine l' i s o := by
 have := kcM (l' := l') (i' := i) (fun a => a) h (fun a ha => ⟨(h.back a ha).1, (h.back a ha).2, hf a ha⟩)
 rwa [kd5 (fun _ _ => rfl)] at this
theorem kaK (l : List St) (q : Nat) : tyAt l (q : Int) = (l[q]?).elim 0 (fun s => s.ty) := by
 unfold tyAt
 rw [Int.toNat_natCast]
 cases l[q]? <;> rfl
theorem kdu {a : Int} (h : 0 ≤ a) : ∃ q : Nat, a = (q : Int) := ⟨a.toNat, by omega⟩
theorem kdO {l : List St} {i : Nat} (hi : i < l.length) (q : Nat) : (Oz.removeR l i)[q]? = if q < i then l[q]? else (l[q + 1]?).map (Oz.mapA (fRm i)) := by
 have hl : (l.take i).length = i := by rw [List.length_take]; omega
 unfold Oz.removeR
 by_cases h : q < i
 ·
  rw [if_pos h, List.getElem?_append_left (by omega), List.getElem?_take, if_pos h]
 ·
  rw [if_neg h, List.getElem?_append_right (by omega), hl, List.getElem?_map, List.getElem?_drop, show i + 1 + (q - i) = q + 1 by omega]
  rfl
theorem kcS {l : List St} {i : Nat} (hi : i < l.length) : (Oz.removeR l i).length = l.length - 1 := by
 unfold Oz.removeR
 rw [List.length_append, List.length_take, List.length_map, List.length_drop]
 omega
theorem kdM {l : List St} {i : Nat} (hi : i < l.length) {a : Int} (ha : 0 ≤ a) (hai : a ≠ (i : Int)) : tyAt (Oz.removeR l i) (fRm i a) = tyAt l a := by
 obtain ⟨q, rfl⟩ := kdu ha
 unfold fRm
 by_cases h : (i : Int) < (q : Int)
 ·
  rw [if_pos h, show (q : Int) - 1 = ((q - 1 : Nat) : Int) by omega, kaK, kaK, kdO hi, if_neg (by omega), show q - 1 + 1 = q by omega]
  cases l[q]? <;> rfl
 ·
  rw [if_neg h, kaK, kaK, kdO hi, if_pos (by omega)]
theorem kkj {l : List St} {i : Nat} (hi : i < l.length) (h : ∀ (q : Nat) (s : St), q ≠ i → l[q]? = some s → (∃ o, Fine l q s o) ∧ (i : Int) ∉ s.args) : Fit (Oz.removeR l i) := fun q s hs => by
 rw [kdO hi] at hs
 by_cases hq : q < i
 ·
  rw [if_pos hq] at hs
  obtain ⟨⟨o, f⟩, hn⟩ := h q s (by omega) hs
  refine ⟨o, ?_⟩
  have := kcM (l' := Oz.removeR l i) (i' := q) (fRm i) f (fun a ha => by
   have hb := f.back a ha
   have e : fRm i a = a := if_neg (by omega)
   rw [← kdM hi hb.1 (by omega)]
   exact ⟨by omega, by omega, rfl⟩)
  rwa [kd5 (f := fRm i) (s := s) (fun a ha => if_neg (by have := f.back a ha; omega))] at this
 ·
  rw [if_neg hq] at hs
  cases hl : l[q + 1]? with
  | none => rw [hl] at hs; cases hs
  | some t =>
   rw [hl, Option.map_some] at hs
   injection hs with hs
   subst hs
   obtain ⟨⟨o, f⟩, hn⟩ := h (q + 1) t (by omega) hl
   refine ⟨o, kcM (fRm i) f (fun a ha => ?_)⟩
   have hb := f.back a ha
   have hne : a ≠ (i : Int) := fun e => hn (e ▸ ha)
   rw [kdM hi hb.1 hne]
   unfold fRm
   split <;> exact ⟨by omega, by omega, rfl⟩
theorem kc5 (n : List UInt8) : 1 ≤ kao n := by
 unfold kao
 split
 ·
  omega
 ·
  split
  ·
   omega
  ·
   split
   ·
    omega
   ·
    split <;> omega
theorem kbs (a b : List St) : kap (a ++ b) = kap a + kap b := by
 unfold kap
 rw [List.map_append, List.sum_append]
theorem kcy (s : St) (l : List St) : kap (s :: l) = kao s.op + kap l := by
 unfold kap
 rw [List.map_cons, List.sum_cons]
theorem keQ (f : Int → Int) (l : List St) : kap (l.map (Oz.mapA f)) = kap l := by
 unfold kap
 rw [List.map_map]
 rfl
theorem kbl : ∀ l : List St, 0 ≤ kap l
 | [] => by unfold kap; simp
 | s :: l => by
  rw [kcy]
  have := kc5 s.op
  have := kbl l
  omega
theorem kdi {l : List St} {i : Nat} {s : St} (h : l[i]? = some s) : kap l = kap (l.take i) + kao s.op + kap (l.drop (i + 1)) := by
 have hi := (List.getElem?_eq_some_iff.1 h)
 conv => lhs; rw [← List.take_append_drop i l]
 rw [List.drop_eq_getElem_cons hi.1, kbs, kcy, hi.2]
 omega
theorem kdW {l : List St} {i : Nat} {s : St} (h : l[i]? = some s) : kap (Oz.removeR l i) = kap l - kao s.op := by
 rw [kdi h]
 unfold Oz.removeR
 rw [kbs]
 have := keQ (fun a => if (i : Int) < a then a - 1 else a) (l.drop (i + 1))
 omega
theorem keo {l : List St} {i : Nat} {s : St} (h : l[i]? = some s) (t : St) : kap (l.set i t) = kap l - kao s.op + kao t.op := by
 have hi := (gH h).1
 have h2 : (l.set i t)[i]? = some t := List.getElem?_set_self hi
 rw [kdi h2, kdi h, List.take_set_of_le (Nat.le_refl i), List.drop_set_of_lt (by omega)]
 omega
theorem kdX {l : List St} {j : Nat} (s : St) : kap (Oz.insertR l j s) = kap l + kao s.op := by
 unfold Oz.insertR
 rw [kbs, kcy, keQ]
 conv => rhs; rw [← List.take_append_drop j l, kbs]
 omega
theorem kl6 {l : List St} {k : Nat} (h : k < l.length) : kap (l.take k) < kap l := by
 conv => rhs; rw [← List.take_append_drop k l, kbs, List.drop_eq_getElem_cons h, kcy]
 have := kc5 l[k].op
 have := kbl (l.drop (k + 1))
 omega
def ka3 (l : List St) : Int := tyAt l ((l.length : Int) - 1)
theorem kcr {l : List St} {i : Nat} (h : i + 1 = l.length) : ka3 l = tyAt l (i : Int) := by unfold ka3; rw [← h]; congr 1; omega
theorem kjb {l : List St} {i : Nat} (hi : i + 1 < l.length) : ka3 (Oz.removeR l i) = ka3 l := by
 obtain ⟨n, hn⟩ : ∃ n, n + 2 = l.length := ⟨l.length - 2, by omega⟩
 rw [kcr (i := n) (by rw [kcS (by omega)]; omega), kcr (i := n + 1) (by omega)]
 have h := kdM (l := l) (i := i) (by omega) (a := ((n + 1 : Nat) : Int)) (by omega) (by omega)
 rw [← h]
 congr 1
 unfold fRm
 rw [if_pos (by omega)]
 omega
structure Kept57 (l l' : List St) : Prop where
 fit : Fit l'
 pos : 1 ≤ l'.length
 max : l'.length ≤ l.length
 last : ka3 l' = ka3 l
theorem kdR {l : List St} {i : Nat} (hi : i + 1 < l.length) (h : ∀ (q : Nat) (s : St), q ≠ i → l[q]? = some s → (∃ o, Fine l q s o) ∧ (i : Int) ∉ s.args) : Kept57 l (Oz.removeR l i) :=
 ⟨kkj (by omega) h, by rw [kcS (by omega)]; omega, by rw [kcS (by omega)]; omega, kjb hi⟩
theorem kjt {l : List St} {i j : Nat} (hi : i < l.length) (q : Nat) : (l.take (i + 1) ++ (l.drop (i + 1)).map (Oz.mapA (fRp i j)))[q]? = if q ≤ i then l[q]? else (l[q]?).map (Oz.mapA (fRp i j)) := by
 have hl : (l.take (i + 1)).length = i + 1 := by rw [List.length_take]; omega
 by_cases h : q ≤ i
 ·
  rw [if_pos h, List.getElem?_append_left (by omega), List.getElem?_take, if_pos (by omega)]
 ·
  rw [if_neg h, List.getElem?_append_right (by omega), hl, List.getElem?_map, List.getElem?_drop, show i + 1 + (q - (i + 1)) = q by omega]
theorem kdv {l l' : List St} {i j : Nat} (hji : j < i) (hi : i < l.length) (h : ∀ (q : Nat) (s : St), q ≠ i → l[q]? = some s → ∃ o, Fine l q s o) (ht : tyAt l (j : Int) = tyAt l (i : Int)) (hr : Oz.replaceR l i j = some l') :
  Kept57 l l' ∧ ∀ s, l[i]? = some s → kap l' ≤ kap l - kao s.op := by
 unfold Oz.replaceR at hr
 split at hr
 ·
  cases hr
 split at hr
 ·
  rename_i hlast
  injection hr with hr
  subst hr
  have hlen : (l.take (j + 1)).length = j + 1 := by rw [List.length_take]; omega
  have hty : ∀ q : Nat, q ≤ j → tyAt (l.take (j + 1)) (q : Int) = tyAt l (q : Int) := fun q hq => by
   rw [kaK, kaK, List.getElem?_take, if_pos (by omega)]
  refine ⟨⟨fun q s hs => ?_, by omega, by omega, ?_⟩, fun s hs => ?_⟩
  ·
   have hq : q < j + 1 := by rw [← hlen]; exact (gH hs).1
   rw [List.getElem?_take, if_pos hq] at hs
   obtain ⟨o, f⟩ := h q s (by omega) hs
   refine ⟨o, keM f (fun a ha => ?_)⟩
   have hb := f.back a ha
   obtain ⟨b, rfl⟩ := kdu hb.1
   exact hty b (by omega)
  ·
   rw [kcr (i := j) (by omega), kcr (i := i) hlast, hty j (Nat.le_refl j), ht]
  ·
   rw [kdi hs, List.drop_of_length_le (by omega)]
   have h1 : kap (l.take (j + 1)) ≤ kap (l.take i) := by
    by_cases e : j + 1 = i
    ·
     rw [e]; exact Int.le_refl _
    ·
     have h2 := kl6 (l := l.take i) (k := j + 1) (by rw [List.length_take]; omega)
     rw [List.take_take, Nat.min_eq_left (by omega)] at h2
     omega
   have h3 : kap ([] : List St) = 0 := rfl
   omega
 ·
  rename_i hlast
  injection hr with hr
  subst hr
  have he : (l.drop (i + 1)).map (Oz.mapA fun a => if a = (i : Int) then (j : Int) else a) = (l.drop (i + 1)).map (Oz.mapA (fRp i j)) := rfl
  rw [he]
  obtain ⟨M, hM⟩ := xE (l.take (i + 1) ++ (l.drop (i + 1)).map (Oz.mapA (fRp i j)))
  have hg : ∀ q, M[q]? = if q ≤ i then l[q]? else (l[q]?).map (Oz.mapA (fRp i j)) := fun q => by rw [hM]; exact kjt hi q
  have hMl : M.length = l.length := by rw [hM, List.length_append, List.length_take, List.length_map, List.length_drop]; omega
  have hcost : kap M = kap l := by
   rw [hM, kbs, keQ, ← kbs, List.take_append_drop]
  have hty : ∀ q : Nat, tyAt M (q : Int) = tyAt l (q : Int) := fun q => by
   rw [kaK, kaK, hg]
   split
   ·
    rfl
   ·
    cases l[q]? <;> rfl
  rw [← hM]
  have hfit : ∀ (q : Nat) (s : St), q ≠ i → M[q]? = some s → (∃ o, Fine M q s o) ∧ (i : Int) ∉ s.args := fun q s hq hs => by
   rw [hg] at hs
   by_cases hqi : q ≤ i
   ·
    rw [if_pos hqi] at hs
    obtain ⟨o, f⟩ := h q s hq hs
    refine ⟨⟨o, keM f (fun a ha => ?_)⟩, fun hm => ?_⟩
    ·
     obtain ⟨b, rfl⟩ := kdu (f.back a ha).1
     exact hty b
    ·
     have := f.back _ hm
     omega
   ·
    rw [if_neg hqi] at hs
    cases hl : l[q]? with
    | none => rw [hl] at hs; cases hs
    | some t =>
     rw [hl, Option.map_some] at hs
     injection hs with hs
     subst hs
     obtain ⟨o, f⟩ := h q t hq hl
     refine ⟨⟨o, kcM (fRp i j) f (fun a ha => ?_)⟩, fun hm => ?_⟩
     ·
      have hb := f.back a ha
      unfold fRp
      by_cases e : a = (i : Int)
      ·
       rw [if_pos e, e, hty j, ht]
       exact ⟨by omega, by omega, rfl⟩
      ·
       rw [if_neg e]
       obtain ⟨b, rfl⟩ := kdu hb.1
       exact ⟨hb.1, hb.2, hty b⟩
     ·
      unfold Oz.mapA at hm
      obtain ⟨a, ha, hfa⟩ := List.mem_map.1 hm
      unfold fRp at hfa
      by_cases e : a = (i : Int)
      ·
       rw [if_pos e] at hfa; omega
      ·
       rw [if_neg e] at hfa; exact e hfa
  have hk := kdR (l := M) (i := i) (by omega) hfit
  refine ⟨⟨hk.fit, hk.pos, by rw [← hMl]; exact hk.max, hk.last.trans ?_⟩, fun s hs => ?_⟩
  ·
   unfold ka3
   rw [hMl]
   obtain ⟨b, hb⟩ := kdu (a := (l.length : Int) - 1) (by omega)
   rw [hb]
   exact hty b
  ·
   have hMi : M[i]? = some s := by rw [hg, if_pos (Nat.le_refl i)]; exact hs
   rw [kdW hMi, hcost]
   exact Int.le_refl _
theorem kch {l : List St} {j : Nat} {s : St} (hj : j ≤ l.length) {a : Int} (ha : 0 ≤ a) : tyAt (Oz.insertR l j s) (fIn j a) = tyAt l a := by
 obtain ⟨q, rfl⟩ := kdu ha
 unfold fIn
 by_cases h : (j : Int) ≤ (q : Int)
 ·
  rw [if_pos h, show (q : Int) + 1 = ((q + 1 : Nat) : Int) by omega, kaK, kaK, kbq l j s hj, if_neg (by omega), if_neg (by omega), show q + 1 - 1 = q by omega]
  cases l[q]? <;> rfl
 ·
  rw [if_neg h, kaK, kaK, kbq l j s hj, if_pos (by omega)]
theorem kei {l : List St} {j : Nat} {s : St} (hj : j ≤ l.length) (h : Fit l) (hs : ∃ o, Fine l j s o) : Fit (Oz.insertR l j s) := fun q t ht => by
 rw [kbq l j s hj] at ht
 have hlow : ∀ (q : Nat) (t : St), q ≤ j → (∃ o, Fine l q t o) → ∃ o, Fine (Oz.insertR l j s) q t o := fun q t hq hf => by
  obtain ⟨o, f⟩ := hf
  have := kcM (l' := Oz.insertR l j s) (i' := q) (fIn j) f (fun a ha => by
   have hb := f.back a ha
   have e : fIn j a = a := if_neg (by omega)
   rw [← kch (s := s) hj hb.1]
   exact ⟨by omega, by omega, rfl⟩)
  rw [kd5 (f := fIn j) (s := t) (fun a ha => if_neg (by have := f.back a ha; omega))] at this
  exact ⟨o, this⟩
 by_cases hq : q < j
 ·
  rw [if_pos hq] at ht
  exact hlow q t (by omega) (h q t ht)
 ·
  rw [if_neg hq] at ht
  by_cases hqj : q = j
  ·
   rw [if_pos hqj] at ht
   injection ht with ht
   subst ht hqj
   exact hlow q s (Nat.le_refl q) hs
  ·
   rw [if_neg hqj] at ht
   cases hl : l[q - 1]? with
   | none => rw [hl] at ht; cases ht
   | some x =>
    rw [hl, Option.map_some] at ht
    injection ht with ht
    subst ht
    obtain ⟨o, f⟩ := h (q - 1) x hl
    refine ⟨o, kcM (fIn j) f (fun a ha => ?_)⟩
    have hb := f.back a ha
    rw [kch hj hb.1]
    unfold fIn
    split <;> exact ⟨by omega, by omega, rfl⟩
theorem khr {l : List St} {j : Nat} {t : St} (hj : j < l.length) (a : Int) (h : a ≠ (j : Int) ∨ t.ty = tyAt l (j : Int)) (ha : 0 ≤ a) : tyAt (l.set j t) a = tyAt l a := by
 obtain ⟨q, rfl⟩ := kdu ha
 by_cases e : q = j
 ·
  subst e
  rcases h with h | h
  ·
   exact absurd rfl h
  ·
   rw [← h, kaK, List.getElem?_set_self hj]
   rfl
 ·
  rw [kaK, kaK, List.getElem?_set_ne (fun h => e h.symm)]
theorem kcL {l : List St} {j q : Nat} {t s : St} {o : OpI} (hj : j < l.length) (f : Fine l q s o) (h : (j : Int) ∉ s.args ∨ t.ty = tyAt l (j : Int)) : Fine (l.set j t) q s o :=
 keM f (fun a ha => khr hj a (h.elim (fun h => .inl (fun e => h (e ▸ ha))) .inr) (f.back a ha).1)
theorem keh {l : List St} {j : Nat} {t : St} (hj : j < l.length) (h : j + 1 < l.length ∨ t.ty = tyAt l (j : Int)) : ka3 (l.set j t) = ka3 l := by
 unfold ka3
 rw [List.length_set]
 exact khr hj _ (h.elim (fun h => .inl (by omega)) .inr) (by omega)
theorem kh1 {l : List St} {j : Nat} {t : St} (hj : j < l.length) (h : Fit l) (ht : ∃ o, Fine l j t o) (hty : t.ty = tyAt l (j : Int)) : Kept57 l (l.set j t) := by
 refine ⟨fun q s hs => ?_, by rw [List.length_set]; omega, by rw [List.length_set]; exact Nat.le_refl _, keh hj (.inr hty)⟩
 by_cases e : q = j
 ·
  subst e
  rw [List.getElem?_set_self hj] at hs
  injection hs with hs
  subst hs
  obtain ⟨o, f⟩ := ht
  exact ⟨o, kcL hj f (.inr hty)⟩
 ·
  rw [List.getElem?_set_ne (fun h => e h.symm)] at hs
  obtain ⟨o, f⟩ := h q s hs
  exact ⟨o, kcL hj f (.inr hty)⟩
def cnt (j : Int) (args : List Int) : Int := ((args.filter fun a => a == j).length : Int)
theorem kaC (j : Int) (args : List Int) : 0 ≤ cnt j args := by unfold cnt; omega
theorem cnt_pos {j : Int} {args : List Int} : j ∈ args ↔ 1 ≤ cnt j args := by
 unfold cnt
 constructor
 ·
  intro h
  have : j ∈ args.filter fun a => a == j := List.mem_filter.2 ⟨h, by simp⟩
  have := List.length_pos_of_mem this
  omega
 ·
  intro h
  obtain ⟨x, hx⟩ := List.exists_mem_of_length_pos (l := args.filter fun a => a == j) (by omega)
  have := List.mem_filter.1 hx
  have e : x = j := by simpa using this.2
  exact e ▸ this.1
theorem bump_at {z : List Int} {a : Int} {j : Nat} (ha : 0 ≤ a) (haz : a < z.length) : (bump z a).getD j 0 = z.getD j 0 + cnt (j : Int) [a] := by
 unfold bump cnt
 rw [List.getD_eq_getElem?_getD, List.getD_eq_getElem?_getD]
 by_cases e : a = (j : Int)
 ·
  subst e
  rw [Int.toNat_natCast, List.getElem?_set_self (by omega)]
  simp
 ·
  have h2 : (a == (j : Int)) = false := beq_eq_false_iff_ne.2 e
  rw [List.getElem?_set_ne (by omega)]
  simp [h2]
theorem kic {n : Nat} {j : Nat} : ∀ (args z : List Int), z.length = n → (∀ a ∈ args, 0 ≤ a ∧ a < (n : Int)) → (bumps z args).getD j 0 = z.getD j 0 + cnt (j : Int) args
 | [], z, _, _ => by unfold bumps cnt; simp
 | a :: args, z, hz, h => by
  have h0 := h a (List.mem_cons_self ..)
  have ih := kic (j := j) args (bump z a) ((kid z a).trans hz) (fun b hb => h b (List.mem_cons_of_mem _ hb))
  have e : bumps z (a :: args) = bumps (bump z a) args := rfl
  rw [e, ih, bump_at h0.1 (by omega)]
  have : cnt (j : Int) (a :: args) = cnt (j : Int) [a] + cnt (j : Int) args := by
   unfold cnt
   rw [show a :: args = [a] ++ args from rfl, List.filter_append, List.length_append]
   omega
  omega
theorem keX {l : List St} (h : ∀ s ∈ l, ∀ a ∈ s.args, 0 ≤ a ∧ a < (l.length : Int)) (j : Nat) : (kag l).getD j 0 = (l.map fun s => cnt (j : Int) s.args).sum := by
 have hg : ∀ (t : List St) (z : List Int), z.length = l.length → (∀ s ∈ t, ∀ a ∈ s.args, 0 ≤ a ∧ a < (l.length : Int)) → (t.foldl (fun z s => bumps z s.args) z).getD j 0 = z.getD j 0 + (t.map fun s => cnt (j : Int) s.args).sum := by
  intro t
  induction t with
  | nil => intro z _ _; simp
  | cons s t ih =>
   intro z hz ht
   rw [List.foldl_cons, ih (bumps z s.args) ((kdJ _ _).trans hz) (fun s' hs' => ht s' (List.mem_cons_of_mem _ hs')), kic s.args z hz (ht s (List.mem_cons_self ..)), List.map_cons, List.sum_cons]
   omega
 unfold kag ka6
 rw [List.take_length, hg l _ (by simp) h]
 simp [List.getD_eq_getElem?_getD, List.getElem?_replicate]
 split <;> simp
theorem kbT {α : Type} (f : α → Int) : ∀ (l : List α), (∀ x ∈ l, 0 ≤ f x) → 0 ≤ (l.map f).sum
 | [], _ => by simp
 | x :: l, h => by
  rw [List.map_cons, List.sum_cons]
  have := h x (List.mem_cons_self ..)
  have := kbT f l (fun y hy => h y (List.mem_cons_of_mem _ hy))
  omega
theorem kbR {α : Type} (f : α → Int) {l : List α} {i : Nat} {x : α} (h : l[i]? = some x) : (l.map f).sum = ((l.take i).map f).sum + f x + ((l.drop (i + 1)).map f).sum := by
 have hi := (List.getElem?_eq_some_iff.1 h)
 conv => lhs; rw [← List.take_append_drop i l]
 rw [List.drop_eq_getElem_cons hi.1, List.map_append, List.sum_append, List.map_cons, List.sum_cons, hi.2]
 omega
section
variable {l : List St} (hb : ∀ s ∈ l, ∀ a ∈ s.args, 0 ≤ a ∧ a < (l.length : Int))
include hb
theorem kk5 {j : Nat} (h : ¬ 0 < (kag l).getD j 0) {q : Nat} {s : St} (hs : l[q]? = some s) : (j : Int) ∉ s.args := fun hm => by
 rw [keX hb, kbR _ hs] at h
 have h1 := cnt_pos.1 hm
 have h2 := kbT (fun s : St => cnt (j : Int) s.args) (l.take q) (fun x _ => kaC _ _)
 have h3 := kbT (fun s : St => cnt (j : Int) s.args) (l.drop (q + 1)) (fun x _ => kaC _ _)
 omega
theorem keZ {i j : Nat} {s : St} (h : (kag l).getD j 0 = 1) (hs : l[i]? = some s) (hj : (j : Int) ∈ s.args) {q : Nat} {t : St} (hq : q ≠ i) (ht : l[q]? = some t) : (j : Int) ∉ t.args := fun hm => by
 rw [keX hb, kbR _ hs] at h
 have h1 := cnt_pos.1 hj
 have h4 := cnt_pos.1 hm
 have hn := kbT (fun s : St => cnt (j : Int) s.args)
 have h2 := hn (l.take i) (fun x _ => kaC _ _)
 have h3 := hn (l.drop (i + 1)) (fun x _ => kaC _ _)
 by_cases hlt : q < i
 ·
  have e : (l.take i)[q]? = some t := by rw [List.getElem?_take, if_pos hlt]; exact ht
  have h5 := kbR (fun s : St => cnt (j : Int) s.args) e
  have h6 := hn ((l.take i).take q) (fun x _ => kaC _ _)
  have h7 := hn ((l.take i).drop (q + 1)) (fun x _ => kaC _ _)
  omega
 ·
  have e : (l.drop (i + 1))[q - (i + 1)]? = some t := by rw [List.getElem?_drop, show i + 1 + (q - (i + 1)) = q by omega]; exact ht
  have h5 := kbR (fun s : St => cnt (j : Int) s.args) e
  have h6 := hn ((l.drop (i + 1)).take (q - (i + 1))) (fun x _ => kaC _ _)
  have h7 := hn ((l.drop (i + 1)).drop (q - (i + 1) + 1)) (fun x _ => kaC _ _)
  omega
theorem once_one {i j : Nat} {s : St} (h : (kag l).getD j 0 = 1) (hs : l[i]? = some s) {k m : Nat} (hk : s.args[k]? = some (j : Int)) (hkm : k ≠ m) : s.args[m]? ≠ some (j : Int) := fun hm => by
 rw [keX hb, kbR _ hs] at h
 have hn := kbT (fun s : St => cnt (j : Int) s.args)
 have h2 := hn (l.take i) (fun x _ => kaC _ _)
 have h3 := hn (l.drop (i + 1)) (fun x _ => kaC _ _)
 have h4 : cnt (j : Int) s.args ≤ 1 := by omega
 have hsum : ∀ args : List Int, cnt (j : Int) args = (args.map fun a => cnt (j : Int) [a]).sum := by
  intro args
  induction args with
  | nil => rfl
  | cons a args ih =>
   have : cnt (j : Int) (a :: args) = cnt (j : Int) [a] + cnt (j : Int) args := by
    unfold cnt
    rw [show a :: args = [a] ++ args from rfl, List.filter_append, List.length_append]
    omega
   rw [this, ih, List.map_cons, List.sum_cons]
 rw [hsum] at h4
 have h1c : cnt (j : Int) [(j : Int)] = 1 := by unfold cnt; simp
 rw [kbR (fun a => cnt (j : Int) [a]) hk] at h4
 have hn2 := kbT (fun a : Int => cnt (j : Int) [a])
 have h5 := hn2 (s.args.take k) (fun x _ => kaC _ _)
 have h6 := hn2 (s.args.drop (k + 1)) (fun x _ => kaC _ _)
 by_cases hlt : m < k
 ·
  have e : (s.args.take k)[m]? = some (j : Int) := by rw [List.getElem?_take, if_pos hlt]; exact hm
  have h7 := kbR (fun a => cnt (j : Int) [a]) e
  have h8 := hn2 ((s.args.take k).take m) (fun x _ => kaC _ _)
  have h9 := hn2 ((s.args.take k).drop (m + 1)) (fun x _ => kaC _ _)
  omega
 ·
  have e : (s.args.drop (k + 1))[m - (k + 1)]? = some (j : Int) := by rw [List.getElem?_drop, show k + 1 + (m - (k + 1)) = m by omega]; exact hm
  have h7 := kbR (fun a => cnt (j : Int) [a]) e
  have h8 := hn2 ((s.args.drop (k + 1)).take (m - (k + 1))) (fun x _ => kaC _ _)
  have h9 := hn2 ((s.args.drop (k + 1)).drop (m - (k + 1) + 1)) (fun x _ => kaC _ _)
  omega
end
structure Done57 (l l' : List St) : Prop where
 check : kac l' = 0
 cost : kap l' < kap l
 last : ka3 l' = ka3 l
theorem ke2 {l l' : List St} (hc : kac l = 0) (k : Kept57 l l') (h : kap l' < kap l) : Done57 l l' :=
 ⟨check_fit.2 ⟨k.pos, Nat.le_trans k.max (check_fit.1 hc).2.1, k.fit⟩, h, k.last⟩
theorem keT {s : St} (h : s.args.length = 2) : s.args = [Oz.arg s 0, Oz.arg s 1] := by
 unfold Oz.arg
 match hm : s.args, h with
 | [a, b], _ => rfl
theorem kcd {l : List St} {i : Nat} {s : St} {o : OpI} (f : Fine l i s o) (hc : kaG s.op = false) : s.args.map (tyAt l) = o.args := by
 have h := f.typed
 unfold ka7 at h
 rw [if_neg (by rw [hc]; decide)] at h
 exact of_decide_eq_true h
theorem kbV {l : List St} {i : Nat} {op : List UInt8} {args : List Int} {num : Int} {text : List UInt8} {ty : Int} {o : OpI} (ho : opR op = some o) (hc : kaG op = false) (hb : ∀ a ∈ args, 0 ≤ a ∧ a < (i : Int)) (ht : args.map (tyAt l) = o.args) (hty : ty = o.res) (hn : 0 ≤ num) (hnn : 0 < num → op = kab) (htx : text ≠ [] → o.text = true) (hp : o.regex = true → patE text = 0) : Fine l i (Oz.mk op args num text ty) o :=
 ⟨ho, by have := congrArg List.length ht; rw [List.length_map] at this; exact this, hb, hn, hnn, htx, hty, by
  unfold ka7
  show (if kaG op = true then _ else decide (args.map (tyAt l) = o.args)) = true
  rw [if_neg (by rw [hc]; decide)]
  exact decide_eq_true ht, hp⟩
theorem kaB {l : List St} (hc : kac l = 0) {i : Nat} {s : St} (hs : l[i]? = some s) {o : OpI} (ho : opR s.op = some o) : Fine l i s o := by
 obtain ⟨o', f⟩ := (check_fit.1 hc).2.2 i s hs
 have := f.op
 rw [ho] at this
 injection this with this
 exact this ▸ f
theorem bd57 {l : List St} (hc : kac l = 0) : ∀ s ∈ l, ∀ a ∈ s.args, 0 ≤ a ∧ a < (l.length : Int) := fun s hs => (kbC hc s hs).2
theorem kfr {l l' : List St} (hc : kac l = 0) {i j : Nat} {s : St} (hs : l[i]? = some s) (hji : j < i) (hty : tyAt l (j : Int) = s.ty) (hr : Oz.replaceR l i j = some l') : Done57 l l' := by
 have hil := (gH hs).1
 obtain ⟨k, hk⟩ := kdv hji hil (fun q t _ ht => (check_fit.1 hc).2.2 q t ht) (by rw [hty, kbM hs]) hr
 have := hk s hs
 have := kc5 s.op
 exact ke2 hc k (by omega)
theorem kfq {l : List St} (hc : kac l = 0) {i : Nat} {s t : St} (hs : l[i]? = some s) (ht : ∃ o, Fine l i t o) (hty : t.ty = s.ty) (hcost : kao t.op < kao s.op) : Done57 l (l.set i t) := by
 have hil := (gH hs).1
 refine ke2 hc (kh1 hil (check_fit.1 hc).2.2 ht (by rw [hty, kbM hs])) ?_
 rw [keo hs]
 omega
theorem kas {c : Bool} {x : Option (List St)} {y : List St} (h : (if c then x else none) = some y) : c = true ∧ x = some y := by
 cases c with
 | false => cases h
 | true => exact ⟨rfl, h⟩
theorem kbE {c : Prop} [Decidable c] {x : Option (List St)} {y : List St} (h : (if c then x else none) = some y) : c ∧ x = some y := by
 by_cases hc : c
 ·
  rw [if_pos hc] at h; exact ⟨hc, h⟩
 ·
  rw [if_neg hc] at h; cases h
theorem kbi {a b : Option (List St)} {y : List St} (h : Oz.orElse a b = some y) : a = some y ∨ b = some y := by
 cases a with
 | none => exact .inr h
 | some x => exact .inl h
section
variable {l l' : List St} (hc : kac l = 0) {i : Nat} {s : St} (hs : l[i]? = some s)
include hc hs
theorem kaO {o : OpI} (f : Fine l i s o) {k : Nat} (hk : k < s.args.length) : ∃ (j : Nat) (t : St), Oz.arg s k = (j : Int) ∧ j < i ∧ l[j]? = some t ∧ Oz.at_ l (j : Int) = t ∧ s.args[k]? = some (j : Int) := by
 obtain ⟨j, t, h1, h2, h3, h4, h5⟩ := kah hc hs hk
 exact ⟨j, t, h4, h2, h3, h5, h1⟩
theorem kkc (hr : Oz.shareAt l i = some l') : Done57 l l' := by
 unfold Oz.shareAt at hr
 rw [keD, kad hs] at hr
 cases hf : fk l i (kbc s) with
 | none => rw [hf] at hr; cases hr
 | some j =>
  rw [hf] at hr
  have hji := fk_lt hf
  have hil := (gH hs).1
  obtain ⟨t, ht⟩ : ∃ t, l[j]? = some t := ⟨_, List.getElem?_eq_getElem (by omega)⟩
  have hk : kbc (Oz.at_ l j) = kbc s := by
   unfold fk at hf
   have := List.find?_some hf
   exact of_decide_eq_true this
  rw [kad ht] at hk
  have hop : t.op = s.op := congrArg KeyS.op hk
  obtain ⟨o, f⟩ := (check_fit.1 hc).2.2 i s hs
  have ft := kaB hc ht (by rw [hop]; exact f.op)
  exact kfr hc hs hji (by rw [kbM ht, ft.ty, f.ty]) hr
theorem kdP {n : Int} (hn : 0 ≤ n) (hty : s.ty = 1) (hcost : 1 < kao s.op) : Done57 l (l.set i (Oz.mk kab [] n [] 1)) :=
 kfq hc hs ⟨⟨[], 1, false, false⟩, kbV (by show (_ : Option OpI) = _; kernel_rfl) (by decide) (fun a ha => by cases ha) rfl rfl hn (fun _ => rfl) (fun h => absurd rfl h) (fun h => by cases h)⟩ hty.symm (by
  show kao kab < kao s.op
  have : kao kab = 1 := by show (_ : Int) = _; kernel_rfl
  omega)
theorem kcB (op : List UInt8) (hop : s.op = op) (ho : opR op = some ⟨[1, 1], 1, false, false⟩) (hcost : kao op = 2) (hcmp : ∀ a b n : Int, 0 ≤ a → 0 ≤ b → Oz.computeR op a b = some n → 0 ≤ n) (hr : (match Oz.numR l (Oz.arg s 0), Oz.numR l (Oz.arg s 1) with
  | some a, some b => (Oz.computeR op a b).map fun n => l.set i (Oz.mk kab [] n [] 1)
  | _, _ => none) = some l') : Done57 l l' := by
 have f := kaB hc hs (o := ⟨[1, 1], 1, false, false⟩) (by rw [hop]; exact ho)
 have hl : s.args.length = 2 := f.len
 obtain ⟨j0, t0, e0, _, ht0, a0, _⟩ := kaO hc hs f (k := 0) (by omega)
 obtain ⟨j1, t1, e1, _, ht1, a1, _⟩ := kaO hc hs f (k := 1) (by omega)
 obtain ⟨o0, f0⟩ := (check_fit.1 hc).2.2 j0 t0 ht0
 obtain ⟨o1, f1⟩ := (check_fit.1 hc).2.2 j1 t1 ht1
 rw [e0, e1] at hr
 unfold Oz.numR at hr
 rw [a0, a1] at hr
 by_cases h0 : t0.op = kab ∧ t0.num ≤ Oz.maxLn
 ·
  rw [if_pos h0] at hr
  by_cases h1 : t1.op = kab ∧ t1.num ≤ Oz.maxLn
  ·
   rw [if_pos h1] at hr
   dsimp only at hr
   cases hcp : Oz.computeR op t0.num t1.num with
   | none => rw [hcp] at hr; cases hr
   | some n =>
    rw [hcp] at hr
    injection hr with hr
    subst hr
    exact kdP hc hs (hcmp _ _ _ f0.num f1.num hcp) f.ty (by rw [hop, hcost]; decide)
  ·
   rw [if_neg h1] at hr; cases hr
 ·
  rw [if_neg h0] at hr; cases hr
theorem klY (hr : Oz.foldR l i = some l') : Done57 l l' := by
 unfold Oz.foldR at hr
 rw [kad hs] at hr
 dsimp only at hr
 by_cases h0 : s.op = Oz.oMin ∨ s.op = Oz.oMax ∨ s.op = Oz.oAdd ∨ s.op = Oz.oSub ∨ s.op = Oz.oMul
 ·
  rw [if_pos h0] at hr
  rcases h0 with h | h | h | h | h <;> rw [h] at hr
  ·
   exact kcB hc hs Oz.oMin h (by show (_ : Option OpI) = _; kernel_rfl) (by show (_ : Int) = _; kernel_rfl) (fun a b n ha hb hcp => by
    unfold Oz.computeR at hcp
    rw [if_pos rfl] at hcp
    injection hcp with hcp
    omega) hr
  ·
   exact kcB hc hs Oz.oMax h (by show (_ : Option OpI) = _; kernel_rfl) (by show (_ : Int) = _; kernel_rfl) (fun a b n ha hb hcp => by
    unfold Oz.computeR at hcp
    rw [if_neg (by decide), if_pos rfl] at hcp
    injection hcp with hcp
    omega) hr
  ·
   exact kcB hc hs Oz.oAdd h (by show (_ : Option OpI) = _; kernel_rfl) (by show (_ : Int) = _; kernel_rfl) (fun a b n ha hb hcp => by
    unfold Oz.computeR at hcp
    rw [if_neg (by decide), if_neg (by decide), if_pos rfl] at hcp
    split at hcp
    ·
     injection hcp with hcp; omega
    ·
     cases hcp) hr
  ·
   exact kcB hc hs Oz.oSub h (by show (_ : Option OpI) = _; kernel_rfl) (by show (_ : Int) = _; kernel_rfl) (fun a b n ha hb hcp => by
    unfold Oz.computeR at hcp
    rw [if_neg (by decide), if_neg (by decide), if_neg (by decide), if_pos rfl] at hcp
    split at hcp
    ·
     rename_i hcd
     simp only [Bool.and_eq_true, decide_eq_true_eq] at hcd
     injection hcp with hcp; omega
    ·
     cases hcp) hr
  ·
   exact kcB hc hs Oz.oMul h (by show (_ : Option OpI) = _; kernel_rfl) (by show (_ : Int) = _; kernel_rfl) (fun a b n ha hb hcp => by
    unfold Oz.computeR at hcp
    rw [if_neg (by decide), if_neg (by decide), if_neg (by decide), if_neg (by decide), if_pos rfl] at hcp
    split at hcp
    ·
     injection hcp with hcp; rw [← hcp]; exact Int.mul_nonneg ha hb
    ·
     cases hcp) hr
 rw [if_neg h0] at hr
 by_cases h1 : s.op = Oz.oLen
 ·
  rw [if_pos h1] at hr
  obtain ⟨_, hr⟩ := kas hr
  injection hr with hr
  subst hr
  have f := kaB hc hs (o := ⟨[3], 1, false, false⟩) (by rw [h1]; show (_ : Option OpI) = _; kernel_rfl)
  exact kdP hc hs (by omega) f.ty (by rw [h1]; have : kao Oz.oLen = 2 := (by show (_ : Int) = _; kernel_rfl); omega)
 rw [if_neg h1] at hr
 by_cases h2 : s.op = Oz.oLines
 ·
  rw [if_pos h2] at hr
  obtain ⟨_, hr⟩ := kas hr
  injection hr with hr
  subst hr
  have f := kaB hc hs (o := ⟨[3], 1, false, false⟩) (by rw [h2]; show (_ : Option OpI) = _; kernel_rfl)
  exact kdP hc hs (by omega) f.ty (by rw [h2]; have : kao Oz.oLines = 2 := (by show (_ : Int) = _; kernel_rfl); omega)
 rw [if_neg h2] at hr
 by_cases h3 : s.op = Oz.oCat
 ·
  rw [if_pos h3] at hr
  obtain ⟨_, hr⟩ := kas hr
  injection hr with hr
  subst hr
  have f := kaB hc hs (o := ⟨[3, 3], 3, false, false⟩) (by rw [h3]; show (_ : Option OpI) = _; kernel_rfl)
  refine kfq hc hs ⟨⟨[], 3, true, false⟩, kbV (by show (_ : Option OpI) = _; kernel_rfl) (by decide) (fun a ha => by cases ha) rfl rfl (Int.le_refl 0) (fun h => by omega) (fun _ => rfl) (fun h => by cases h)⟩ f.ty.symm ?_
  show kao kai < kao s.op
  rw [h3]
  have h4 : kao kai = 1 := by show (_ : Int) = _; kernel_rfl
  have h5 : kao Oz.oCat = 8 := by show (_ : Int) = _; kernel_rfl
  omega
 rw [if_neg h3] at hr
 cases hr
theorem kbg {op : List UInt8} {o : OpI} (hop : s.op = op) (ho : opR op = some o) (hcm : kaG op = false) (k : Nat) (hk : o.args[k]? = some o.res) (hr : Oz.replaceR l i (Oz.arg s k).toNat = some l') : Done57 l l' := by
 have f := kaB hc hs (by rw [hop]; exact ho)
 have hkl := (gH hk).1
 obtain ⟨j, t, e, hji, ht, _, ha⟩ := kaO hc hs f (k := k) (by rw [f.len]; exact hkl)
 rw [e, Int.toNat_natCast] at hr
 have hty := kcd f (by rw [hop]; exact hcm)
 have h1 : (s.args.map (tyAt l))[k]? = some (tyAt l (j : Int)) := by rw [List.getElem?_map, ha]; rfl
 rw [hty, hk] at h1
 injection h1 with h1
 exact kfr hc hs hji (by rw [← h1, f.ty]) hr
theorem khV (hr : Oz.neutralR l i = some l') : Done57 l l' := by
 unfold Oz.neutralR at hr
 rw [kad hs] at hr
 dsimp only at hr
 by_cases h0 : s.op = Oz.oAdd
 ·
  rw [if_pos h0] at hr
  rcases kbi hr with hr | hr
  ·
   exact kbg hc hs h0 (o := ⟨[1, 1], 1, false, false⟩) (by show (_ : Option OpI) = _; kernel_rfl) (by decide) 0 rfl (kas hr).2
  ·
   exact kbg hc hs h0 (o := ⟨[1, 1], 1, false, false⟩) (by show (_ : Option OpI) = _; kernel_rfl) (by decide) 1 rfl (kas hr).2
 rw [if_neg h0] at hr
 by_cases h1 : s.op = Oz.oSub
 ·
  rw [if_pos h1] at hr
  exact kbg hc hs h1 (o := ⟨[1, 1], 1, false, false⟩) (by show (_ : Option OpI) = _; kernel_rfl) (by decide) 0 rfl (kas hr).2
 rw [if_neg h1] at hr
 by_cases h2 : s.op = Oz.oMul
 ·
  rw [if_pos h2] at hr
  rcases kbi hr with hr | hr
  ·
   exact kbg hc hs h2 (o := ⟨[1, 1], 1, false, false⟩) (by show (_ : Option OpI) = _; kernel_rfl) (by decide) 0 rfl (kas hr).2
  ·
   exact kbg hc hs h2 (o := ⟨[1, 1], 1, false, false⟩) (by show (_ : Option OpI) = _; kernel_rfl) (by decide) 1 rfl (kas hr).2
 rw [if_neg h2] at hr
 by_cases h3 : s.op = Oz.oMin ∨ s.op = Oz.oMax ∨ s.op = Oz.oAnd ∨ s.op = Oz.oOr ∨ s.op = Oz.oUnion ∨ s.op = Oz.oWithin
 ·
  rw [if_pos h3] at hr
  have hr := (kbE hr).2
  rcases h3 with h | h | h | h | h | h
  ·
   exact kbg hc hs h (o := ⟨[1, 1], 1, false, false⟩) (by show (_ : Option OpI) = _; kernel_rfl) (by decide) 0 rfl hr
  ·
   exact kbg hc hs h (o := ⟨[1, 1], 1, false, false⟩) (by show (_ : Option OpI) = _; kernel_rfl) (by decide) 0 rfl hr
  ·
   exact kbg hc hs h (o := ⟨[2, 2], 2, false, false⟩) (by show (_ : Option OpI) = _; kernel_rfl) (by decide) 0 rfl hr
  ·
   exact kbg hc hs h (o := ⟨[2, 2], 2, false, false⟩) (by show (_ : Option OpI) = _; kernel_rfl) (by decide) 0 rfl hr
  ·
   exact kbg hc hs h (o := ⟨[4, 4], 4, false, false⟩) (by show (_ : Option OpI) = _; kernel_rfl) (by decide) 0 rfl hr
  ·
   exact kbg hc hs h (o := ⟨[4, 4], 4, false, false⟩) (by show (_ : Option OpI) = _; kernel_rfl) (by decide) 0 rfl hr
 rw [if_neg h3] at hr
 by_cases h4 : s.op = Oz.oCat
 ·
  rw [if_pos h4] at hr
  rcases kbi hr with hr | hr
  ·
   exact kbg hc hs h4 (o := ⟨[3, 3], 3, false, false⟩) (by show (_ : Option OpI) = _; kernel_rfl) (by decide) 0 rfl (kas hr).2
  ·
   exact kbg hc hs h4 (o := ⟨[3, 3], 3, false, false⟩) (by show (_ : Option OpI) = _; kernel_rfl) (by decide) 1 rfl (kas hr).2
 rw [if_neg h4] at hr
 by_cases h5 : s.op = Oz.oRep
 ·
  rw [if_pos h5] at hr
  exact kbg hc hs h5 (o := ⟨[3, 1], 3, false, false⟩) (by show (_ : Option OpI) = _; kernel_rfl) (by decide) 0 rfl (kas hr).2
 rw [if_neg h5] at hr
 by_cases h6 : s.op = Oz.oCut
 ·
  rw [if_pos h6] at hr
  exact kbg hc hs h6 (o := ⟨[3, 1, 1], 3, false, false⟩) (by show (_ : Option OpI) = _; kernel_rfl) (by decide) 0 rfl (kas hr).2
 rw [if_neg h6] at hr
 by_cases h7 : s.op = Oz.oNot
 ·
  rw [if_pos h7] at hr
  obtain ⟨hin, hr⟩ := kbE hr
  have f := kaB hc hs (o := ⟨[2], 2, false, false⟩) (by rw [h7]; show (_ : Option OpI) = _; kernel_rfl)
  have hl : s.args.length = 1 := f.len
  obtain ⟨j, t, e, hji, ht, at0, _⟩ := kaO hc hs f (k := 0) (by omega)
  rw [e, at0] at hin hr
  have ft := kaB hc ht (o := ⟨[2], 2, false, false⟩) (by rw [hin]; show (_ : Option OpI) = _; kernel_rfl)
  have hlt : t.args.length = 1 := ft.len
  obtain ⟨m, u, em, hmj, hu, _, ham⟩ := kaO hc ht ft (k := 0) (by omega)
  rw [em, Int.toNat_natCast] at hr
  have hty := kcd ft (by rw [hin]; decide)
  have h1 : (t.args.map (tyAt l))[0]? = some (tyAt l (m : Int)) := by rw [List.getElem?_map, ham]; rfl
  rw [hty] at h1
  injection h1 with h1
  exact kfr hc hs (Nat.lt_trans hmj hji) (by rw [← h1, f.ty]) hr
 rw [if_neg h7] at hr
 cases hr
theorem kji (hr : Oz.commonR l i = some l') : Done57 l l' := by
 unfold Oz.commonR at hr
 rw [kad hs] at hr
 dsimp only at hr
 obtain ⟨⟨hop, heq⟩, hr⟩ := kbE hr
 injection hr with hr
 subst hr
 have f := kaB hc hs (o := ⟨[3, 3], 1, false, false⟩) (by rw [hop]; show (_ : Option OpI) = _; kernel_rfl)
 have hl : s.args.length = 2 := f.len
 obtain ⟨j, t, e, hji, ht, _, ha⟩ := kaO hc hs f (k := 0) (by omega)
 have hty := kcd f (by rw [hop]; decide)
 have h1 : (s.args.map (tyAt l))[0]? = some (tyAt l (j : Int)) := by rw [List.getElem?_map, ha]; rfl
 rw [hty] at h1
 injection h1 with h1
 refine kfq hc hs ⟨⟨[3], 1, false, false⟩, kbV (by show (_ : Option OpI) = _; kernel_rfl) (by decide) (fun a ha => ?_) ?_ rfl (Int.le_refl 0) (fun h => by omega) (fun h => absurd rfl h) (fun h => by cases h)⟩ f.ty.symm ?_
 ·
  simp only [List.mem_cons, List.not_mem_nil, or_false] at ha
  rw [ha, e]
  omega
 ·
  rw [e, List.map_cons, List.map_nil, ← h1]
 ·
  show kao Oz.oLen < kao s.op
  rw [hop]
  have h4 : kao Oz.oLen = 2 := by show (_ : Int) = _; kernel_rfl
  have h5 : kao Oz.oCommon = 8 := by show (_ : Int) = _; kernel_rfl
  omega
theorem kir (hr : Oz.unusedR l i = some l') : Done57 l l' := by
 unfold Oz.unusedR at hr
 split at hr
 ·
  cases hr
 rename_i hno
 injection hr with hr
 subst hr
 simp only [not_or] at hno
 have hil := (gH hs).1
 refine ke2 hc (kdR (by omega) (fun q t _ ht => ⟨(check_fit.1 hc).2.2 q t ht, kk5 (bd57 hc) hno.2.1 ht⟩)) ?_
 rw [kdW hs]
 have := kc5 s.op
 omega
end
end Go.Proofs.YtamhdmkolfmmdaaGreatDoor
