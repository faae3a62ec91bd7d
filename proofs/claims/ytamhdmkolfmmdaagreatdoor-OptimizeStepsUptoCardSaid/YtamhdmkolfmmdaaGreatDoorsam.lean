/- Plans in plain Lean: operations, the check, the sizes, the tree of a plan. Expressions without addresses, as the laws and the plans hold them in memory. Plans in memory. -/
import Derived.Test.YtamhdmkolfmmdaaGreatDoorsak
import Derived.Test.YtamhdmkolfmmdaaGreatDoorsal
import Derived.Test.YtamhdmkolfmmdaaGreatDoorsaa
set_option linter.unusedVariables false
set_option linter.unusedSimpArgs false
namespace Go.Proofs.YtamhdmkolfmmdaaGreatDoor
open Go.RowKit
structure St where
 op : List UInt8
 args : List Int
 num : Int
 text : List UInt8
 ty : Int
deriving DecidableEq
structure OpI where
 args : List Int
 res : Int
 text : Bool
 regex : Bool
deriving DecidableEq
def kab : List UInt8 := [110, 117, 109, 98, 101, 114]
def kai : List UInt8 := [115, 116, 114, 105, 110, 103]
def nRef : List UInt8 := [114, 101, 102]
def ka0 : List UInt8 := [109, 97, 116, 99, 104, 101, 115]
def kaF : List UInt8 := [102, 105, 114, 115, 116, 102, 105, 110, 100]
def kbf : List UInt8 := [108, 101, 110, 99, 117, 116]
def nCount : List UInt8 := [99, 111, 117, 110, 116]
def nHas : List UInt8 := [104, 97, 115]
def nFind : List UInt8 := [102, 105, 110, 100]
def nFirst : List UInt8 := [102, 105, 114, 115, 116]
def nCut : List UInt8 := [99, 117, 116]
def opS (q : List Int × Int) : OpI := ⟨q.1.filter (fun t => decide (t ≠ 0)), q.2, q.1.any (fun t => decide (t = 0)), q.1.any (fun t => decide (t = 0))⟩
def opR (n : List UInt8) : Option OpI :=
 if n = kab then some ⟨[], 1, false, false⟩
 else if n = kai ∨ n = nRef then some ⟨[], 3, true, false⟩
 else if n = ka0 then some ⟨[3], 1, true, true⟩
 else if n = kaF then some ⟨[3, 1], 4, true, true⟩
 else if n = kbf then some ⟨[3, 1, 1], 1, false, false⟩
 else match sig n with
  | none => none
  | some q => some (opS q)
def patE (p : List UInt8) : Int := if bigT p then 9 else match kbY p with
 | none => 4
 | some r => if r.fits then 0 else 9
theorem kjw (p : List UInt8) : kbB p = errV (patE p) := by
 unfold kbB patE
 by_cases hb : bigT p = true
 ·
  rw [if_pos hb, if_pos hb]; rfl
 ·
  rw [if_neg hb, if_neg hb]
  cases kbY p with
  | none => rfl
  | some r =>
   dsimp only
   by_cases hf : r.fits = true
   ·
    rw [if_pos hf, if_pos hf]; rfl
   ·
    rw [if_neg hf, if_neg hf]; rfl
def tyAt (l : List St) (a : Int) : Int := match l[a.toNat]? with
 | some s => s.ty
 | none => 0
def ka7 (l : List St) (s : St) (o : OpI) : Bool :=
 if kaG s.op = true then (if tyAt l (s.args.getD 0 0) ≠ tyAt l (s.args.getD 1 0) then false
  else if tyAt l (s.args.getD 0 0) = 2 then kcx s.op
  else decide (tyAt l (s.args.getD 0 0) = 1 ∨ tyAt l (s.args.getD 0 0) = 3))
 else decide (s.args.map (tyAt l) = o.args)
def kaL (l : List St) (i : Nat) (s : St) : Int := match opR s.op with
 | none => 4
 | some o =>
  if s.args.length ≠ o.args.length then 4
  else if s.args.any (fun a => decide (a < 0) || decide ((i : Int) ≤ a)) = true then 4
  else if s.num < 0 ∨ (0 < s.num ∧ s.op ≠ kab) ∨ (s.text ≠ [] ∧ o.text = false) then 4
  else if s.ty ≠ o.res ∨ ka7 l s o = false then 12
  else if o.regex = true then patE s.text else 0
def kcz (l : List St) : Nat → List St → Int
 | _, [] => 0
 | i, s :: t => if kaL l i s ≠ 0 then kaL l i s else kcz l (i + 1) t
def kac (l : List St) : Int := if l.length = 0 ∨ 4096 < l.length then 4 else kcz l 0 l
def kao (n : List UInt8) : Int :=
 if n = kab ∨ n = kai ∨ n = nRef then 1
 else if n ∈ ([[43, 43], nCut, [108, 105, 110, 101], [114, 101, 112], [112, 105, 99, 107], [99, 111, 109, 109, 111, 110], [119, 105, 116, 104, 105, 110], [111, 118, 101, 114], [97, 102, 116, 101, 114], [117, 110, 105, 111, 110], [109, 105, 110, 117, 115], nFirst, kbf] : List (List UInt8)) then 8
 else if n = [114, 111, 119, 115] then 32
 else if n ∈ ([nCount, nHas, nFind, ka0, kaF] : List (List UInt8)) then 64
 else 2
def kap (l : List St) : Int := (l.map fun s => kao s.op).sum
theorem kck {l : List St} : ∀ (t : List St) (i : Nat), kcz l i t = 0 ↔ ∀ j s, t[j]? = some s → kaL l (i + j) s = 0
 | [], i => by simp [kcz]
 | x :: t, i => by
  unfold kcz
  constructor
  ·
   intro h j s hs
   split at h
   ·
    rename_i hne; exact absurd h hne
   ·
    rename_i hne
    cases j with
    | zero => simp only [gB, Option.some.injEq] at hs; subst hs; simpa using hne
    | succ j =>
     have := (kck t (i + 1)).1 h j s (by simpa using hs)
     rw [show i + (j + 1) = i + 1 + j by omega]; exact this
  ·
   intro h
   have h0 := h 0 x rfl
   rw [Nat.add_zero] at h0
   rw [if_neg (by simp [h0])]
   exact (kck t (i + 1)).2 fun j s hs => by
    have := h (j + 1) s (by simpa using hs)
    rw [show i + 1 + j = i + (j + 1) by omega]; exact this
theorem kbK {l : List St} (h : kac l = 0) : 1 ≤ l.length ∧ l.length ≤ 4096 ∧ ∀ i s, l[i]? = some s → kaL l i s = 0 := by
 unfold kac at h
 split at h
 ·
  omega
 ·
  rename_i hl
  exact ⟨by omega, by omega, fun i s hs => by have := (kck l 0).1 h i s hs; rwa [Nat.zero_add] at this⟩
structure Fine (l : List St) (i : Nat) (s : St) (o : OpI) : Prop where
 op : opR s.op = some o
 len : s.args.length = o.args.length
 back : ∀ a ∈ s.args, 0 ≤ a ∧ a < i
 num : 0 ≤ s.num
 numN : 0 < s.num → s.op = kab
 text : s.text ≠ [] → o.text = true
 ty : s.ty = o.res
 typed : ka7 l s o = true
 pat : o.regex = true → patE s.text = 0
theorem kdd {l : List St} {i : Nat} {s : St} (h : kaL l i s = 0) : ∃ o, Fine l i s o := by
 unfold kaL at h
 split at h
 ·
  omega
 ·
  rename_i o ho
  split at h
  ·
   omega
  ·
   rename_i h1
   split at h
   ·
    omega
   ·
    rename_i h2
    split at h
    ·
     omega
    ·
     rename_i h3
     split at h
     ·
      omega
     ·
      rename_i h4
      simp only [not_or, not_and] at h3 h4
      refine ⟨o, ho, by omega, fun a ha => ?_, by omega, fun hn => ?_, fun ht => ?_, by have := h4.1; omega, by simpa using h4.2, fun hr => ?_⟩
      ·
       simp only [List.any_eq_true, Bool.or_eq_true, decide_eq_true_eq, not_exists, not_and, not_or] at h2
       have := h2 a ha
       omega
      ·
       have := h3.2.1 hn
       simpa using this
      ·
       have := h3.2.2 ht
       simpa using this
      ·
       rw [if_pos hr] at h; exact h
theorem blk4 {w : World} {g : Nat} {t : TypeId} {a b c d : Value} (h : Blk w g t #[a, b, c, d]) : w.cell? ⟨g, 0, none⟩ = some a ∧ w.cell? ⟨g, 1, none⟩ = some b ∧ w.cell? ⟨g, 2, none⟩ = some c ∧ w.cell? ⟨g, 3, none⟩ = some d ∧
  w.frozen? ⟨g, 0, none⟩ = false ∧ w.frozen? ⟨g, 1, none⟩ = false ∧ w.frozen? ⟨g, 2, none⟩ = false ∧ w.frozen? ⟨g, 3, none⟩ = false :=
 ⟨h.cell 0, h.cell 1, h.cell 2, h.cell 3, h.frozen 0, h.frozen 1, h.frozen 2, h.frozen 3⟩
theorem kh4 {w w1 : World} {g : Nat} {a b c d : Value} (h : Below w.heap.size w w1) (hg : w.heap.size ≤ g) : Below w.heap.size w ((((w1.setCell ⟨g, 0, none⟩ a).setCell ⟨g, 1, none⟩ b).setCell ⟨g, 2, none⟩ c).setCell ⟨g, 3, none⟩ d) :=
 (((h.setCell hg a).setCell hg b).setCell hg c).setCell hg d
theorem kbe {w : World} {base e size n : Nat} {v : Value} {xs : List Value} (h : w.ownsRow base e size v n xs) {p : Addr} (hp : v.ownBlock ≠ some p.block) (u : Value) : (w.setCell p u).ownsRow base e size v n xs := by
 refine ⟨h.1, ?_⟩
 rcases h.2 with h | ⟨g, cap, cur, h1, h2, h3, h4⟩
 ·
  exact .inl h
 ·
  refine .inr ⟨g, cap, cur, h1, h2, ?_, h4⟩
  have hne : g ≠ p.block := fun e => hp (by rw [h1, ← e]; rfl)
  exact (Below.heap_setCell w p u g hne).trans h3
def StV (w : World) (F : Nat → Prop) (s : St) (cs : List Value) : Prop :=
 ∃ (A : Option Addr) (c : Nat), cs = [.string ⟨s.op.toArray⟩, .slice A s.args.length c, .int .i64 s.num, .string ⟨s.text.toArray⟩, .int .i64 s.ty] ∧ RdF w F 1 A s.args.length (s.args.map (Value.int .i64))
def StVs (w : World) (F : Nat → Prop) : List St → List Value → Prop
 | [], cs => cs = []
 | s :: l, cs => ∃ a b, cs = a ++ b ∧ StV w F s a ∧ StVs w F l b
def PlAt (w : World) (F : Nat → Prop) (A : Option Addr) (l : List St) : Prop := ∃ css, RdF w F 5 A l.length css ∧ StVs w F l css
section
variable {w w' : World} {F G : Nat → Prop}
theorem StV.keep (hk : ∀ i, F i → i < w.heap.size → w'.heap[i]? = w.heap[i]?) (hs : w.heap.size ≤ w'.heap.size) (hG : ∀ i, F i → i < w.heap.size → G i) {s : St} {cs : List Value} (h : StV w F s cs) : StV w' G s cs := by
 obtain ⟨A, c, h1, h2⟩ := h
 exact ⟨A, c, h1, h2.keep hk hs hG⟩
theorem StVs.keep (hk : ∀ i, F i → i < w.heap.size → w'.heap[i]? = w.heap[i]?) (hs : w.heap.size ≤ w'.heap.size) (hG : ∀ i, F i → i < w.heap.size → G i) : ∀ {l : List St} {cs : List Value}, StVs w F l cs → StVs w' G l cs
 | [], _, h => h
 | s :: l, cs, h => by
  obtain ⟨a, b, h1, h2, h3⟩ := h
  exact ⟨a, b, h1, h2.keep hk hs hG, StVs.keep hk hs hG h3⟩
theorem PlAt.keep (hk : ∀ i, F i → i < w.heap.size → w'.heap[i]? = w.heap[i]?) (hs : w.heap.size ≤ w'.heap.size) (hG : ∀ i, F i → i < w.heap.size → G i) {A : Option Addr} {l : List St} (h : PlAt w F A l) : PlAt w' G A l := by
 obtain ⟨css, h1, h2⟩ := h
 exact ⟨css, h1.keep hk hs hG, h2.keep hk hs hG⟩
theorem PlAt.below {A : Option Addr} {l : List St} (h : PlAt w (fun i => i < w.heap.size) A l) (hb : Below w.heap.size w w') : PlAt w' (fun i => i < w'.heap.size) A l :=
 h.keep (fun i (hi : i < _) _ => hb.block i hi) hb.size (fun _ hi _ => Nat.lt_of_lt_of_le hi hb.size)
theorem PlAt.at_ {B : Nat} {A : Option Addr} {l : List St} (h : PlAt w (fun i => i < B) A l) (hb : Below B w w') : PlAt w' (fun i => i < B) A l :=
 h.keep (fun i (hi : i < _) _ => hb.block i hi) (Nat.le_trans hb.size (Nat.le_refl _)) (fun _ hi _ => hi)
theorem StV.len {s : St} {cs : List Value} (h : StV w F s cs) : cs.length = 5 := by
 obtain ⟨A, c, rfl, _⟩ := h
 rfl
theorem StVs.append : ∀ {l l' : List St} {cs cs' : List Value}, StVs w F l cs → StVs w F l' cs' → StVs w F (l ++ l') (cs ++ cs')
 | [], _, cs, _, h, h' => by
  have h : cs = [] := h
  rw [h]; exact h'
 | s :: l, _, cs, _, h, h' => by
  obtain ⟨a, b, h1, h2, h3⟩ := h
  exact ⟨a, b ++ _, by rw [h1, List.append_assoc], h2, StVs.append h3 h'⟩
theorem StVs.one {s : St} {cs : List Value} (h : StV w F s cs) : StVs w F [s] cs := ⟨cs, [], by simp, h, rfl⟩
theorem StVs.get : ∀ {l : List St} {css : List Value}, StVs w F l css → ∀ (i : Nat) (s : St), l[i]? = some s → ∃ cs, StV w F s cs ∧ ∀ (j : Nat) u, cs[j]? = some u → css[i * 5 + j]? = some u
 | [], _, _, i, s, hs => by simp at hs
 | x :: l, css, h, i, s, hs => by
  obtain ⟨a, b, h1, h2, h3⟩ := h
  have hl := h2.len
  cases i with
  | zero =>
   simp only [gB, Option.some.injEq] at hs
   subst hs
   exact ⟨a, h2, fun j u hj => by rw [h1, List.getElem?_append_left (by rw [Nat.zero_mul, Nat.zero_add]; exact (gH hj).1), Nat.zero_mul, Nat.zero_add]; exact hj⟩
  | succ i =>
   obtain ⟨cs, e1, e2⟩ := StVs.get h3 i s (by simpa using hs)
   refine ⟨cs, e1, fun j u hj => ?_⟩
   rw [h1, List.getElem?_append_right (by omega), hl, show (i + 1) * 5 + j - 5 = i * 5 + j by omega]
   exact e2 j u hj
theorem RdF.form {size n : Nat} {A : Option Addr} {xs : List Value} (h : RdF w F size A n xs) (hn : 0 < n) : ∃ b o, A = some ⟨b, o, none⟩ ∧ F b ∧ b < w.heap.size ∧ ∀ j u, xs[j]? = some u → w.cell? ⟨b, o + j, none⟩ = some u := by
 obtain ⟨b, o, h1, h2, h3, h4⟩ := h.2 hn
 exact ⟨b, o, h1, h2, h3, h4⟩
theorem PlAt.step {A : Option Addr} {l : List St} (h : PlAt w F A l) {i : Nat} {s : St} (hs : l[i]? = some s) : ∃ b o A' c, A = some ⟨b, o, none⟩ ∧ F b ∧ b < w.heap.size ∧ w.cell? ⟨b, o + i * 5, none⟩ = some (.string ⟨s.op.toArray⟩) ∧ w.cell? ⟨b, o + i * 5 + 1, none⟩ = some (.slice A' s.args.length c) ∧
  w.cell? ⟨b, o + i * 5 + 2, none⟩ = some (.int .i64 s.num) ∧ w.cell? ⟨b, o + i * 5 + 3, none⟩ = some (.string ⟨s.text.toArray⟩) ∧ w.cell? ⟨b, o + i * 5 + 4, none⟩ = some (.int .i64 s.ty) ∧ RdF w F 1 A' s.args.length (s.args.map (Value.int .i64)) := by
 obtain ⟨css, h1, h2⟩ := h
 have hl := (gH hs).1
 obtain ⟨b, o, rfl, hF, hlt, hc⟩ := h1.form (by omega)
 obtain ⟨cs, ⟨A', c, rfl, h3⟩, h4⟩ := h2.get i s hs
 have hh : ∀ (j : Nat) u, ([.string ⟨s.op.toArray⟩, .slice A' s.args.length c, .int .i64 s.num, .string ⟨s.text.toArray⟩, .int .i64 s.ty] : List Value)[j]? = some u → w.cell? ⟨b, o + i * 5 + j, none⟩ = some u := fun j u hj => by
  rw [Nat.add_assoc]; exact hc _ u (h4 j u hj)
 exact ⟨b, o, A', c, rfl, hF, hlt, hh 0 _ rfl, hh 1 _ rfl, hh 2 _ rfl, hh 3 _ rfl, hh 4 _ rfl, h3⟩
theorem RdF.int {A : Option Addr} {zs : List Int} (h : RdF w F 1 A zs.length (zs.map (Value.int .i64))) {k : Nat} {z : Int} (hz : zs[k]? = some z) : ∃ b o, A = some ⟨b, o, none⟩ ∧ F b ∧ b < w.heap.size ∧ w.cell? ⟨b, o + k, none⟩ = some (.int .i64 z) := by
 have hl := (gH hz).1
 obtain ⟨b, o, h1, h2, h3, h4⟩ := h.form (by omega)
 exact ⟨b, o, h1, h2, h3, h4 k _ (by rw [List.getElem?_map, hz]; rfl)⟩
end
end Go.Proofs.YtamhdmkolfmmdaaGreatDoor
