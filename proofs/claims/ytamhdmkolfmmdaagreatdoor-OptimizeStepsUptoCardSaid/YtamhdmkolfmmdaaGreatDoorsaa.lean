/- Words for memory: a slice that reads as a list, a block known whole, append onto an own row. Plain words of the regular expressions: the tree, letter sets, the parser. Plain laws of the parser: where each part of it ends. Short names of lemmas of the library and of Lean's, and: an operation that yields its value in every world that meets S is taken first, the side goals settled by the defaults. A regular expression in memory; what is kept of a world whose blocks F alone may be written. Plain laws of the measures of a regular expression: its nodes, its depth, its positions, its written-out size. Plain laws of letter sets: the words of a set, bit by bit. Plain: what the parser makes is tame. The walks of the parser's next and skip. The walks of the parser's digit, punctuation, escape. -/
import Derived.Below
import Derived.Laws.OwnMore
import Derived.Deep.AppendLies
import Derived.Deep.Draws
import Derived.Laws.Rows
import Derived.Laws.NewBlocks
import Derived.Maps.AppendAt
import Derived.RegionTactic
import Derived.OwnWalk
import Derived.Deep.OwnRows
import Derived.Laws.AppendOwn
import Derived.Lib.Hide
import Derived.OrdersHeld
import Derived.Deep.RegionHeld
import Derived.KernelRfl
import Derived.Test.YtamhdmkolfmmdaaGreatDoorProg
import Derived.WalkKit
import Derived.WalkSpells
import Derived.WalkLawsBesides
import Derived.BigQuiet
import Derived.Deep.QuietTactic
import Derived.Deep.Cut
set_option linter.unusedVariables false
set_option linter.unusedSimpArgs false
namespace Go.Proofs.YtamhdmkolfmmdaaGreatDoor
open Go.RowKit
theorem kdz (a : Addr) (n : Nat) : (a.add n).block = a.block := by unfold Addr.add; split <;> rfl
def Reads (w : World) (B size : Nat) (A : Option Addr) (n : Nat) (xs : List Value) : Prop :=
 xs.length = n * size ∧ (0 < n → ∃ ad, A = some ad ∧ ad.block < B ∧ ∀ j u, xs[j]? = some u → w.cell? (ad.add j) = some u)
section
variable {w w' : World} {B B' size n : Nat} {A : Option Addr} {xs : List Value}
theorem Reads.none_ : Reads w B size A 0 [] := ⟨by simp, fun h => absurd h (by omega)⟩
theorem Reads.keep (h : Reads w B size A n xs) (hk : ∀ p : Addr, p.block < B → w'.cell? p = w.cell? p) : Reads w' B size A n xs :=
 ⟨h.1, fun hn => by
  obtain ⟨ad, e, hb, hc⟩ := h.2 hn
  exact ⟨ad, e, hb, fun j u hu => (hk _ (by rw [kdz]; exact hb)).trans (hc j u hu)⟩⟩
theorem Reads.more (h : Reads w B size A n xs) (hB : B ≤ B') : Reads w B' size A n xs :=
 ⟨h.1, fun hn => by
  obtain ⟨ad, e, hb, hc⟩ := h.2 hn
  exact ⟨ad, e, by omega, hc⟩⟩
theorem Reads.below (h : Reads w B size A n xs) (hb : Below B w w') : Reads w' B size A n xs := h.keep fun _ hp => hb.cell hp
theorem Reads.drew (h : Reads w B size A n xs) : Reads w.drew B size A n xs := h
theorem Reads.alloc (h : Reads w B size A n xs) (hB : B ≤ w.heap.size) (o : Obj) : Reads (w.alloc o) B size A n xs := h.keep fun p hp => World.cell?_alloc_lt w o p (by omega)
theorem Reads.of_own {base : Nat} {e : TypeId} {c : Nat} (h : w.ownsRow base e size (.slice A n c) n xs) : Reads w w.heap.size size A n xs := by
 refine ⟨h.1, fun hn => ?_⟩
 obtain ⟨g, cap, hv, _, hlt⟩ := h.form hn
 have hA : A = some ⟨g, 0, none⟩ := by injection hv
 subst hA
 exact ⟨_, rfl, hlt, h.cells (g := g) rfl⟩
end
def Blk (w : World) (g : Nat) (t : TypeId) (cs : Array Value) : Prop := w.heap[g]? = some (.cells cs t (0, 0))
section
variable {w w' : World} {g : Nat} {t : TypeId} {cs : Array Value}
theorem Blk.lt (h : Blk w g t cs) : g < w.heap.size := by
 rcases Nat.lt_or_ge g w.heap.size with hlt | hge
 ·
  exact hlt
 ·
  unfold Blk at h; rw [Array.getElem?_eq_none hge] at h; cases h
theorem Blk.cell (h : Blk w g t cs) (i : Nat) : w.cell? ⟨g, i, none⟩ = cs[i]? := cell_of_row w g i cs t (0, 0) h
theorem Blk.frozen (h : Blk w g t cs) (i : Nat) : w.frozen? ⟨g, i, none⟩ = false := by
 unfold Blk at h
 simp [World.frozen?, h]
theorem Blk.new (w : World) (t : TypeId) (cs : Array Value) : Blk (w.alloc (.cells cs t)) w.heap.size t cs := heap_alloc_new w _
theorem Blk.drew (h : Blk w g t cs) : Blk w.drew g t cs := h
theorem Blk.drewN (h : Blk w g t cs) (n : Nat) : Blk (w.drewN n) g t cs := h
theorem Blk.alloc (h : Blk w g t cs) (o : Obj) : Blk (w.alloc o) g t cs := (Below.heap_alloc w o g h.lt).trans h
theorem Blk.set_ (h : Blk w g t cs) (i : Nat) (u : Value) : Blk (w.setCell ⟨g, i, none⟩ u) g t (cs.setIfInBounds i u) := by
 unfold Blk at h ⊢
 simp [World.setCell, Array.getElem?_modify, h]
theorem Blk.far (h : Blk w g t cs) {p : Addr} (hp : g ≠ p.block) (u : Value) : Blk (w.setCell p u) g t cs := (Below.heap_setCell w p u g hp).trans h
theorem Blk.below {B : Nat} (h : Blk w g t cs) (hb : Below B w w') (hg : g < B) : Blk w' g t cs := (hb.block g hg).trans h
theorem Blk.grown {row : Option Nat} (h : Blk w g t cs) (hb : w.grownBy w' row) (hg : some g ≠ row) : Blk w' g t cs := (hb.block g h.lt hg).trans h
theorem Blk.ne_ {g' : Nat} {t' : TypeId} {cs' : Array Value} (h : Blk w g t cs) (h' : Blk w g' t' cs') (hne : t ≠ t') : g ≠ g' := by
 rintro rfl
 unfold Blk at h h'
 rw [h] at h'
 injection h' with h'
 injection h' with _ ht
 exact hne ht
theorem kan {base : Nat} {e : TypeId} {size n : Nat} {v : Value} {xs : List Value} (h : w.ownsRow base e size v n xs) (hg : Blk w g t cs) (hne : e ≠ t) : v.ownBlock ≠ some g := by
 rcases h.2 with ⟨rfl, _⟩ | ⟨g', cap, cur, rfl, _, hh, _⟩
 ·
  simp [Value.ownBlock]
 ·
  intro he
  have : g' = g := by simpa [Value.ownBlock] using he
  subst this
  exact Blk.ne_ (t := e) hh hg hne rfl
end
section
variable {P : Program} (w : World)
theorem ke5 (base : Nat) (t ty e : TypeId) (i : TypeInfo) (size : Nat) (ht : P.underlying t = some (.slice e)) (hi : P.info? e = some i)
  (v : Value) (n : Nat) (xs : List Value) (hown : w.ownsRow base e size v n xs) (c : Nat) : (Builtin.append_ #[t, t] ty #[v, .slice none 0 c]).run P w = .ok v w := by
 rcases hown.2 with ⟨rfl, rfl⟩ | ⟨g, cap, cur, rfl, _, _, hnc, _⟩
 ·
  simp [Builtin.append_, run_underlying ht, sizeOf, typeInfo, hi, Builtin.lenOf, Builtin.firstCells]
 ·
  simp [Builtin.append_, run_underlying ht, sizeOf, typeInfo, hi, Builtin.lenOf, Builtin.firstCells, hnc, storeCells]
theorem kf5 (base : Nat) (t ty e : TypeId) (i : TypeInfo) (z : Value) (size bytes : Nat) (ht : P.underlying t = some (.slice e)) (hi : P.info? e = some i) (hz : i.zero = some z)
  (hsize : i.size = size) (hby : i.bytes = bytes) (hzs : z.cells.size = size) (hsz : 0 < size)
  (v : Value) (n : Nat) (xs : List Value) (hown : w.ownsRow base e size v n xs)
  (B : Nat) (A : Option Addr) (m c : Nat) (news : List Value) (hr : Reads w B size A m news) (h1 : ∀ u ∈ news, u.oneCell' = true)
  (h63 : n + m ≤ maxLen) (hbytes : (n + m) * bytes ≤ 140737488355328) (hbase : base ≤ w.heap.size) :
  ∃ v' w', (Builtin.append_ #[t, t] ty #[v, .slice A m c]).run P w = .ok v' w' ∧ w'.ownsRow base e size v' (n + m) (xs ++ news) ∧ w.grownBy w' v.ownBlock ∧
   (v'.ownBlock = v.ownBlock ∨ v'.ownBlock = some w.heap.size) := by
 rcases A with _ | ad
 ·
  have hm : m = 0 := by
   rcases Nat.eq_zero_or_pos m with h0 | h0
   ·
    exact h0
   ·
    obtain ⟨ad, h, _⟩ := hr.2 h0
    cases h
  subst hm
  have hn : news = [] := List.eq_nil_of_length_eq_zero (by simpa using hr.1)
  subst hn
  exact ⟨v, w, ke5 w base t ty e i size ht hi v n xs hown c, by simpa using hown, World.grownBy.refl w _, .inl rfl⟩
 ·
  have hcells : ∀ j u, news[j]? = some u → w.cell? (ad.add j) = some u := by
   intro j u hu
   rcases Nat.eq_zero_or_pos m with h0 | h0
   ·
    subst h0
    have hn : news = [] := List.eq_nil_of_length_eq_zero (by simpa using hr.1)
    subst hn
    simp at hu
   ·
    obtain ⟨ad', h, _, hc⟩ := hr.2 h0
    injection h with h
    subst h
    exact hc j u hu
  obtain ⟨v', w', hrun, h2, h3, _, h5⟩ := run_append_own_at (P := P) w base t ty e i z size bytes ht hi hz hsize hby hzs hsz v n xs hown ad m c news hr.1 hcells h1 h63 hbytes hbase
  exact ⟨v', w', hrun, h2, h3, h5⟩
theorem ker {o : Oper} {a : Act} {K : Act → World → Prop} {Q : Exit → Act → World → Prop} (s x : Operand) (t : TypeId)
  (ho : o.op = .call { callee := .builtin .append, args := #[s, x], argTypes := #[t, t] })
  (base : Nat) (e : TypeId) (i : TypeInfo) (z : Value) (size bytes : Nat) (ht : P.underlying t = some (.slice e)) (hi : P.info? e = some i) (hz : i.zero = some z)
  (hsize : i.size = size) (hby : i.bytes = bytes) (hzs : z.cells.size = size) (hsz : 0 < size)
  (v : Value) (n : Nat) (xs : List Value) (hs : a.eval s = v) (hown : w.ownsRow base e size v n xs)
  (B : Nat) (A : Option Addr) (m c : Nat) (news : List Value) (hx : a.eval x = .slice A m c) (hr : Reads w B size A m news) (h1 : ∀ u ∈ news, u.oneCell' = true)
  (h63 : n + m ≤ maxLen) (hbytes : (n + m) * bytes ≤ 140737488355328) (hbase : base ≤ w.heap.size)
  (h : ∀ v' w', w'.ownsRow base e size v' (n + m) (xs ++ news) → w.grownBy w' v.ownBlock → (v'.ownBlock = v.ownBlock ∨ v'.ownBlock = some w.heap.size) → K (a.put o.dst v') w') : o.wp P a w K Q := by
 obtain ⟨v', w', hrun, h2, h3, h4⟩ := kf5 (P := P) w base t o.type e i z size bytes ht hi hz hsize hby hzs hsz v n xs hown B A m c news hr h1 h63 hbytes hbase
 unfold Oper.wp execOp
 simp only [ho, resolve, invoke, builtin, Sem.run_bind, Sem.run_pure, Result.andThen_ok, List.map_toArray, List.map_cons, List.map_nil, hs, hx, hrun]
 exact h v' w' h2 h3 h4
theorem kam {ops : Array Oper} {rest : List Oper} {o : Oper} {a : Act} {Q : Exit → Act → World → Prop} (hgd : o.guard = none) (s x : Operand) (t : TypeId)
  (ho : o.op = .call { callee := .builtin .append, args := #[s, x], argTypes := #[t, t] })
  (base : Nat) (e : TypeId) (i : TypeInfo) (z : Value) (size bytes : Nat) (ht : P.underlying t = some (.slice e)) (hi : P.info? e = some i) (hz : i.zero = some z)
  (hsize : i.size = size) (hby : i.bytes = bytes) (hzs : z.cells.size = size) (hsz : 0 < size)
  (v : Value) (n : Nat) (xs : List Value) (hs : a.eval s = v) (hown : w.ownsRow base e size v n xs)
  (B : Nat) (A : Option Addr) (m c : Nat) (news : List Value) (hx : a.eval x = .slice A m c) (hr : Reads w B size A m news) (h1 : ∀ u ∈ news, u.oneCell' = true)
  (h63 : n + m ≤ maxLen) (hbytes : (n + m) * bytes ≤ 140737488355328) (hbase : base ≤ w.heap.size)
  (h : ∀ v' w', w'.ownsRow base e size v' (n + m) (xs ++ news) → w.grownBy w' v.ownBlock → (v'.ownBlock = v.ownBlock ∨ v'.ownBlock = some w.heap.size) → wpList P ops Q rest (a.put o.dst v') w') : wpList P ops Q (o :: rest) a w :=
 wpList_plain hgd fun _ hK => ker w s x t ho base e i z size bytes ht hi hz hsize hby hzs hsz v n xs hs hown B A m c news hx hr h1 h63 hbytes hbase fun v' w' h2 h3 h4 => hK _ _ (h v' w' h2 h3 h4)
theorem kdD {ops : Array Oper} {o : Oper} {a : Act} {K : Act → World → Prop} {Q : Exit → Act → World → Prop} {E : Prop} (hgd : o.guard = none) (s x : Operand) (t : TypeId)
  (ho : o.op = .call { callee := .builtin .append, args := #[s, x], argTypes := #[t, t] })
  (base : Nat) (e : TypeId) (i : TypeInfo) (z : Value) (size bytes : Nat) (ht : P.underlying t = some (.slice e)) (hi : P.info? e = some i) (hz : i.zero = some z)
  (hsize : i.size = size) (hby : i.bytes = bytes) (hzs : z.cells.size = size) (hsz : 0 < size)
  (v : Value) (n : Nat) (xs : List Value) (hs : a.eval s = v) (hown : w.ownsRow base e size v n xs)
  (B : Nat) (A : Option Addr) (m c : Nat) (news : List Value) (hx : a.eval x = .slice A m c) (hr : Reads w B size A m news) (h1 : ∀ u ∈ news, u.oneCell' = true)
  (h63 : n + m ≤ maxLen) (hbytes : (n + m) * bytes ≤ 140737488355328) (hbase : base ≤ w.heap.size)
  (h : ∀ v' w', w'.ownsRow base e size v' (n + m) (xs ++ news) → w.grownBy w' v.ownBlock → (v'.ownBlock = v.ownBlock ∨ v'.ownBlock = some w.heap.size) → K (a.put o.dst v') w') :
  if Region.wanted o (yielded ops a.tmps) = true then Oper.wp P o a w K Q else E := by
 have hw : Region.wanted o (yielded ops a.tmps) = true := by simp [Region.wanted, hgd]
 rw [if_pos hw]
 exact ker w s x t ho base e i z size bytes ht hi hz hsize hby hzs hsz v n xs hs hown B A m c news hx hr h1 h63 hbytes hbase h
end
theorem kaf {B : Nat} {a w : World} (h : Below B a w) (n : Nat) : Below B a (w.drewN n) := ⟨h.os, h.tape, h.output, h.size, h.block⟩
theorem kaP {a w : World} (h : Below a.heap.size a w) (row : Option Nat) : a.grownBy w row := ⟨h.os, h.tape, h.output, h.size, fun i hi _ => h.block i hi⟩
theorem ka1 (b o j : Nat) : (⟨b, o, none⟩ : Addr).add j = ⟨b, o + j, none⟩ := by unfold Addr.add; split <;> simp_all
theorem kdh (w : World) (cs : Array Value) (t : TypeId) : ∀ (j : Nat) (u : Value), cs.toList[j]? = some u → (w.alloc (.cells cs t)).cell? ((⟨w.heap.size, 0, none⟩ : Addr).add j) = some u := by
 intro j u h
 rw [ka1, Nat.zero_add, World.cell?_alloc_at _ _ _ _ rfl]
 simpa using h
theorem Reads.form {w : World} {B n : Nat} {A : Option Addr} {xs : List Value} (h : Reads w B 1 A n xs) (hn : 0 < n) :
  ∃ b o, A = some ⟨b, o, none⟩ ∧ b < B ∧ ∀ k u, xs[k]? = some u → w.cell? ⟨b, o + k, none⟩ = some u := by
 obtain ⟨ad, rfl, hb, hc⟩ := h.2 hn
 obtain ⟨b, o, spot⟩ := ad
 have hl : 0 < xs.length := by have := h.1; omega
 have hspot : spot = none := by simpa [Addr.add] using World.cell?_spot (hc 0 _ (List.getElem?_eq_getElem hl))
 subst hspot
 exact ⟨b, o, rfl, hb, fun k u hu => by rw [← ka1]; exact hc k u hu⟩
theorem Reads.of_alloc (w : World) (cs : Array Value) (t : TypeId) {B n : Nat} (hB : w.heap.size < B) (hn : cs.size = n) : Reads (w.alloc (.cells cs t)) B 1 (some ⟨w.heap.size, 0, none⟩) n cs.toList :=
 ⟨by simp [hn], fun _ => ⟨_, rfl, hB, kdh w cs t⟩⟩
theorem kay {w w' : World} {base e size n : Nat} {v : Value} {xs : List Value} (h : w.ownsRow base e size v n xs) (hb : Below w.heap.size w w') : w'.ownsRow base e size v n xs :=
 h.kept (kaP hb none) (by
  by_cases hh : v.ownBlock = none
  ·
   exact .inl hh
  ·
   exact .inr hh)
theorem kmc {w w1 w2 : World} {base e size n B : Nat} {v : Value} {xs : List Value} (hb : Below B w w1) (hB : B ≤ w1.heap.size) (hB2 : B ≤ base) (h : w1.ownsRow base e size v n xs) (hg : w1.grownBy w2 v.ownBlock) : Below B w w2 :=
 hb.grown hg hB (by rintro g hgg; have := (h.lt g hgg).1; omega)
theorem kak {w : World} {base e size n : Nat} {v : Value} {xs : List Value} (h : w.ownsRow base e size v n xs) : ∃ A c, v = .slice A n c := by
 obtain ⟨hl, h⟩ := h
 rcases h with ⟨rfl, rfl⟩ | ⟨g', cap, cur, rfl, _⟩
 ·
  exact ⟨_, _, rfl⟩
 ·
  exact ⟨_, _, rfl⟩
end Go.Proofs.YtamhdmkolfmmdaaGreatDoor
namespace Go.Proofs.YtamhdmkolfmmdaaGreatDoor
abbrev LS := Nat → Bool
def wdN (S : LS) (i : Nat) : Nat → Nat
 | 0 => 0
 | n + 1 => wdN S i n + (if S (64 * i + n) then 2 ^ n else 0)
def wd (S : LS) (i : Nat) : Nat := wdN S i 64
inductive Rx where
 | node (kind : Nat) (w0 w1 w2 w3 : Nat) (lo hi : Int) (parts : List Rx)
def Rx.plain (kind : Nat) (parts : List Rx) : Rx := .node kind 0 0 0 0 0 0 parts
def Rx.set (S : LS) : Rx := .node 2 (wd S 0) (wd S 1) (wd S 2) (wd S 3) 0 0 []
def Rx.rep (lo hi : Int) (r : Rx) : Rx := .node 5 0 0 0 0 lo hi [r]
def Rx.empty : Rx := Rx.plain 1 []
def oneS (b : Nat) : LS := fun n => n == b
def Rx.one (b : UInt8) : Rx := Rx.set (oneS b.toNat)
def notS (S : LS) : LS := fun n => !S n
def orS (S R : LS) : LS := fun n => S n || R n
def kbw (a b : Nat) : LS := fun n => decide (a ≤ n) && decide (n ≤ b)
def kar : LS := fun _ => false
def dotS : LS := notS (oneS 10)
def Rx.seq : List Rx → Rx
 | [] => Rx.empty
 | [r] => r
 | l => Rx.plain 3 l
def Rx.alt : List Rx → Rx
 | [r] => r
 | l => Rx.plain 4 l
def kcT (b : UInt8) : Bool := (33 ≤ b && b ≤ 47) || (58 ≤ b && b ≤ 64) || (91 ≤ b && b ≤ 96) || (123 ≤ b && b ≤ 126)
def specials : List UInt8 := [92, 46, 91, 93, 40, 41, 123, 125, 124, 42, 43, 63]
def hexd (b : UInt8) : Option Nat :=
 if 48 ≤ b ∧ b ≤ 57 then some (b.toNat - 48) else if 97 ≤ b ∧ b ≤ 102 then some (b.toNat - 87) else if 65 ≤ b ∧ b ≤ 70 then some (b.toNat - 55) else none
def kaz (T : List UInt8) (k : Nat) : Option (Nat × Nat) := match T[k]? with
 | none => none
 | some b => match hexd b with
  | none => none
  | some d => some (d, k + 1)
def escP (T : List UInt8) (k : Nat) : Option (UInt8 × Nat) := match T[k]? with
 | none => none
 | some b =>
  if b = 110 then some (10, k + 1)
  else if b = 116 then some (9, k + 1)
  else if b = 114 then some (13, k + 1)
  else if b = 120 then match kaz T (k + 1) with
   | none => none
   | some (h, k1) => match kaz T k1 with
    | none => none
    | some (l, k2) => some (UInt8.ofNat (16 * h + l), k2)
  else if kcT b then some (b, k + 1) else none
def kbL (t : List UInt8) : Option (UInt8 × Nat) := match t with
 | [] => none
 | b :: t => if b = 93 ∨ b = 45 then none
  else if b ≠ 92 then some (b, 1)
  else match escP t 0 with
   | none => none
   | some (x, k) => some (x, k + 1)
def lsP : Nat → List UInt8 → LS → Option LS
 | 0, _, _ => none
 | f + 1, t, S => match t with
  | [] => some S
  | _ :: _ => match kbL t with
   | none => none
   | some (lo, u) => match t.drop u with
    | 45 :: t' => match kbL t' with
     | none => none
     | some (hi, u') => if hi < lo then none else lsP f (t'.drop u') (orS S (kbw lo.toNat hi.toNat))
    | t' => lsP f t' (orS S (kbw lo.toNat lo.toNat))
def endP (T : List UInt8) : Nat → Nat → Option Nat
 | 0, _ => none
 | f + 1, k => match T[k]? with
  | none => none
  | some b => if b = 93 then some (k + 1) else if b = 92 then (match T[k + 1]? with
    | none => none
    | some _ => endP T f (k + 2))
   else endP T f (k + 1)
def kb6 (T : List UInt8) (k : Nat) : Option (LS × Nat) :=
 let from_ := if T[k]? = some 94 then k + 1 else k
 match endP T (T.length + 1) from_ with
 | none => none
 | some e => match lsP (e - 1 - from_ + 1) ((T.drop from_).take (e - 1 - from_)) kar with
  | none => none
  | some S => some (if T[k]? = some 94 then notS S else S, e)
def numL (T : List UInt8) : Nat → Nat → Nat → Option (Nat × Nat)
 | 0, _, _ => none
 | f + 1, k, n => match T[k]? with
  | none => some (n, k)
  | some b => if 48 ≤ b ∧ b ≤ 57 then (if 64 < n * 10 + (b.toNat - 48) then none else numL T f (k + 1) (n * 10 + (b.toNat - 48))) else some (n, k)
def numP (T : List UInt8) (k : Nat) : Option (Nat × Nat) := match numL T (T.length + 1) k 0 with
 | none => none
 | some (n, e) => if e = k ∨ (T[k]? = some 48 ∧ k + 1 < e) then none else some (n, e)
def cntP (T : List UInt8) (k : Nat) : Option (Option (Int × Int) × Nat) :=
 if T[k]? = some 42 then some (some (0, -1), k + 1)
 else if T[k]? = some 43 then some (some (1, -1), k + 1)
 else if T[k]? = some 63 then some (some (0, 1), k + 1)
 else if T[k]? = some 123 then match numP T (k + 1) with
  | none => none
  | some (lo, k1) =>
   if T[k1]? = some 44 then
    (if k1 + 1 < T.length ∧ T[k1 + 1]? ≠ some 125 then match numP T (k1 + 1) with
     | none => none
     | some (hi, k2) => if T[k2]? = some 125 ∧ lo ≤ hi then some (some ((lo : Int), (hi : Int)), k2 + 1) else none
    else if T[k1 + 1]? = some 125 then some (some ((lo : Int), -1), k1 + 2) else none)
   else if T[k1]? = some 125 then some (some ((lo : Int), (lo : Int)), k1 + 1) else none
 else some (none, k)
def kdC (T : List UInt8) (E : Nat → Option (Rx × Nat)) (k : Nat) : Option (Rx × Nat) := match T[k]? with
 | none => none
 | some b =>
  if b = 92 then match escP T (k + 1) with
   | none => none
   | some (x, k') => some (Rx.one x, k')
  else if b = 46 then some (Rx.set dotS, k + 1)
  else if b = 91 then match kb6 T (k + 1) with
   | none => none
   | some (S, k') => some (Rx.set S, k')
  else if b = 40 then match E (k + 1) with
   | none => none
   | some (r, k') => if T[k']? = some 41 then some (r, k' + 1) else none
  else if specials.contains b then none
  else some (Rx.one b, k + 1)
def kcV (T : List UInt8) : Nat → Rx → Nat → Option (Rx × Nat)
 | 0, _, _ => none
 | f + 1, r, k => match cntP T k with
  | none => none
  | some (none, k') => some (r, k')
  | some (some (lo, hi), k') => kcV T f (Rx.rep lo hi r) k'
def kdc (T : List UInt8) (k : Nat) : Bool := decide (T.length ≤ k) || T[k]? == some 124 || T[k]? == some 41
def kci (T : List UInt8) (E : Nat → Option (Rx × Nat)) : Nat → List Rx → Nat → Option (List Rx × Nat)
 | 0, _, _ => none
 | f + 1, l, k => if kdc T k then some (l, k) else match kdC T E k with
  | none => none
  | some (r, k1) => match kcV T (T.length + 1) r k1 with
   | none => none
   | some (r', k2) => kci T E f (l ++ [r']) k2
def kbv (T : List UInt8) (E : Nat → Option (Rx × Nat)) (k : Nat) : Option (Rx × Nat) := match kci T E (T.length + 1) [] k with
 | none => none
 | some (l, k') => some (Rx.seq l, k')
def kcA (T : List UInt8) (E : Nat → Option (Rx × Nat)) : Nat → List Rx → Nat → Option (List Rx × Nat)
 | 0, _, _ => none
 | f + 1, l, k => if T[k]? = some 124 then match kbv T E (k + 1) with
   | none => none
   | some (r, k') => kcA T E f (l ++ [r]) k'
  else some (l, k)
def kbW (T : List UInt8) : Nat → Nat → Option (Rx × Nat)
 | 0, _ => none
 | n + 1, k => match kbv T (kbW T n) k with
  | none => none
  | some (r, k1) => match kcA T (kbW T n) (T.length + 1) [r] k1 with
   | none => none
   | some (l, k2) => some (Rx.alt l, k2)
variable {T : List UInt8}
theorem kaw {k : Nat} {b : UInt8} (h : T[k]? = some b) : k < T.length := by
 rcases Nat.lt_or_ge k T.length with h1 | h1
 ·
  exact h1
 ·
  rw [List.getElem?_eq_none h1] at h; cases h
theorem kem {k d k' : Nat} (h : kaz T k = some (d, k')) : k' = k + 1 ∧ k < T.length := by
 unfold kaz at h
 split at h
 ·
  cases h
 ·
  rename_i b hb
  split at h
  ·
   cases h
  ·
   injection h with h
   injection h with h1 h2
   exact ⟨h2.symm, kaw hb⟩
theorem kh8 {k k' : Nat} {x : UInt8} (h : escP T k = some (x, k')) : k < k' ∧ k' ≤ T.length := by
 unfold escP at h
 split at h
 ·
  cases h
 rename_i b hb
 have hl := kaw hb
 split at h
 ·
  injection h with h; injection h with h1 h2; omega
 split at h
 ·
  injection h with h; injection h with h1 h2; omega
 split at h
 ·
  injection h with h; injection h with h1 h2; omega
 split at h
 ·
  split at h
  ·
   cases h
  rename_i h1 k1 e1
  split at h
  ·
   cases h
  rename_i h2 k2 e2
  have := kem e1
  have := kem e2
  injection h with h; injection h with h1 h2; omega
 split at h
 ·
  injection h with h; injection h with h1 h2; omega
 ·
  cases h
theorem kfy : ∀ (f k e : Nat), endP T f k = some e → k < e ∧ e ≤ T.length
 | 0, _, _, h => by cases h
 | f + 1, k, e, h => by
  unfold endP at h
  split at h
  ·
   cases h
  rename_i b hb
  have hl := kaw hb
  split at h
  ·
   injection h with h; omega
  split at h
  ·
   split at h
   ·
    cases h
   ·
    have := kfy f _ _ h; omega
  ·
   have := kfy f _ _ h; omega
theorem kkV {k k' : Nat} {S : LS} (h : kb6 T k = some (S, k')) : k < k' ∧ k' ≤ T.length := by
 unfold kb6 at h
 simp only at h
 split at h
 ·
  cases h
 rename_i e he
 split at h
 ·
  cases h
 injection h with h
 injection h with h1 h2
 have := kfy _ _ _ he
 split at this <;> omega
theorem khT : ∀ (f k n m e : Nat), k ≤ T.length → numL T f k n = some (m, e) → k ≤ e ∧ e ≤ T.length
 | 0, _, _, _, _, _, h => by cases h
 | f + 1, k, n, m, e, hk, h => by
  unfold numL at h
  split at h
  ·
   injection h with h; injection h with h1 h2; omega
  rename_i b hb
  have hl := kaw hb
  split at h
  ·
   split at h
   ·
    cases h
   ·
    have := khT f _ _ _ _ (by omega) h; omega
  ·
   injection h with h; injection h with h1 h2; omega
theorem kjC : ∀ (f k n m e : Nat), n ≤ 64 → numL T f k n = some (m, e) → m ≤ 64
 | 0, _, _, _, _, _, h => by cases h
 | f + 1, k, n, m, e, hk, h => by
  unfold numL at h
  split at h
  ·
   injection h with h; injection h with h1 h2; omega
  split at h
  ·
   split at h
   ·
    cases h
   ·
    exact kjC f _ _ _ _ (by omega) h
  ·
   injection h with h; injection h with h1 h2; omega
theorem kef {k n e : Nat} (hk : k ≤ T.length) (h : numP T k = some (n, e)) : k < e ∧ e ≤ T.length ∧ n ≤ 64 := by
 unfold numP at h
 split at h
 ·
  cases h
 rename_i m e' he
 split at h
 ·
  cases h
 rename_i hne
 injection h with h
 injection h with h1 h2
 subst h1 h2
 have h1 := khT _ _ _ _ _ hk he
 have h2 := kjC _ _ _ _ _ (by omega) he
 simp only [not_or] at hne
 omega
theorem kep {k k' : Nat} {c : Option (Int × Int)} (hk : k ≤ T.length) (h : cntP T k = some (c, k')) : k ≤ k' ∧ k' ≤ T.length ∧ (c ≠ none → k < k') := by
 unfold cntP at h
 split at h
 ·
  rename_i hb; have := kaw hb; injection h with h; injection h with h1 h2; omega
 split at h
 ·
  rename_i hb; have := kaw hb; injection h with h; injection h with h1 h2; omega
 split at h
 ·
  rename_i hb; have := kaw hb; injection h with h; injection h with h1 h2; omega
 split at h
 ·
  rename_i hb
  have hl := kaw hb
  split at h
  ·
   cases h
  rename_i lo k1 e1
  have h1 := kef (by omega) e1
  split at h
  ·
   rename_i hb1
   have hl1 := kaw hb1
   split at h
   ·
    split at h
    ·
     cases h
    rename_i hi k2 e2
    have h2 := kef (by omega) e2
    split at h
    ·
     rename_i hc
     have := kaw hc.1
     injection h with h; injection h with h1 h2; omega
    ·
     cases h
   split at h
   ·
    rename_i hc
    have := kaw hc
    injection h with h; injection h with h1 h2; omega
   ·
    cases h
  split at h
  ·
   rename_i hc
   have := kaw hc
   injection h with h; injection h with h1 h2; omega
  ·
   cases h
 ·
  injection h with h; injection h with h1 h2
  exact ⟨by omega, by omega, fun hc => absurd h1.symm hc⟩
theorem keB {E : Nat → Option (Rx × Nat)} {k k' : Nat} {r : Rx} (hE : ∀ k k' r, k ≤ T.length → E k = some (r, k') → k ≤ k' ∧ k' ≤ T.length) (h : kdC T E k = some (r, k')) : k < k' ∧ k' ≤ T.length := by
 unfold kdC at h
 split at h
 ·
  cases h
 rename_i b hb
 have hl := kaw hb
 split at h
 ·
  split at h
  ·
   cases h
  rename_i x k1 e1
  have := kh8 e1
  injection h with h; injection h with h1 h2; omega
 split at h
 ·
  injection h with h; injection h with h1 h2; omega
 split at h
 ·
  split at h
  ·
   cases h
  rename_i x k1 e1
  have := kkV e1
  injection h with h; injection h with h1 h2; omega
 split at h
 ·
  split at h
  ·
   cases h
  rename_i x k1 e1
  have := hE _ _ _ (by omega) e1
  split at h
  ·
   rename_i hc
   have := kaw hc
   injection h with h; injection h with h1 h2; omega
  ·
   cases h
 split at h
 ·
  cases h
 ·
  injection h with h; injection h with h1 h2; omega
theorem keR : ∀ (f k k' : Nat) (r r' : Rx), k ≤ T.length → kcV T f r k = some (r', k') → k ≤ k' ∧ k' ≤ T.length
 | 0, _, _, _, _, _, h => by cases h
 | f + 1, k, k', r, r', hk, h => by
  unfold kcV at h
  split at h
  ·
   cases h
  ·
   rename_i k1 e1
   have := kep hk e1
   injection h with h; injection h with h1 h2; omega
  ·
   rename_i lo hi k1 e1
   have := kep hk e1
   have := keR f _ _ _ _ (by omega) h
   omega
theorem kfG {E : Nat → Option (Rx × Nat)} (hE : ∀ k k' r, k ≤ T.length → E k = some (r, k') → k ≤ k' ∧ k' ≤ T.length) : ∀ (f k k' : Nat) (l l' : List Rx), k ≤ T.length → kci T E f l k = some (l', k') → k ≤ k' ∧ k' ≤ T.length
 | 0, _, _, _, _, _, h => by cases h
 | f + 1, k, k', l, l', hk, h => by
  unfold kci at h
  split at h
  ·
   injection h with h; injection h with h1 h2; omega
  split at h
  ·
   cases h
  rename_i r1 k1 e1
  have h1 := keB hE e1
  split at h
  ·
   cases h
  rename_i r2 k2 e2
  have h2 := keR _ _ _ _ _ (by omega) e2
  have := kfG hE f _ _ _ _ (by omega) h
  omega
theorem kca {E : Nat → Option (Rx × Nat)} {k k' : Nat} {r : Rx} (hE : ∀ k k' r, k ≤ T.length → E k = some (r, k') → k ≤ k' ∧ k' ≤ T.length) (hk : k ≤ T.length) (h : kbv T E k = some (r, k')) : k ≤ k' ∧ k' ≤ T.length := by
 unfold kbv at h
 split at h
 ·
  cases h
 rename_i l k1 e1
 have := kfG hE _ _ _ _ _ hk e1
 injection h with h; injection h with h1 h2; omega
theorem kgN {E : Nat → Option (Rx × Nat)} (hE : ∀ k k' r, k ≤ T.length → E k = some (r, k') → k ≤ k' ∧ k' ≤ T.length) : ∀ (f k k' : Nat) (l l' : List Rx), k ≤ T.length → kcA T E f l k = some (l', k') → k ≤ k' ∧ k' ≤ T.length
 | 0, _, _, _, _, _, h => by cases h
 | f + 1, k, k', l, l', hk, h => by
  unfold kcA at h
  split at h
  ·
   rename_i hb
   have hl := kaw hb
   split at h
   ·
    cases h
   rename_i r1 k1 e1
   have h1 := kca hE (by omega) e1
   have := kgN hE f _ _ _ _ (by omega) h
   omega
  ·
   injection h with h; injection h with h1 h2; omega
theorem kc4 : ∀ (n k k' : Nat) (r : Rx), k ≤ T.length → kbW T n k = some (r, k') → k ≤ k' ∧ k' ≤ T.length
 | 0, _, _, _, _, h => by cases h
 | n + 1, k, k', r, hk, h => by
  have ih := kc4 n
  unfold kbW at h
  split at h
  ·
   cases h
  rename_i r1 k1 e1
  have h1 := kca ih hk e1
  split at h
  ·
   cases h
  rename_i l k2 e2
  have h2 := kgN ih _ _ _ _ _ (by omega) e2
  injection h with h; injection h with h1 h2; omega
theorem klH {f k n : Nat} {b : UInt8} (hb : T[k]? = some b) : numL T (f + 1) k n = if 48 ≤ b ∧ b ≤ 57 then (if 64 < n * 10 + (b.toNat - 48) then none else numL T f (k + 1) (n * 10 + (b.toNat - 48))) else some (n, k) := by
 rw [numL, hb]
end Go.Proofs.YtamhdmkolfmmdaaGreatDoor
namespace Go.Proofs.YtamhdmkolfmmdaaGreatDoor
open Go
open Go.RowKit
theorem hD {p : Prop} (h : p) : Hid p := Lib.hid h
theorem gA {α : Type _} {xs : List α} {i : Nat} : xs.toArray[i]? = xs[i]? := List.getElem?_toArray
theorem gB {α : Type _} {a : α} {l : List α} : (a :: l)[0]? = some a := List.getElem?_cons_zero
theorem gC {α : Type _} {a : α} {i : Nat} {l : List α} : (a :: l)[i + 1]? = l[i]? := List.getElem?_cons_succ
theorem gE {α : Type _} (l : List α) (i : Nat) (a : α) : l.toArray.setIfInBounds i a = (l.set i a).toArray := List.setIfInBounds_toArray l i a
theorem gF {α : Type _} {x : α} {xs : List α} {a : α} : (x :: xs).set 0 a = a :: xs := List.set_cons_zero
theorem gG {α : Type _} {x : α} {xs : List α} {i : Nat} {a : α} : (x :: xs).set (i + 1) a = x :: xs.set i a := List.set_cons_succ
theorem gH {α : Type _} {i : Nat} {a : α} {l : List α} (h : l[i]? = some a) : ∃ h : i < l.length, l[i] = a := List.getElem?_eq_some_iff.1 h
theorem xE {α : Sort _} (a : α) : ∃ x, x = a := ⟨a, rfl⟩
section
variable {P : Program} {ops : Array Oper} {Q : Exit → Act → World → Prop} {md : Region.Mode} {S : World → Prop}
theorem tkH {i : Nat} {oi : Oper} {v : Value} {fuel : Nat} {listed : Array Bool} {a : Act} {w : World} (hS : S w)
  (h : wpAnyH P md ops Q S fuel (listed.setIfInBounds i true) (a.put oi.dst v) w)
  (hi : ops[i]? = some oi := by rfl) (hs : Region.noSelect ops = true := by kernel_rfl) (hf : Region.free md ops listed i = true := by kernel_rfl) (hr : (Region.ready md ops listed).contains i = true := by kernel_rfl)
  (hQ : ∀ c a w, Q (.panic c) (a.put oi.dst v) w → Q (.panic c) a w := by exact fun _ _ _ h => h) (hg : Region.wanted oi (yielded ops a.tmps) = true := by rfl)
  (hy : ∀ w', S w' → (execOp a.eval oi).run P w' = .ok (.value v) w' := by
   intro w' hSw
   (try dsimp only at hSw)
   go_simp <;> with_reducible rfl) : wpAnyH P md ops Q S (fuel + 1) listed a w :=
 wpAnyH_take hi hs hf hr hQ (Or.inl ⟨hg, hy⟩) hS h
end
end Go.Proofs.YtamhdmkolfmmdaaGreatDoor
namespace Go.Proofs.YtamhdmkolfmmdaaGreatDoor
open Go.RowKit
structure Kept (F : Nat → Prop) (w w' : World) : Prop where
 os : w'.os = w.os
 tape : w'.tape = w.tape
 output : w'.output = w.output
 size : w.heap.size ≤ w'.heap.size
 block : ∀ i, i < w.heap.size → ¬ F i → w'.heap[i]? = w.heap[i]?
def Grow (F : Nat → Prop) (n : Nat) : Nat → Prop := fun i => F i ∨ n ≤ i
def isG (g : Nat) : Nat → Prop := fun i => i = g
theorem Kept.refl (F : Nat → Prop) (w : World) : Kept F w w := ⟨rfl, rfl, rfl, Nat.le_refl _, fun _ _ _ => rfl⟩
theorem Kept.trans {F : Nat → Prop} {a b c : World} (h : Kept F a b) (k : Kept (Grow F a.heap.size) b c) : Kept F a c :=
 ⟨k.os.trans h.os, k.tape.trans h.tape, k.output.trans h.output, Nat.le_trans h.size k.size, fun i hi hF =>
  (k.block i (Nat.lt_of_lt_of_le hi h.size) (by rintro (h1 | h1); exact hF h1; omega)).trans (h.block i hi hF)⟩
theorem Kept.mono {F G : Nat → Prop} {a b : World} (h : Kept F a b) (hFG : ∀ i, F i → G i) : Kept G a b :=
 ⟨h.os, h.tape, h.output, h.size, fun i hi hG => h.block i hi fun hF => hG (hFG i hF)⟩
theorem Kept.then_ {F : Nat → Prop} {a b c : World} (h : Kept F a b) (k : Kept F b c) : Kept F a c := h.trans (k.mono fun _ hi => .inl hi)
theorem Kept.of_grown {F : Nat → Prop} {a b : World} {row : Option Nat} (h : a.grownBy b row) (hF : ∀ g, row = some g → F g) : Kept F a b :=
 ⟨h.os, h.tape, h.output, h.size, fun i hi hne => h.block i hi fun e => hne (hF i e.symm)⟩
theorem Kept.of_below {F : Nat → Prop} {a b : World} (h : Below a.heap.size a b) : Kept F a b := Kept.of_grown (kaP h none) (fun _ e => by cases e)
theorem Kept.cell {F : Nat → Prop} {a b : World} (h : Kept F a b) {p : Addr} (hp : p.block < a.heap.size) (hF : ¬ F p.block) : b.cell? p = a.cell? p := World.cell?_of_block (h.block _ hp hF)
theorem Kept.below {F : Nat → Prop} {B : Nat} {a b c : World} (h : Kept F b c) (hb : Below B a b) (hB : B ≤ b.heap.size) (hF : ∀ i, F i → B ≤ i) : Below B a c :=
 ⟨h.os.trans hb.os, h.tape.trans hb.tape, h.output.trans hb.output, Nat.le_trans hb.size h.size, fun k hk => (h.block k (by omega) fun hf => by have := hF k hf; omega).trans (hb.block k hk)⟩
theorem Kept.setCell {F : Nat → Prop} {a b : World} (h : Kept F a b) {p : Addr} (hp : F p.block ∨ a.heap.size ≤ p.block) (u : Value) : Kept F a (b.setCell p u) :=
 h.trans ⟨rfl, rfl, rfl, by simp [World.setCell], fun i _ hF => Below.heap_setCell _ _ _ _ fun e => by subst e; exact hF hp⟩
theorem Kept.alloc {F : Nat → Prop} {a b : World} (h : Kept F a b) (o : Obj) : Kept F a (b.alloc o) :=
 h.trans ⟨rfl, rfl, rfl, by simp, fun i hi _ => Below.heap_alloc _ _ _ hi⟩
theorem Kept.drew {F : Nat → Prop} {a b : World} (h : Kept F a b) : Kept F a b.drew := ⟨h.os, h.tape, h.output, h.size, h.block⟩
theorem Kept.drewN {F : Nat → Prop} {a b : World} (h : Kept F a b) (n : Nat) : Kept F a (b.drewN n) := ⟨h.os, h.tape, h.output, h.size, h.block⟩
theorem Blk.kept {F : Nat → Prop} {w w' : World} {g : Nat} {t : TypeId} {cs : Array Value} (h : Blk w g t cs) (k : Kept F w w') (hg : ¬ F g) : Blk w' g t cs := (k.block g h.lt hg).trans h
def RdF (w : World) (F : Nat → Prop) (size : Nat) (A : Option Addr) (n : Nat) (xs : List Value) : Prop :=
 xs.length = n * size ∧ (0 < n → ∃ b o, A = some ⟨b, o, none⟩ ∧ F b ∧ b < w.heap.size ∧ ∀ j u, xs[j]? = some u → w.cell? ⟨b, o + j, none⟩ = some u)
theorem RdF.keep {w w' : World} {F G : Nat → Prop} {size n : Nat} {A : Option Addr} {xs : List Value} (h : RdF w F size A n xs) (hk : ∀ i, F i → i < w.heap.size → w'.heap[i]? = w.heap[i]?) (hs : w.heap.size ≤ w'.heap.size) (hG : ∀ i, F i → i < w.heap.size → G i) : RdF w' G size A n xs :=
 ⟨h.1, fun hn => by
  obtain ⟨b, o, e, hF, hb, hc⟩ := h.2 hn
  exact ⟨b, o, e, hG b hF hb, by omega, fun j u hu => (World.cell?_of_block (hk b hF hb)).trans (hc j u hu)⟩⟩
theorem RdF.reads {w : World} {F : Nat → Prop} {size n : Nat} {A : Option Addr} {xs : List Value} (h : RdF w F size A n xs) : Reads w w.heap.size size A n xs :=
 ⟨h.1, fun hn => by
  obtain ⟨b, o, e, _, hb, hc⟩ := h.2 hn
  exact ⟨_, e, hb, fun j u hu => by rw [ka1]; exact hc j u hu⟩⟩
mutual
def RxV (w : World) (F : Nat → Prop) : Rx → List Value → Prop
 | .node kind w0 w1 w2 w3 lo hi parts, cs => ∃ A c css, cs = [.int .i64 kind, .int .u64 w0, .int .u64 w1, .int .u64 w2, .int .u64 w3, .int .i64 lo, .int .i64 hi, .slice A parts.length c] ∧
   RdF w F 8 A parts.length css ∧ RxVs w F parts css
def RxVs (w : World) (F : Nat → Prop) : List Rx → List Value → Prop
 | [], css => css = []
 | r :: rs, css => ∃ cs css', css = cs ++ css' ∧ RxV w F r cs ∧ RxVs w F rs css'
end
mutual
theorem RxV.keep {w w' : World} {F G : Nat → Prop} (hk : ∀ i, F i → i < w.heap.size → w'.heap[i]? = w.heap[i]?) (hs : w.heap.size ≤ w'.heap.size) (hG : ∀ i, F i → i < w.heap.size → G i) : ∀ (r : Rx) (cs : List Value), RxV w F r cs → RxV w' G r cs
 | .node _ _ _ _ _ _ _ parts, _, h => by
  unfold RxV at h ⊢
  obtain ⟨A, c, css, h1, h2, h3⟩ := h
  exact ⟨A, c, css, h1, h2.keep hk hs hG, RxVs.keep hk hs hG parts css h3⟩
theorem RxVs.keep {w w' : World} {F G : Nat → Prop} (hk : ∀ i, F i → i < w.heap.size → w'.heap[i]? = w.heap[i]?) (hs : w.heap.size ≤ w'.heap.size) (hG : ∀ i, F i → i < w.heap.size → G i) : ∀ (l : List Rx) (cs : List Value), RxVs w F l cs → RxVs w' G l cs
 | [], _, h => by unfold RxVs at h ⊢; exact h
 | r :: rs, _, h => by
  unfold RxVs at h ⊢
  obtain ⟨cs, css', h1, h2, h3⟩ := h
  exact ⟨cs, css', h1, RxV.keep hk hs hG r cs h2, RxVs.keep hk hs hG rs css' h3⟩
end
theorem RxV.len {w : World} {F : Nat → Prop} {r : Rx} {cs : List Value} (h : RxV w F r cs) : cs.length = 8 := by
 cases r
 unfold RxV at h
 obtain ⟨A, c, css, rfl, _⟩ := h
 rfl
theorem RxVs.append {w : World} {F : Nat → Prop} : ∀ {l l' : List Rx} {cs cs' : List Value}, RxVs w F l cs → RxVs w F l' cs' → RxVs w F (l ++ l') (cs ++ cs')
 | [], _, _, _, h, h' => by unfold RxVs at h; subst h; exact h'
 | r :: rs, _, _, _, h, h' => by
  unfold RxVs at h
  obtain ⟨cs, css', rfl, h2, h3⟩ := h
  rw [List.cons_append, List.append_assoc]
  unfold RxVs
  exact ⟨_, _, rfl, h2, h3.append h'⟩
theorem RxVs.one {w : World} {F : Nat → Prop} {r : Rx} {cs : List Value} (h : RxV w F r cs) : RxVs w F [r] cs := by
 unfold RxVs RxVs
 exact ⟨cs, [], by simp, h, rfl⟩
theorem RxVs.get {w : World} {F : Nat → Prop} : ∀ {l : List Rx} {css : List Value}, RxVs w F l css → ∀ (i : Nat) (r : Rx), l[i]? = some r → ∃ cs, RxV w F r cs ∧ ∀ j u, cs[j]? = some u → css[i * 8 + j]? = some u
 | [], _, _, i, r, hr => by simp at hr
 | r0 :: rs, _, h, i, r, hr => by
  unfold RxVs at h
  obtain ⟨cs, css', rfl, h2, h3⟩ := h
  cases i with
  | zero =>
   simp only [gB, Option.some.injEq] at hr
   subst hr
   exact ⟨cs, h2, fun j u hu => by
    have : j < cs.length := by
     rcases Nat.lt_or_ge j cs.length with h1 | h1
     ·
      exact h1
     ·
      rw [List.getElem?_eq_none h1] at hu; cases hu
    rw [Nat.zero_mul, Nat.zero_add, List.getElem?_append_left this]
    exact hu⟩
  | succ i =>
   simp only [gC] at hr
   obtain ⟨cs', h4, h5⟩ := h3.get i r hr
   exact ⟨cs', h4, fun j u hu => by
    rw [List.getElem?_append_right (by rw [h2.len]; omega), h2.len, show (i + 1) * 8 + j - 8 = i * 8 + j by omega]
    exact h5 j u hu⟩
end Go.Proofs.YtamhdmkolfmmdaaGreatDoor
namespace Go.Proofs.YtamhdmkolfmmdaaGreatDoor
def copZ (lo hi : Int) : Nat := if hi = -1 then max lo.toNat 1 else hi.toNat
mutual
def Rx.size : Rx → Nat
 | .node _ _ _ _ _ _ _ ps => 1 + kaX ps
def kaX : List Rx → Nat
 | [] => 0
 | r :: rs => r.size + kaX rs
end
mutual
def Rx.depth : Rx → Nat
 | .node _ _ _ _ _ _ _ ps => 1 + kbr ps
def kbr : List Rx → Nat
 | [] => 0
 | r :: rs => max r.depth (kbr rs)
end
def kcf (kind : Nat) : Nat := if kind = 2 then 1 else 0
def mulC (kind : Nat) (lo hi : Int) (n : Nat) : Nat := if kind = 5 then n * copZ lo hi else n
mutual
def Rx.pos : Rx → Nat
 | .node kind _ _ _ _ lo hi ps => mulC kind lo hi (kcf kind + posL ps)
def posL : List Rx → Nat
 | [] => 0
 | r :: rs => r.pos + posL rs
end
mutual
def Rx.wri : Rx → Nat
 | .node kind _ _ _ _ lo hi ps => mulC kind lo hi (wriL ps) + 1
def wriL : List Rx → Nat
 | [] => 0
 | r :: rs => r.wri + wriL rs
end
def Rx.fits (r : Rx) : Bool := decide (r.size ≤ 256) && decide (r.depth ≤ 32) && decide (r.pos ≤ 64) && decide (r.wri ≤ 4096)
mutual
def Rx.tame : Rx → Prop
 | .node kind w0 w1 w2 w3 lo hi ps => kind ≤ 5 ∧ w0 < 2 ^ 64 ∧ w1 < 2 ^ 64 ∧ w2 < 2 ^ 64 ∧ w3 < 2 ^ 64 ∧ 0 ≤ lo ∧ lo ≤ 64 ∧ -1 ≤ hi ∧ hi ≤ 64 ∧ kaM ps
def kaM : List Rx → Prop
 | [] => True
 | r :: rs => r.tame ∧ kaM rs
end
theorem kdp : ∀ {l l' : List Rx}, kaM l → kaM l' → kaM (l ++ l')
 | [], _, _, h => h
 | r :: rs, l', h, h' => by
  unfold kaM at h
  rw [List.cons_append]
  unfold kaM
  exact ⟨h.1, kdp h.2 h'⟩
theorem kgq : ∀ {l : List Rx} {i : Nat} {r : Rx}, kaM l → l[i]? = some r → r.tame
 | [], i, r, _, hr => by simp at hr
 | r0 :: rs, i, r, h, hr => by
  unfold kaM at h
  cases i with
  | zero => simp only [gB, Option.some.injEq] at hr; subst hr; exact h.1
  | succ i => exact kgq h.2 (by simpa using hr)
theorem Rx.size_pos (r : Rx) : 1 ≤ r.size := by cases r; unfold Rx.size; omega
theorem kdq : ∀ (l l' : List Rx), kaX (l ++ l') = kaX l + kaX l'
 | [], _ => by simp [kaX]
 | r :: rs, l' => by rw [List.cons_append, kaX, kaX, kdq rs l']; omega
theorem kj9 (l : List Rx) (i : Nat) (r : Rx) (h : l[i]? = some r) : kaX (l.take (i + 1)) = kaX (l.take i) + r.size := by
 rw [List.take_add_one, h, kdq]
 simp [kaX]
theorem sizeL_le (l : List Rx) (i : Nat) : kaX (l.take i) ≤ kaX l := by
 conv => rhs; rw [← List.take_append_drop i l, kdq]
 omega
theorem kew : ∀ (l l' : List Rx), kbr (l ++ l') = max (kbr l) (kbr l')
 | [], _ => by simp [kbr]
 | r :: rs, l' => by rw [List.cons_append, kbr, kbr, kew rs l']; omega
theorem kkO {l : List Rx} {i : Nat} {r : Rx} (h : l[i]? = some r) : r.depth ≤ kbr l := by
 have : l = l.take i ++ r :: l.drop (i + 1) := by
  obtain ⟨hi, rfl⟩ := List.getElem?_eq_some_iff.1 h
  rw [List.getElem_cons_drop, List.take_append_drop]
 rw [this, kew, kbr]
 omega
theorem kgJ {l : List Rx} {n : Nat} (h : ∀ (i : Nat) (r : Rx), l[i]? = some r → r.depth ≤ n) : kbr l ≤ n := by
 induction l with
 | nil => simp [kbr]
 | cons r rs ih =>
  rw [kbr]
  have h0 := h 0 r rfl
  have := ih fun i r' hr => h (i + 1) r' (by simpa using hr)
  omega
def capM : Nat := 1048576
def Rx.posC (r : Rx) : Nat := min r.pos capM
def Rx.wriC (r : Rx) : Nat := min r.wri capM
def sumC (f : Rx → Nat) : List Rx → Nat
 | [] => 0
 | r :: rs => f r + sumC f rs
theorem kfa (f : Rx → Nat) : ∀ (l l' : List Rx), sumC f (l ++ l') = sumC f l + sumC f l'
 | [], _ => by simp [sumC]
 | r :: rs, l' => by rw [List.cons_append, sumC, sumC, kfa f rs l']; omega
theorem kgs (f : Rx → Nat) (l : List Rx) (i : Nat) (r : Rx) (h : l[i]? = some r) : sumC f (l.take (i + 1)) = sumC f (l.take i) + f r := by
 rw [List.take_add_one, h, kfa]
 simp [sumC]
theorem kjo (f : Rx → Nat) (M : Nat) (hf : ∀ r, f r ≤ M) : ∀ l : List Rx, sumC f l ≤ l.length * M
 | [] => by simp [sumC]
 | r :: rs => by rw [sumC, List.length_cons, Nat.add_mul]; have := hf r; have := kjo f M hf rs; omega
theorem ki0 (a b c M : Nat) (h : min a M = min b M) : min (a * c) M = min (b * c) M := by
 rcases Nat.eq_zero_or_pos c with h0 | h0
 ·
  subst h0; simp
 ·
  by_cases ha : a < M
  ·
   have : a = b := by omega
   rw [this]
  ·
   have : M ≤ b := by omega
   have e1 : M ≤ a * c := Nat.le_trans (by omega) (Nat.le_mul_of_pos_right a h0)
   have e2 : M ≤ b * c := Nat.le_trans this (Nat.le_mul_of_pos_right b h0)
   omega
theorem khX {kind : Nat} {lo hi : Int} {a b M : Nat} (h : min a M = min b M) : min (mulC kind lo hi a) M = min (mulC kind lo hi b) M := by
 unfold mulC
 split
 ·
  exact ki0 _ _ _ _ h
 ·
  exact h
theorem khN (M : Nat) : ∀ l : List Rx, min (sumC (fun r => min r.pos M) l) M = min (posL l) M
 | [] => rfl
 | r :: rs => by rw [sumC, posL]; have := khN M rs; omega
theorem khn (M : Nat) : ∀ l : List Rx, min (sumC (fun r => min r.wri M) l) M = min (wriL l) M
 | [] => rfl
 | r :: rs => by rw [sumC, wriL]; have := khn M rs; omega
theorem khM (kind w0 w1 w2 w3 : Nat) (lo hi : Int) (ps : List Rx) (M : Nat) : min (mulC kind lo hi (kcf kind + sumC (fun r => min r.pos M) ps)) M = min (Rx.pos (.node kind w0 w1 w2 w3 lo hi ps)) M := by
 rw [Rx.pos]
 apply khX
 have := khN M ps
 omega
theorem khm (kind w0 w1 w2 w3 : Nat) (lo hi : Int) (ps : List Rx) (M : Nat) : min (mulC kind lo hi (sumC (fun r => min r.wri M) ps) + 1) M = min (Rx.wri (.node kind w0 w1 w2 w3 lo hi ps)) M := by
 rw [Rx.wri]
 have := khX (kind := kind) (lo := lo) (hi := hi) (khn M ps)
 omega
theorem khp (S : LS) (i : Nat) : ∀ n, wdN S i n < 2 ^ n
 | 0 => by simp [wdN]
 | n + 1 => by
  have := khp S i n
  rw [wdN, Nat.pow_succ]
  split <;> omega
theorem kjn (S : LS) (i : Nat) : ∀ n j, (wdN S i n).testBit j = (decide (j < n) && S (64 * i + j))
 | 0, j => by simp [wdN]
 | n + 1, j => by
  have ih := kjn S i n
  have hlt := khp S i n
  rw [wdN]
  by_cases hS : S (64 * i + n) = true
  ·
   rw [if_pos hS, Nat.add_comm]
   rcases Nat.lt_trichotomy j n with h | h | h
   ·
    rw [Nat.testBit_two_pow_add_gt h, ih]
    simp [h, Nat.lt_succ_of_lt h]
   ·
    subst h
    rw [Nat.testBit_two_pow_add_eq, ih]
    simp [hS]
   ·
    rw [Nat.testBit_lt_two_pow (Nat.lt_of_lt_of_le (by omega : 2 ^ n + wdN S i n < 2 ^ (n + 1)) (Nat.pow_le_pow_right (by omega) (by omega)))]
    simp
    omega
  ·
   rw [if_neg hS, Nat.add_zero, ih]
   rcases Nat.lt_trichotomy j n with h | h | h
   ·
    simp [h, Nat.lt_succ_of_lt h]
   ·
    subst h
    simp [hS]
   ·
    rw [decide_eq_false (by omega), decide_eq_false (by omega)]
theorem kda (S : LS) (i : Nat) : wd S i < 2 ^ 64 := khp S i 64
theorem kez (S : LS) (i j : Nat) : (wd S i).testBit j = (decide (j < 64) && S (64 * i + j)) := kjn S i 64 j
theorem kdZ {S : LS} {i x : Nat} (h : ∀ j, x.testBit j = (decide (j < 64) && S (64 * i + j))) : x = wd S i :=
 Nat.eq_of_testBit_eq fun j => by rw [h, kez]
theorem kbG {S R : LS} {i : Nat} (h : ∀ j, j < 64 → S (64 * i + j) = R (64 * i + j)) : wd S i = wd R i :=
 kdZ fun j => by
  rw [kez]
  by_cases hj : j < 64
  ·
   rw [h j hj]
  ·
   simp [hj]
theorem kaV (i : Nat) : wd kar i = 0 := (kdZ fun j => by simp [kar]).symm
theorem kfD (S R : LS) (i : Nat) : wd (orS S R) i = wd S i ||| wd R i := (kdZ fun j => by rw [Nat.testBit_or, kez, kez]; cases decide (j < 64) <;> simp [orS]).symm
theorem kk3 (b : Nat) : wd (oneS b) (b / 64) = 2 ^ (b % 64) := (kdZ fun j => by
 rw [Nat.testBit_two_pow]
 unfold oneS
 rw [Bool.eq_iff_iff]
 simp
 omega).symm
theorem kjQ {b i : Nat} (h : i ≠ b / 64) : wd (oneS b) i = 0 := (kdZ fun j => by
 unfold oneS
 simp
 intro hj
 omega).symm
theorem wd_not (S : LS) (i : Nat) : wd (notS S) i = 2 ^ 64 - 1 - wd S i := (kdZ fun j => by
 have := kda S i
 rw [show 2 ^ 64 - 1 - wd S i = 2 ^ 64 - (wd S i + 1) by omega, Nat.testBit_two_pow_sub_succ this, kez]
 unfold notS
 cases h : decide (j < 64) <;> simp).symm
def wds (S : LS) : List Nat := [wd S 0, wd S 1, wd S 2, wd S 3]
theorem wds_get (S : LS) {i : Nat} (h : i < 4) : (wds S)[i]? = some (wd S i) := by
 match i, h with
 | 0, _ => rfl
 | 1, _ => rfl
 | 2, _ => rfl
 | 3, _ => rfl
theorem wds_set (S : LS) (b : Nat) (hb : b < 256) : wds (orS S (oneS b)) = (wds S).set (b / 64) (wd S (b / 64) ||| 2 ^ (b % 64)) := by
 have h : b / 64 < 4 := by omega
 have e := kk3 b
 have o := fun i (hi : i ≠ b / 64) => kjQ (b := b) hi
 unfold wds
 rw [kfD, kfD, kfD, kfD]
 generalize b / 64 = q at *
 match q, h with
 | 0, _ => rw [e, o 1 (by omega), o 2 (by omega), o 3 (by omega)]; simp
 | 1, _ => rw [e, o 0 (by omega), o 2 (by omega), o 3 (by omega)]; simp
 | 2, _ => rw [e, o 0 (by omega), o 1 (by omega), o 3 (by omega)]; simp
 | 3, _ => rw [e, o 0 (by omega), o 1 (by omega), o 2 (by omega)]; simp
theorem kbQ {S R : LS} (h : ∀ n, n < 256 → S n = R n) : wds S = wds R := by
 unfold wds
 rw [kbG (S := S) (R := R) (i := 0) fun j hj => h _ (by omega), kbG (S := S) (R := R) (i := 1) fun j hj => h _ (by omega), kbG (S := S) (R := R) (i := 2) fun j hj => h _ (by omega), kbG (S := S) (R := R) (i := 3) fun j hj => h _ (by omega)]
theorem z29 {P : Prop} (h : P := by
 split at h
 ·
  injection h with h; injection h with h1 h2; injection h1 with h1; injection h1 with h1 h3; omega
 ·
  cases h) : P := h
variable {T : List UInt8}
theorem Rx.tame_set (S : LS) : (Rx.set S).tame := by
 unfold Rx.set Rx.tame kaM
 exact ⟨by omega, kda _ _, kda _ _, kda _ _, kda _ _, by omega, by omega, by omega, by omega, trivial⟩
theorem Rx.tame_plain {kind : Nat} {l : List Rx} (hk : kind ≤ 5) (h : kaM l) : (Rx.plain kind l).tame := by
 unfold Rx.plain Rx.tame
 exact ⟨hk, by decide, by decide, by decide, by decide, by omega, by omega, by omega, by omega, h⟩
theorem Rx.tame_rep {lo hi : Int} {r : Rx} (h : r.tame) (h1 : 0 ≤ lo) (h2 : lo ≤ 64) (h3 : -1 ≤ hi) (h4 : hi ≤ 64) : (Rx.rep lo hi r).tame := by
 unfold Rx.rep Rx.tame kaM kaM
 exact ⟨by omega, by decide, by decide, by decide, by decide, h1, h2, h3, h4, h, trivial⟩
theorem Rx.tame_seq {l : List Rx} (h : kaM l) : (Rx.seq l).tame := by
 match l, h with
 | [], h => exact Rx.tame_plain (by omega) h
 | [r], h => unfold kaM at h; exact h.1
 | r :: q :: l, h => exact Rx.tame_plain (by omega) h
theorem Rx.tame_alt {l : List Rx} (h : kaM l) : (Rx.alt l).tame := by
 match l, h with
 | [], h => exact Rx.tame_plain (by omega) h
 | [r], h => unfold kaM at h; exact h.1
 | r :: q :: l, h => exact Rx.tame_plain (by omega) h
theorem kl8 {k k' : Nat} {lo hi : Int} (h : cntP T k = some (some (lo, hi), k')) : 0 ≤ lo ∧ lo ≤ 64 ∧ -1 ≤ hi ∧ hi ≤ 64 := by
 unfold cntP at h
 split at h
 ·
  injection h with h; injection h with h1 h2; injection h1 with h1; injection h1 with h1 h3; omega
 split at h
 ·
  injection h with h; injection h with h1 h2; injection h1 with h1; injection h1 with h1 h3; omega
 split at h
 ·
  injection h with h; injection h with h1 h2; injection h1 with h1; injection h1 with h1 h3; omega
 split at h
 ·
  rename_i hb
  have hl := kaw hb
  split at h
  ·
   cases h
  rename_i lo k1 e1
  have h1 := kef (by omega) e1
  split at h
  ·
   rename_i hb1
   have hl1 := kaw hb1
   split at h
   ·
    split at h
    ·
     cases h
    rename_i hi k2 e2
    have h2 := kef (by omega) e2
    exact z29
   exact z29
  exact z29
 ·
  injection h with h; injection h with h1 h2; cases h1
theorem kj6 {E : Nat → Option (Rx × Nat)} {k k' : Nat} {r : Rx} (hE : ∀ k k' r, k ≤ T.length → E k = some (r, k') → r.tame) (h : kdC T E k = some (r, k')) : r.tame := by
 unfold kdC at h
 split at h
 ·
  cases h
 rename_i b hb
 have hl := kaw hb
 split at h
 ·
  split at h
  ·
   cases h
  injection h with h; injection h with h1 h2; subst h1; exact Rx.tame_set _
 split at h
 ·
  injection h with h; injection h with h1 h2; subst h1; exact Rx.tame_set _
 split at h
 ·
  split at h
  ·
   cases h
  injection h with h; injection h with h1 h2; subst h1; exact Rx.tame_set _
 split at h
 ·
  split at h
  ·
   cases h
  rename_i x k1 e1
  have := hE _ _ _ (by omega) e1
  split at h
  ·
   injection h with h; injection h with h1 h2; subst h1; exact this
  ·
   cases h
 split at h
 ·
  cases h
 ·
  injection h with h; injection h with h1 h2; subst h1; exact Rx.tame_set _
theorem kfX : ∀ (f k k' : Nat) (r r' : Rx), k ≤ T.length → r.tame → kcV T f r k = some (r', k') → r'.tame
 | 0, _, _, _, _, _, _, h => by cases h
 | f + 1, k, k', r, r', hk, hr, h => by
  unfold kcV at h
  split at h
  ·
   cases h
  ·
   injection h with h; injection h with h1 h2; subst h1; exact hr
  ·
   rename_i lo hi k1 e1
   have h1 := kep hk e1
   have h2 := kl8 e1
   exact kfX f _ _ _ _ (by omega) (Rx.tame_rep hr h2.1 h2.2.1 h2.2.2.1 h2.2.2.2) h
theorem ke9 {E : Nat → Option (Rx × Nat)} (hp : ∀ k k' r, k ≤ T.length → E k = some (r, k') → k ≤ k' ∧ k' ≤ T.length) (hE : ∀ k k' r, k ≤ T.length → E k = some (r, k') → r.tame) : ∀ (f k k' : Nat) (l l' : List Rx), k ≤ T.length → kaM l → kci T E f l k = some (l', k') → kaM l'
 | 0, _, _, _, _, _, _, h => by cases h
 | f + 1, k, k', l, l', hk, hl, h => by
  unfold kci at h
  split at h
  ·
   injection h with h; injection h with h1 h2; subst h1; exact hl
  split at h
  ·
   cases h
  rename_i r1 k1 e1
  have h1 := keB hp e1
  have t1 := kj6 hE e1
  split at h
  ·
   cases h
  rename_i r2 k2 e2
  have h2 := keR _ _ _ _ _ (by omega) e2
  have t2 := kfX _ _ _ _ _ (by omega) t1 e2
  exact ke9 hp hE f _ _ _ _ (by omega) (kdp hl (by unfold kaM kaM; exact ⟨t2, trivial⟩)) h
theorem ke8 {E : Nat → Option (Rx × Nat)} {k k' : Nat} {r : Rx} (hp : ∀ k k' r, k ≤ T.length → E k = some (r, k') → k ≤ k' ∧ k' ≤ T.length) (hE : ∀ k k' r, k ≤ T.length → E k = some (r, k') → r.tame) (hk : k ≤ T.length) (h : kbv T E k = some (r, k')) : r.tame := by
 unfold kbv at h
 split at h
 ·
  cases h
 rename_i l k1 e1
 have := ke9 hp hE _ _ _ _ _ hk (by unfold kaM; trivial) e1
 injection h with h; injection h with h1 h2; subst h1; exact Rx.tame_seq this
theorem kfZ {E : Nat → Option (Rx × Nat)} (hp : ∀ k k' r, k ≤ T.length → E k = some (r, k') → k ≤ k' ∧ k' ≤ T.length) (hE : ∀ k k' r, k ≤ T.length → E k = some (r, k') → r.tame) : ∀ (f k k' : Nat) (l l' : List Rx), k ≤ T.length → kaM l → kcA T E f l k = some (l', k') → kaM l'
 | 0, _, _, _, _, _, _, h => by cases h
 | f + 1, k, k', l, l', hk, hl, h => by
  unfold kcA at h
  split at h
  ·
   rename_i hb
   have hbl := kaw hb
   split at h
   ·
    cases h
   rename_i r1 k1 e1
   have h1 := kca hp (by omega) e1
   have t1 := ke8 hp hE (by omega) e1
   exact kfZ hp hE f _ _ _ _ (by omega) (kdp hl (by unfold kaM kaM; exact ⟨t1, trivial⟩)) h
  ·
   injection h with h; injection h with h1 h2; subst h1; exact hl
theorem kel : ∀ (n k k' : Nat) (r : Rx), k ≤ T.length → kbW T n k = some (r, k') → r.tame
 | 0, _, _, _, _, h => by cases h
 | n + 1, k, k', r, hk, h => by
  have ih := kel n
  have hp := kc4 (T := T) n
  unfold kbW at h
  split at h
  ·
   cases h
  rename_i r1 k1 e1
  have h1 := kca hp hk e1
  have t1 := ke8 hp ih hk e1
  split at h
  ·
   cases h
  rename_i l k2 e2
  have t2 := kfZ hp ih _ _ _ _ _ (by omega) (by unfold kaM kaM; exact ⟨t1, trivial⟩) e2
  injection h with h; injection h with h1 h2; subst h1; exact Rx.tame_alt t2
def kbY (T : List UInt8) : Option Rx := match kbW T (T.length + 1) 0 with
 | some (r, k) => if k = T.length then some r else none
 | none => none
end Go.Proofs.YtamhdmkolfmmdaaGreatDoor
namespace Go.Proofs.YtamhdmkolfmmdaaGreatDoor
open Go.RowKit
theorem u8b (b : UInt8) : 0 ≤ (b.toNat : Int) ∧ (b.toNat : Int) ≤ 255 := by have := b.toNat_lt; omega
def PS (T : List UInt8) (w : World) (g k : Nat) : Prop := Blk w g 150 #[.string ⟨T.toArray⟩, .int .i64 k] ∧ k ≤ T.length ∧ T.length ≤ 262144
def failV : List PanicEntry := [{ v := .iface 153 (.agg #[]), recovered := false }]
def PStep (T : List UInt8) (w : World) (g : Nat) (v : Value) (k' : Nat) (e : Ending) (w' : World) : Prop := e = .returned v ∧ PS T w' g k' ∧ Kept (isG g) w w'
def PFail (T : List UInt8) (w : World) (g : Nat) (e : Ending) (w' : World) : Prop := e = .panicked failV ∧ (∃ k', PS T w' g k') ∧ Kept (isG g) w w'
section
variable {T : List UInt8} {w : World} {g k : Nat}
theorem PS.cells (h : PS T w g k) : w.cell? ⟨g, 0, none⟩ = some (.string ⟨T.toArray⟩) ∧ w.cell? ⟨g, 1, none⟩ = some (.int .i64 k) ∧ w.frozen? ⟨g, 1, none⟩ = false := by
 have h0 := h.1.cell 0
 have h1 := h.1.cell 1
 have h2 := h.1.frozen 1
 simp only [gA, gB, gC] at h0 h1
 exact ⟨h0, h1, h2⟩
theorem PS.drewN (h : PS T w g k) (n : Nat) : PS T (w.drewN n) g k := h
theorem PS.drew (h : PS T w g k) : PS T w.drew g k := h
theorem PS.go (h : PS T w g k) {k' : Nat} (hk : k' ≤ T.length) : PS T (w.setCell ⟨g, 1, none⟩ (.int .i64 k')) g k' := ⟨h.1.set_ 1 _, hk, h.2.2⟩
theorem PS.kept {F : Nat → Prop} {w' : World} (h : PS T w g k) (hk : Kept F w w') (hg : ¬ F g) : PS T w' g k := ⟨h.1.kept hk hg, h.2⟩
theorem PS.alloc (h : PS T w g k) (o : Obj) : PS T (w.alloc o) g k := ⟨h.1.alloc o, h.2⟩
theorem PS.lt (h : PS T w g k) : g < w.heap.size := h.1.lt
theorem idxT {P : Program} {t : TypeId} (ht : P.underlying t = some .string) {b : UInt8} (hb : T[k]? = some b) (w : World) : (Instr.index t (.string ⟨T.toArray⟩) (.int .i64 k)).run P w = .ok (.int .u8 b.toNat) w := by
 rw [run_index_string _ _ _ _ _ ht]
 have hl := kaw hb
 have hs : (ByteArray.mk T.toArray).size = T.length := by simp [ByteArray.size]
 rw [dif_pos ⟨by omega, by omega⟩]
 congr 2
 have : T[k] = b := by rw [List.getElem?_eq_getElem hl] at hb; injection hb
 subst this
 rfl
end
theorem PS.moved {T : List UInt8} {w : World} {g k : Nat} (h : PS T w g k) (n : Nat) {k' : Nat} (hk : k' ≤ T.length) {x : Int} (hx : x = k') :
  PS T ((w.drewN n).setCell ⟨g, 1, none⟩ (.int .i64 x)) g k' ∧ Kept (isG g) w ((w.drewN n).setCell ⟨g, 1, none⟩ (.int .i64 x)) := by
 subst hx
 exact ⟨(h.drewN n).go hk, ((Kept.refl (isG g) w).drewN n).setCell (p := ⟨g, 1, none⟩) (.inl rfl) _⟩
theorem kaU {T : List UInt8} {g k : Nat} {b : UInt8} (w : World) (h : PS T w g k) (hb : T[k]? = some b) : Calls Tryz.prog 202 #[.pointer (some ⟨g, 0, none⟩)] w (PStep T w g (.int .u8 b.toNat) (k + 1)) := by
 obtain ⟨c0, c1, q1⟩ := h.cells
 have hl := kaw hb
 have hix := idxT (P := Tryz.prog) Tryz.underlying9 hb
 have hsz : (ByteArray.mk T.toArray).size = T.length := by simp [ByteArray.size]
 have hne : ((k : Int) == (T.length : Int)) = false := by simp; omega
 have hT := h.2.2
 have H := hD h
 have HB := hD hb
 clear h hb
 go_enter Tryz.func202, Tryz.ntmps202
 go_wp2_with fail
 go_quiet (fail)
 go_wp2_with fail
 go_quiet (fail)
 go_wp2_with fail
 go_ret
 exact ⟨rfl, H.out.moved _ (by omega) rfl⟩
theorem kc0 {T : List UInt8} {g k : Nat} (w : World) (h : PS T w g k) (hb : T[k]? = none) : Calls Tryz.prog 202 #[.pointer (some ⟨g, 0, none⟩)] w (PFail T w g) := by
 obtain ⟨c0, c1, q1⟩ := h.cells
 have hl : k = T.length := by have := List.getElem?_eq_none_iff.1 hb; have := h.2.1; omega
 have hsz : (ByteArray.mk T.toArray).size = T.length := by simp [ByteArray.size]
 have hT := h.2.2
 subst hl
 have H := hD h
 clear h hb
 go_enter Tryz.func202, Tryz.ntmps202
 go_wp2_with fail
 go_quiet (fail)
 go_wp2_with fail
 exact ⟨rfl, rfl, ⟨_, H.out.drewN _⟩, (Kept.refl _ _).drewN _⟩
theorem khy {T : List UInt8} {g k : Nat} {b : UInt8} (w : World) (h : PS T w g k) (hb : T[k]? = some b) : Calls Tryz.prog 138 #[.pointer (some ⟨g, 0, none⟩), .int .u8 b.toNat] w (PStep T w g (.bool true) (k + 1)) := by
 obtain ⟨c0, c1, q1⟩ := h.cells
 have hl := kaw hb
 have hix := idxT (P := Tryz.prog) Tryz.underlying9 hb
 have hsz : (ByteArray.mk T.toArray).size = T.length := by simp [ByteArray.size]
 have hne : decide ((k : Int) < (T.length : Int)) = true := by simp; omega
 have hT := h.2.2
 have H := hD h
 have HB := hD hb
 clear h hb
 go_enter Tryz.func138, Tryz.ntmps138
 go_wp2_with fail
 go_quiet (fail)
 go_wp2_with fail
 go_ret
 exact ⟨rfl, H.out.moved _ (by omega) rfl⟩
theorem kjp {T : List UInt8} {g k : Nat} {b : UInt8} (w : World) (h : PS T w g k) (hb : T[k]? ≠ some b) : Calls Tryz.prog 138 #[.pointer (some ⟨g, 0, none⟩), .int .u8 b.toNat] w (PStep T w g (.bool false) k) := by
 obtain ⟨c0, c1, q1⟩ := h.cells
 have hsz : (ByteArray.mk T.toArray).size = T.length := by simp [ByteArray.size]
 have hT := h.2.2
 have H := hD h
 have hk := h.2.1
 rcases hc : T[k]? with _ | c
 ·
  have hl : k = T.length := by have := List.getElem?_eq_none_iff.1 hc; omega
  clear h hb hc hk
  subst hl
  go_enter Tryz.func138, Tryz.ntmps138
  go_wp2_with fail
  go_quiet (fail)
  go_wp2_with fail
  go_ret
  exact ⟨rfl, H.out.drewN _, (Kept.refl _ _).drewN _⟩
 ·
  have hl := kaw hc
  have hix := idxT (P := Tryz.prog) Tryz.underlying9 hc
  have hne : decide ((k : Int) < (T.length : Int)) = true := by simp; omega
  have hcb : ((c.toNat : Int) == (b.toNat : Int)) = false := by
   simp
   intro e
   exact hb (by rw [hc, UInt8.toNat_inj.1 (show c.toNat = b.toNat by omega)])
  clear h hb hc hk
  go_enter Tryz.func138, Tryz.ntmps138
  go_wp2_with fail
  go_quiet (fail)
  go_wp2_with fail
  go_ret
  exact ⟨rfl, H.out.drewN _, (Kept.refl _ _).drewN _⟩
theorem z20 {P : Prop} (h : P := by
 split at hd
 ·
  injection hd with hd; omega
 split at hd
 ·
  injection hd with hd; omega
 split at hd
 ·
  injection hd with hd; omega
 ·
  cases hd) : P := h
theorem y66 {P : Prop} (h : P := by
 have hn := kaU w h hb
 obtain ⟨hx0, hx1⟩ := u8_int b
 have HN := hD hn
 clear hn h hb
 unfold hexd at hd
 simp only [UInt8.le_iff_toNat_le] at hd
 rw [show (48 : UInt8).toNat = 48 from rfl, show (57 : UInt8).toNat = 57 from rfl, show (97 : UInt8).toNat = 97 from rfl, show (102 : UInt8).toNat = 102 from rfl, show (65 : UInt8).toNat = 65 from rfl, show (70 : UInt8).toNat = 70 from rfl] at hd
 first
 | guard_hyp t509q0
   have hc : (48 ≤ (b.toNat : Int) ∧ (b.toNat : Int) ≤ 57 ∧ (d : Int) = b.toNat - 48) ∨ (97 ≤ (b.toNat : Int) ∧ (b.toNat : Int) ≤ 102 ∧ (d : Int) = b.toNat - 97 + 10) ∨ (65 ≤ (b.toNat : Int) ∧ (b.toNat : Int) ≤ 70 ∧ (d : Int) = b.toNat - 65 + 10) := by
    exact z20
   clear hd
   generalize (b.toNat : Int) = x at *
   generalize (d : Int) = y at *
   rcases hc with ⟨h1, h2, rfl⟩ | ⟨h1, h2, rfl⟩ | ⟨h1, h2, rfl⟩
   all_goals
    go_enter Tryz.func221, Tryz.ntmps221
    go_wp2_with fail
    refine HN.out.mono ?_
    rintro e w1 ⟨rfl, hp, hk⟩
    go_wp2_with fail
    go_ret
    exact ⟨rfl, hp, hk⟩
 | have hc : (b.toNat : Int) < 48 ∨ (57 < (b.toNat : Int) ∧ (b.toNat : Int) < 65) ∨ (70 < (b.toNat : Int) ∧ (b.toNat : Int) < 97) ∨ 102 < (b.toNat : Int) := by
    split at hd
    ·
     cases hd
    split at hd
    ·
     cases hd
    split at hd
    ·
     cases hd
    ·
     omega
   clear hd
   generalize (b.toNat : Int) = x at *
   rcases hc with h1 | ⟨h1, h2⟩ | ⟨h1, h2⟩ | h1
   all_goals
    go_enter Tryz.func221, Tryz.ntmps221
    go_wp2_with fail
    refine HN.out.mono ?_
    rintro e w1 ⟨rfl, hp, hk⟩
    go_wp2_with fail
    exact ⟨rfl, rfl, ⟨_, hp⟩, hk⟩) : P := h
theorem y28 {P : Prop} (h : P := by
 obtain ⟨hx0, hx1⟩ := u8_int b
 have hp : kcT b = ((decide (33 ≤ (b.toNat : Int)) && decide ((b.toNat : Int) ≤ 47)) || (decide (58 ≤ (b.toNat : Int)) && decide ((b.toNat : Int) ≤ 64)) || (decide (91 ≤ (b.toNat : Int)) && decide ((b.toNat : Int) ≤ 96)) || (decide (123 ≤ (b.toNat : Int)) && decide ((b.toNat : Int) ≤ 126))) := by
  unfold kcT
  rw [Bool.eq_iff_iff]
  simp [UInt8.le_iff_toNat_le]
  omega
 rw [hp]
 clear hp
 generalize (b.toNat : Int) = x at *
 have hc : x < 33 ∨ (33 ≤ x ∧ x ≤ 47) ∨ (47 < x ∧ x < 58) ∨ (58 ≤ x ∧ x ≤ 64) ∨ (64 < x ∧ x < 91) ∨ (91 ≤ x ∧ x ≤ 96) ∨ (96 < x ∧ x < 123) ∨ (123 ≤ x ∧ x ≤ 126) ∨ 126 < x := by omega
 first
 | guard_hyp t135q0
   have hr : ∀ q : Bool, ((decide (33 ≤ x) && decide (x ≤ 47)) || (decide (58 ≤ x) && decide (x ≤ 64)) || (decide (91 ≤ x) && decide (x ≤ 96)) || (decide (123 ≤ x) && decide (x ≤ 126))) = q → (Calls Tryz.prog 222 #[.int .u8 x] w fun e w' => e = .returned (.bool q) ∧ w = w') := by
    intro q hq
    have HQ := hD hq
    clear hq
    rcases hc with h1 | ⟨h1, h2⟩ | ⟨h1, h2⟩ | ⟨h1, h2⟩ | ⟨h1, h2⟩ | ⟨h1, h2⟩ | ⟨h1, h2⟩ | ⟨h1, h2⟩ | h1
    all_goals
     go_enter Tryz.func222, Tryz.ntmps222
     go_wp2_with fail
     go_ret
     refine ⟨?_, rfl⟩
     rw [← HQ.out]
     refine congrArg (fun z => Ending.returned (.bool z)) ?_
     show _ = (_ : Bool)
     rw [Bool.eq_iff_iff]
     simp
     try omega
 | have hr : ∀ q : Bool, ((decide (33 ≤ x) && decide (x ≤ 47)) || (decide (58 ≤ x) && decide (x ≤ 64)) || (decide (91 ≤ x) && decide (x ≤ 96)) || (decide (123 ≤ x) && decide (x ≤ 126))) = q → (Calls Tryz.prog 245 #[.int .u8 x] w fun e w' => e = .returned (.bool q) ∧ w = w') := by
    intro q hq
    have HQ := hD hq
    clear hq
    rcases hc with h1 | ⟨h1, h2⟩ | ⟨h1, h2⟩ | ⟨h1, h2⟩ | ⟨h1, h2⟩ | ⟨h1, h2⟩ | ⟨h1, h2⟩ | ⟨h1, h2⟩ | h1
    all_goals
     go_enter Tryz.func245, Tryz.ntmps245
     go_wp2_with fail
     go_ret
     refine ⟨?_, rfl⟩
     rw [← HQ.out]
     refine congrArg (fun z => Ending.returned (.bool z)) ?_
     show _ = (_ : Bool)
     rw [Bool.eq_iff_iff]
     simp
     try omega
 exact hr _ rfl) : P := h
def PRes (T : List UInt8) (w : World) (g : Nat) (r : Option (Value × Nat)) (e : Ending) (w' : World) : Prop := match r with
 | some (v, k') => PStep T w g v k' e w'
 | none => PFail T w g e w'
theorem kkN {T : List UInt8} {g k : Nat} (w : World) (h : PS T w g k) (hb : T[k]? = none) : Calls Tryz.prog 221 #[.pointer (some ⟨g, 0, none⟩)] w (PFail T w g) := by
 have H := hD h
 have HB := hD hb
 clear h hb
 go_enter Tryz.func221, Tryz.ntmps221
 go_wp2_with fail
 refine (kc0 _ H.out HB.out).mono ?_
 rintro e w1 ⟨rfl, ⟨k1, h1⟩, hk⟩
 go_wp2_with fail
 exact ⟨rfl, rfl, ⟨k1, h1⟩, hk⟩
theorem u8_int (b : UInt8) : 0 ≤ (b.toNat : Int) ∧ (b.toNat : Int) ≤ 255 := by have := b.toNat_lt; omega
theorem digit_in {T : List UInt8} {g k d : Nat} {b : UInt8} (w : World) (h : PS T w g k) (hb : T[k]? = some b) (hd : hexd b = some d) : Calls Tryz.prog 221 #[.pointer (some ⟨g, 0, none⟩)] w (PStep T w g (.int .u8 d) (k + 1)) := by
 have t509q0 := True.intro
 exact y66
theorem kl4 {T : List UInt8} {g k : Nat} {b : UInt8} (w : World) (h : PS T w g k) (hb : T[k]? = some b) (hd : hexd b = none) : Calls Tryz.prog 221 #[.pointer (some ⟨g, 0, none⟩)] w (PFail T w g) := by
 exact y66
def dV (r : Option (Nat × Nat)) : Option (Value × Nat) := r.map fun p => (.int .u8 p.1, p.2)
theorem keN {T : List UInt8} {g k : Nat} (w : World) (h : PS T w g k) : Calls Tryz.prog 221 #[.pointer (some ⟨g, 0, none⟩)] w (PRes T w g (dV (kaz T k))) := by
 unfold kaz
 rcases hb : T[k]? with _ | b
 ·
  exact kkN w h hb
 ·
  simp only
  rcases hd : hexd b with _ | d
  ·
   exact kl4 w h hb hd
  ·
   exact digit_in w h hb hd
theorem klC (b : UInt8) (w : World) : Calls Tryz.prog 222 #[.int .u8 b.toNat] w fun e w' => e = .returned (.bool (kcT b)) ∧ w = w' := by
 have t135q0 := True.intro
 exact y28
end Go.Proofs.YtamhdmkolfmmdaaGreatDoor
