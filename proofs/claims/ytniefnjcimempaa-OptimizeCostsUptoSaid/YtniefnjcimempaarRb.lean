/- A map that the call has made, keyed by what is told apart without a draw: look-ups and stores. No function of the program is named. Plain: expressions with the addresses of their nodes; the stack machine that lists them, each after its arguments. An expression in memory; rows of the call's own that are cut. -/
import Derived.Test.YtniefnjcimempaarRa
import Derived.LaidEqlPtr
import Derived.MapKept
import Derived.Maps.OwnOps
import Derived.Test.YtniefnjcimempaaProg
import Derived.WalkKit
namespace Go.Proofs.Ytniefnjcimempaa
open Go.RowKit
def putM (w : World) (r : Nat) (o : Obj) : World := { w with heap := w.heap.setIfInBounds r o }
theorem putM_same {w : World} {r : Nat} {o : Obj} (h : r < w.heap.size) : (putM w r o).heap[r]? = some o := by simp [putM, h]
theorem putM_other {w : World} {r k : Nat} {o : Obj} (h : k ≠ r) : (putM w r o).heap[k]? = w.heap[k]? := by
  simp [putM, Array.getElem?_setIfInBounds_ne (Ne.symm h)]
section
variable {κ : Type} [DecidableEq κ]
def lookL (l : List (κ × Value)) (k : κ) : Option Value := match l with
  | [] => none
  | p :: l => if p.1 = k then some p.2 else lookL l k
def updL (l : List (κ × Value)) (k : κ) (v : Value) : List (κ × Value) := match l with
  | [] => [(k, v)]
  | p :: l => if p.1 = k then (k, v) :: l else p :: updL l k v
theorem look_upd (l : List (κ × Value)) (k : κ) (v : Value) (j : κ) : lookL (updL l k v) j = if k = j then some v else lookL l j := by
  induction l with
  | nil => simp [updL, lookL]
  | cons p l ih =>
    unfold updL
    by_cases h : p.1 = k
    · rw [if_pos h]
      by_cases hj : k = j
      · simp [lookL, hj]
      · simp [lookL, hj, h]
    · rw [if_neg h]
      by_cases hp : p.1 = j
      · have : k ≠ j := fun e => h (hp.trans e.symm)
        simp [lookL, hp, this]
      · simp only [lookL, if_neg hp, ih]
theorem mem_upd {l : List (κ × Value)} {k : κ} {v : Value} {p : κ × Value} (h : p ∈ updL l k v) : p.1 = k ∨ p ∈ l := by
  induction l with
  | nil => simp [updL] at h; exact .inl (by rw [h])
  | cons q l ih =>
    unfold updL at h
    split at h
    · rcases List.mem_cons.1 h with rfl | h
      · exact .inl rfl
      · exact .inr (List.mem_cons_of_mem _ h)
    · rcases List.mem_cons.1 h with rfl | h
      · exact .inr (List.mem_cons_self ..)
      · rcases ih h with h | h
        · exact .inl h
        · exact .inr (List.mem_cons_of_mem _ h)
end
section
variable {κ : Type} [DecidableEq κ] {P : Program}
def MapIs (w : World) (g : Nat) (enc : κ → Value) (l : List (κ × Value)) : Prop :=
  ∃ es clock, w.heap[g]? = some (.map es clock) ∧ es.toList.map (fun e => (e.key, e.val)) = l.map (fun p => (enc p.1, p.2))
structure KeyEq (P : Program) (kt : TypeId) (enc : κ → Value) (w : World) (ok : κ → Prop) : Prop where
  check : ∀ k em, ok k → (Instr.checkKey em 10000 kt (enc k)).run P w = .ok () w
  find : ∀ k es, ok k → (Instr.findKey kt (enc k) es).run P w = (Instr.findAsking kt (enc k) es).run P w
  eq : ∀ a b, ok a → ok b → (Op.equal kt (enc a) (enc b)).run P w = .ok (decide (a = b)) w
  bits : ∀ k, ok k → Instr.sameBits 10000 (enc k) (enc k) = true
theorem findAsking_law {kt : TypeId} {enc : κ → Value} {w : World} {ok : κ → Prop} (K : KeyEq P kt enc w ok) (k : κ) (hk : ok k) : ∀ (es : List MapEntry) (l : List (κ × Value)) (i : Nat),
    (∀ p ∈ l, ok p.1) → es.map (fun e => (e.key, e.val)) = l.map (fun p => (enc p.1, p.2)) →
    (lookL l k = none ∧ (Instr.findAsking kt (enc k) es i).run P w = .ok none w ∧ updL l k undef = l ++ [(k, undef)] ∧ ∀ v, updL l k v = l ++ [(k, v)]) ∨
    (∃ j v e, lookL l k = some v ∧ (Instr.findAsking kt (enc k) es i).run P w = .ok (some (i + j, v)) w ∧ es[j]? = some e ∧ e.key = enc k ∧ ∀ u, updL l k u = l.set j (k, u))
  | [], [], i, _, _ => .inl ⟨rfl, rfl, rfl, fun _ => rfl⟩
  | [], p :: l, i, _, h => by simp at h
  | e :: es, [], i, _, h => by simp at h
  | e :: es, p :: l, i, hok, h => by
    simp only [List.map_cons, List.cons.injEq, Prod.mk.injEq] at h
    obtain ⟨⟨h1, h2⟩, h3⟩ := h
    have he := K.eq k p.1 hk (hok p (List.mem_cons_self ..))
    by_cases hkp : p.1 = k
    · refine .inr ⟨0, p.2, e, by simp [lookL, hkp], ?_, rfl, by rw [h1, hkp], fun u => by simp [updL, hkp]⟩
      unfold Instr.findAsking
      rw [h1]
      rw [hkp] at he
      simp [Sem.run_bind, hkp, he, Result.andThen, h2]
    · have hne : decide (k = p.1) = false := by simpa using fun e => hkp e.symm
      rcases findAsking_law K k hk es l (i + 1) (fun q hq => hok q (List.mem_cons_of_mem _ hq)) h3 with ⟨a1, a2, a3, a4⟩ | ⟨j, v, e', a1, a2, a3, a4, a5⟩
      · refine .inl ⟨by simp [lookL, hkp, a1], ?_, by simp [updL, hkp, a3], fun v => by simp [updL, hkp, a4]⟩
        unfold Instr.findAsking
        rw [h1]
        simp [Sem.run_bind, he, hne, Result.andThen, a2]
      · refine .inr ⟨j + 1, v, e', by simp [lookL, hkp, a1], ?_, by simpa using a3, a4, fun u => by simp [updL, hkp, a5]⟩
        unfold Instr.findAsking
        rw [h1]
        simp [Sem.run_bind, he, hne, Result.andThen, a2]
        omega
theorem MapIs.lookup {w : World} {g : Nat} {enc : κ → Value} {l : List (κ × Value)} {kt et T : TypeId} {ok : κ → Prop} (h : MapIs w g enc l) (K : KeyEq P kt enc w ok) (hT : P.underlying T = some (.map kt et)) (hl : ∀ p ∈ l, ok p.1)
    {z : Value} (hz : (zeroValue et).run P w = .ok z w) (k : κ) (hk : ok k) (c : Bool) :
    (Instr.lookup T (.map (some g)) (enc k) c).run P w = .ok (if c then .tuple #[(lookL l k).getD z, .bool (lookL l k).isSome] else (lookL l k).getD z) w := by
  obtain ⟨es, clock, hb, he⟩ := h
  have h1 := K.check k es.isEmpty hk
  have h2 := K.find k es.toList hk
  rcases findAsking_law K k hk es.toList l 0 hl he with ⟨a1, a2, _⟩ | ⟨j, v, e, a1, a2, _⟩
  · rw [a2] at h2
    unfold Instr.lookup
    cases c <;> simp [Sem.run_bind, run_underlying hT, MapKept.run_getObj_map hb, h1, h2, hz, a1, Result.andThen]
  · rw [a2] at h2
    unfold Instr.lookup
    cases c <;> simp [Sem.run_bind, run_underlying hT, MapKept.run_getObj_map hb, h1, h2, a1, Result.andThen]
theorem MapIs.update {w : World} {g : Nat} {enc : κ → Value} {l : List (κ × Value)} {kt et T : TypeId} {ok : κ → Prop} (h : MapIs w g enc l) (K : KeyEq P kt enc w ok) (hT : P.underlying T = some (.map kt et)) (hl : ∀ p ∈ l, ok p.1)
    (k : κ) (hk : ok k) (v : Value) : ∃ w', (Instr.mapUpdate T (.map (some g)) (enc k) v).run P w = .ok () w' ∧ MapIs w' g enc (updL l k v) ∧ w.grownBy w' (some g) ∧ w'.heap.size = w.heap.size := by
  obtain ⟨es, clock, hb, he⟩ := h
  have hg : g < w.heap.size := by
    rcases Nat.lt_or_ge g w.heap.size with h | h
    · exact h
    · rw [Array.getElem?_eq_none h] at hb; cases hb
  have h1 := K.check k false hk
  have h2 := K.find k es.toList hk
  rcases findAsking_law K k hk es.toList l 0 hl he with ⟨a1, a2, _, a4⟩ | ⟨j, v', e, a1, a2, a3, a4, a5⟩
  · rw [a2] at h2
    refine ⟨putM w g (.map (es.push { key := enc k, val := v, born := clock }) (clock + 1)), ?_, ⟨_, _, putM_same hg, ?_⟩, ⟨rfl, rfl, rfl, by simp [putM], fun i _ hi => putM_other fun e => hi (by rw [e])⟩, by simp [putM]⟩
    · unfold Instr.mapUpdate
      simp [Sem.run_bind, run_underlying hT, MapKept.run_getObj_map hb, h1, h2, Result.andThen, MapKept.run_setObj_map _ hb, putM]
    · rw [a4, Array.toList_push, List.map_append, he, List.map_append]
      rfl
  · rw [Nat.zero_add] at a2
    rw [a2] at h2
    have hek : (es[j]?).map (·.key) = some (enc k) := by
      rw [← Array.getElem?_toList, a3]
      simp [a4]
    have hbits := K.bits k hk
    refine ⟨putM w g (.map (es.modify j fun e => { e with key := enc k, val := v }) clock), ?_, ⟨_, _, putM_same hg, ?_⟩, ⟨rfl, rfl, rfl, by simp [putM], fun i _ hi => putM_other fun e => hi (by rw [e])⟩, by simp [putM]⟩
    · unfold Instr.mapUpdate
      simp only [Sem.run_bind, run_underlying hT, MapKept.run_getObj_map hb, h1, h2, Result.andThen]
      simp [hek, Instr.keyThatStays, hbits, MapKept.run_setObj_map _ hb, putM]
    · rw [a5]
      apply List.ext_getElem?
      intro i
      have hei : ∀ i : Nat, (es[i]?).map (fun e => (e.key, e.val)) = (l[i]?).map (fun p => (enc p.1, p.2)) := fun i => by
        have := congrArg (fun q => q[i]?) he
        simpa using this
      have hj : j < l.length := by
        have := hei j
        rw [← Array.getElem?_toList, a3] at this
        rcases Nat.lt_or_ge j l.length with h | h
        · exact h
        · rw [List.getElem?_eq_none h] at this; cases this
      by_cases hij : j = i
      · subst hij
        have hjs : j < es.size := by
          rcases Nat.lt_or_ge j es.size with h | h
          · exact h
          · rw [List.getElem?_eq_none (by simpa using h)] at a3; cases a3
        simp [hj, hjs]
      · simp [hij, hei i]
end
def encA (a : Addr) : Value := .pointer (some a)
def plainA (w : World) (a : Addr) : Prop := ∃ t cs, Blk w a.block t cs
section
variable {κ : Type} [DecidableEq κ] {P : Program}
theorem wpList_update_law {w : World} {ops : Array Oper} {rest : List Oper} {o : Oper} {a : Act} {Q : Exit → Act → World → Prop} (hg : o.guard = none) (m x v : Operand) (T : TypeId) (hop : o.op = Op.mapUpdate T m x v)
    (g : Nat) (enc : κ → Value) (l : List (κ × Value)) (kt et : TypeId) (ok : κ → Prop) (h : MapIs w g enc l) (K : KeyEq P kt enc w ok) (hT : P.underlying T = some (.map kt et)) (hl : ∀ p ∈ l, ok p.1)
    (k : κ) (hk : ok k) (hm : a.eval m = .map (some g)) (hx : a.eval x = enc k)
    (hK : ∀ w', MapIs w' g enc (updL l k (a.eval v)) → w.grownBy w' (some g) → w'.heap.size = w.heap.size → wpList P ops Q rest (a.put o.dst undef) w') : wpList P ops Q (o :: rest) a w := by
  refine wpList_plain hg fun K' hK' => ?_
  obtain ⟨w', hrun, h1, h2, h3⟩ := h.update K hT hl k hk (a.eval v)
  unfold Oper.wp
  simp [execOp, hop, hm, hx, hrun, Result.andThen]
  exact hK' _ _ (hK w' h1 h2 h3)
end
theorem MapIs.keep {κ : Type} {w w' : World} {g : Nat} {enc : κ → Value} {l : List (κ × Value)} (h : MapIs w g enc l) (hk : w'.heap[g]? = w.heap[g]?) : MapIs w' g enc l := by
  obtain ⟨es, clock, hb, he⟩ := h
  exact ⟨es, clock, hk.trans hb, he⟩
theorem MapIs.new {κ : Type} (w : World) (enc : κ → Value) (c : Nat) : MapIs (w.alloc (.map #[] c)) w.heap.size enc [] := ⟨#[], c, heap_alloc_new w _, rfl⟩
end Go.Proofs.Ytniefnjcimempaa
namespace Go.Proofs.Ytniefnjcimempaa
inductive Lx where
  | node (ad : Addr) (kind : Int) (text : List UInt8) (num : Int) (args : List Lx)
def Lx.ad : Lx → Addr | .node a _ _ _ _ => a
def Lx.kind : Lx → Int | .node _ k _ _ _ => k
def Lx.text : Lx → List UInt8 | .node _ _ t _ _ => t
def Lx.num : Lx → Int | .node _ _ _ n _ => n
def Lx.args : Lx → List Lx | .node _ _ _ _ l => l
mutual
def Lx.size : Lx → Nat
  | .node _ _ _ _ l => 1 + sizeXL l
def sizeXL : List Lx → Nat
  | [] => 0
  | x :: l => x.size + sizeXL l
end
mutual
def Lx.all (p : Lx → Bool) : Lx → Bool
  | .node a k t n l => p (.node a k t n l) && allXL p l
def allXL (p : Lx → Bool) : List Lx → Bool
  | [] => true
  | x :: l => x.all p && allXL p l
end
theorem sizeXL_mem : ∀ {l : List Lx} {x : Lx}, x ∈ l → x.size ≤ sizeXL l
  | y :: l, x, h => by
    unfold sizeXL
    rcases List.mem_cons.1 h with rfl | h
    · omega
    · have := sizeXL_mem h; omega
theorem Lx.arg_size {x a : Lx} (h : a ∈ x.args) : a.size < x.size := by
  obtain ⟨ad, k, t, n, l⟩ := x
  have := sizeXL_mem (show a ∈ l from h)
  show a.size < 1 + sizeXL l
  omega
theorem Lx.size_pos (x : Lx) : 1 ≤ x.size := by cases x; unfold Lx.size; omega
theorem Lx.size_eq (x : Lx) : x.size = 1 + sizeXL x.args := by cases x; rfl
theorem allXL_iff (p : Lx → Bool) : ∀ l : List Lx, allXL p l = true ↔ ∀ a ∈ l, a.all p = true
  | [] => by simp [allXL]
  | x :: l => by simp [allXL, allXL_iff p l]
theorem Lx.all_iff (p : Lx → Bool) (x : Lx) : x.all p = true ↔ p x = true ∧ ∀ a ∈ x.args, a.all p = true := by
  obtain ⟨ad, k, t, n, l⟩ := x
  rw [Lx.all, Bool.and_eq_true, allXL_iff]
  rfl
inductive Sub : Lx → Lx → Prop where
  | refl (r : Lx) : Sub r r
  | arg {x y r : Lx} : x ∈ y.args → Sub y r → Sub x r
theorem Sub.all {p : Lx → Bool} {x r : Lx} (h : Sub x r) (hr : r.all p = true) : x.all p = true := by
  induction h with
  | refl r => exact hr
  | arg h1 _ ih => exact ((Lx.all_iff p _).1 (ih hr)).2 _ h1
theorem Sub.size {x r : Lx} (h : Sub x r) : x.size ≤ r.size := by
  induction h with
  | refl r => exact Nat.le_refl _
  | arg h1 _ ih => have := Lx.arg_size h1; omega
def Det (r : Lx) : Prop := ∀ x y, Sub x r → Sub y r → x.ad = y.ad → x = y
def lookC (s : List (Addr × Value)) (a : Addr) : Value := (lookL s a).getD (.int .i64 0)
theorem lookC_upd (s : List (Addr × Value)) (a : Addr) (v : Value) (b : Addr) : lookC (updL s a v) b = if a = b then v else lookC s b := by
  unfold lookC
  rw [look_upd]
  split <;> rfl
structure OInv (p : Lx → Bool) (r : Lx) (s : List (Addr × Value)) (stk : List (Lx × Bool)) (out : List Lx) : Prop where
  sub : ∀ q ∈ stk, Sub q.1 r
  pw : stk.Pairwise fun a b => b.2 = true → a.1.size < b.1.size
  opn : ∀ a, lookC s a = .int .i64 1 → ∃ y, (y, true) ∈ stk ∧ y.ad = a
  cls : ∀ a, lookC s a = .int .i64 2 → ∀ y, Sub y r → y.ad = a → y.all p = true ∧ y ∈ out
  mark : ∀ pre y post, stk = pre ++ (y, true) :: post → p y = true ∧ ∀ a ∈ y.args, lookC s a.ad = .int .i64 2 ∨ ∃ b, (a, b) ∈ pre
  goal : r.all p = false → ∃ q ∈ stk, q.2 = false ∧ q.1.all p = false
  top : lookC s r.ad = .int .i64 2 ∨ ∃ b, (r, b) ∈ stk
  vals : ∀ a, lookC s a = .int .i64 0 ∨ lookC s a = .int .i64 1 ∨ lookC s a = .int .i64 2
  lst : ∀ i x, out[i]? = some x → Sub x r ∧ ∀ a ∈ x.args, a ∈ out.take i
section
variable {p : Lx → Bool} {r : Lx} {s : List (Addr × Value)} {stk : List (Lx × Bool)} {out : List Lx}
theorem OInv.left (hd : Det r) {y : Lx} (h : OInv p r s ((y, true) :: stk) out) : OInv p r (updL s y.ad (.int .i64 2)) stk (out ++ [y]) where
  sub := fun q hq => h.sub q (List.mem_cons_of_mem _ hq)
  pw := (List.pairwise_cons.1 h.pw).2
  opn := fun a ha => by
    rw [lookC_upd] at ha
    split at ha
    · injection ha with _ ha; cases ha
    · rename_i hne
      obtain ⟨z, hz, e⟩ := h.opn a ha
      rcases List.mem_cons.1 hz with h1 | h1
      · injection h1 with h1; subst h1; exact absurd e hne
      · exact ⟨z, h1, e⟩
  cls := fun a ha z hz e => by
    rw [lookC_upd] at ha
    have hy := h.sub _ (List.mem_cons_self ..)
    split at ha
    · rename_i hya
      have : z = y := hd z y hz hy (e.trans hya.symm)
      subst this
      obtain ⟨m1, m2⟩ := h.mark [] z stk rfl
      refine ⟨(Lx.all_iff p z).2 ⟨m1, fun x hx => ?_⟩, by simp⟩
      rcases m2 x hx with h1 | ⟨b, h1⟩
      · exact (h.cls _ h1 x (.arg hx hy) rfl).1
      · cases h1
    · obtain ⟨h1, h2⟩ := h.cls a ha z hz e
      exact ⟨h1, List.mem_append_left _ h2⟩
  mark := fun pre z post e => by
    obtain ⟨m1, m2⟩ := h.mark ((y, true) :: pre) z post (by rw [e]; rfl)
    refine ⟨m1, fun x hx => ?_⟩
    rw [lookC_upd]
    rcases m2 x hx with h1 | ⟨b, h1⟩
    · by_cases hxy : y.ad = x.ad
      · exact .inl (by rw [if_pos hxy])
      · exact .inl (by rw [if_neg hxy]; exact h1)
    · rcases List.mem_cons.1 h1 with h1 | h1
      · injection h1 with h1 _; subst h1; exact .inl (by rw [if_pos rfl])
      · exact .inr ⟨b, h1⟩
  goal := fun hr => by
    obtain ⟨q, hq, h1, h2⟩ := h.goal hr
    rcases List.mem_cons.1 hq with rfl | hq
    · cases h1
    · exact ⟨q, hq, h1, h2⟩
  top := by
    rw [lookC_upd]
    rcases h.top with h1 | ⟨b, h1⟩
    · by_cases hxy : y.ad = r.ad
      · exact .inl (by rw [if_pos hxy])
      · exact .inl (by rw [if_neg hxy]; exact h1)
    · rcases List.mem_cons.1 h1 with h1 | h1
      · injection h1 with h1 _; exact .inl (by rw [if_pos (by rw [h1])])
      · exact .inr ⟨b, h1⟩
  vals := fun a => by
    rw [lookC_upd]
    split
    · exact .inr (.inr rfl)
    · exact h.vals a
  lst := fun i x hx => by
    have hy := h.sub _ (List.mem_cons_self ..)
    rcases Nat.lt_or_ge i out.length with hi | hi
    · rw [List.getElem?_append_left hi] at hx
      obtain ⟨h1, h2⟩ := h.lst i x hx
      refine ⟨h1, fun a ha => ?_⟩
      rw [List.take_append_of_le_length (by omega)]
      exact h2 a ha
    · rw [List.getElem?_append_right hi] at hx
      have h0 : i - out.length = 0 := by
        rcases Nat.eq_zero_or_pos (i - out.length) with h0 | h0
        · exact h0
        · rw [List.getElem?_eq_none (by simp; omega)] at hx; cases hx
      rw [h0] at hx
      simp only [List.getElem?_cons_zero, Option.some.injEq] at hx
      subst hx
      refine ⟨hy, fun a ha => ?_⟩
      have hi' : i = out.length := by omega
      rw [hi', List.take_left]
      rcases (h.mark [] y stk rfl).2 a ha with h1 | ⟨b, h1⟩
      · exact (h.cls _ h1 a (.arg ha hy) rfl).2
      · cases h1
theorem OInv.closed {x : Lx} (h : OInv p r s ((x, false) :: stk) out) (hc : lookC s x.ad = .int .i64 2) : OInv p r s stk out where
  sub := fun q hq => h.sub q (List.mem_cons_of_mem _ hq)
  pw := (List.pairwise_cons.1 h.pw).2
  opn := fun a ha => by
    obtain ⟨z, hz, e⟩ := h.opn a ha
    rcases List.mem_cons.1 hz with h1 | h1
    · injection h1 with _ h1; cases h1
    · exact ⟨z, h1, e⟩
  cls := h.cls
  mark := fun pre z post e => by
    obtain ⟨m1, m2⟩ := h.mark ((x, false) :: pre) z post (by rw [e]; rfl)
    refine ⟨m1, fun a ha => ?_⟩
    rcases m2 a ha with h1 | ⟨b, h1⟩
    · exact .inl h1
    · rcases List.mem_cons.1 h1 with h1 | h1
      · injection h1 with h1 _; subst h1; exact .inl hc
      · exact .inr ⟨b, h1⟩
  goal := fun hr => by
    obtain ⟨q, hq, h1, h2⟩ := h.goal hr
    rcases List.mem_cons.1 hq with rfl | hq
    · have := (h.cls _ hc x (h.sub _ (List.mem_cons_self ..)) rfl).1
      rw [this] at h2; cases h2
    · exact ⟨q, hq, h1, h2⟩
  top := by
    rcases h.top with h1 | ⟨b, h1⟩
    · exact .inl h1
    · rcases List.mem_cons.1 h1 with h1 | h1
      · injection h1 with h1 _; subst h1; exact .inl hc
      · exact .inr ⟨b, h1⟩
  vals := h.vals
  lst := h.lst
theorem OInv.fail {x : Lx} (h : OInv p r s ((x, false) :: stk) out) (hp : p x = false) : r.all p = false := by
  rcases hr : r.all p with _ | _
  · rfl
  · have := ((Lx.all_iff p x).1 ((h.sub _ (List.mem_cons_self ..)).all hr)).1
    rw [hp] at this; cases this
theorem OInv.push {x : Lx} (h : OInv p r s ((x, false) :: stk) out) (hp : p x = true) (hc : lookC s x.ad = .int .i64 0) :
    OInv p r (updL s x.ad (.int .i64 1)) (x.args.reverse.map (·, false) ++ (x, true) :: stk) out where
  sub := fun q hq => by
    have hx := h.sub _ (List.mem_cons_self ..)
    rcases List.mem_append.1 hq with hq | hq
    · obtain ⟨a, ha, rfl⟩ := List.mem_map.1 hq
      exact .arg (List.mem_reverse.1 ha) hx
    · rcases List.mem_cons.1 hq with rfl | hq
      · exact hx
      · exact h.sub q (List.mem_cons_of_mem _ hq)
  pw := by
    obtain ⟨p1, p2⟩ := List.pairwise_cons.1 h.pw
    refine List.pairwise_append.2 ⟨?_, List.pairwise_cons.2 ⟨fun q hq hb => p1 q hq hb, p2⟩, fun a ha b hb hbt => ?_⟩
    · rw [List.pairwise_map]
      exact List.pairwise_of_forall fun _ _ e => by cases e
    · obtain ⟨y, hy, rfl⟩ := List.mem_map.1 ha
      have := Lx.arg_size (List.mem_reverse.1 hy)
      rcases List.mem_cons.1 hb with rfl | hb
      · exact this
      · exact Nat.lt_trans this (p1 b hb hbt)
  opn := fun a ha => by
    rw [lookC_upd] at ha
    split at ha
    · rename_i e
      exact ⟨x, by simp, e⟩
    · obtain ⟨z, hz, e⟩ := h.opn a ha
      rcases List.mem_cons.1 hz with h1 | h1
      · injection h1 with _ h1; cases h1
      · exact ⟨z, List.mem_append_right _ (List.mem_cons_of_mem _ h1), e⟩
  cls := fun a ha z hz e => by
    rw [lookC_upd] at ha
    split at ha
    · injection ha with _ ha; cases ha
    · exact h.cls a ha z hz e
  mark := fun pre y post e => by
    have hcl : ∀ a : Lx, lookC s a.ad = .int .i64 2 → lookC (updL s x.ad (.int .i64 1)) a.ad = .int .i64 2 := fun a ha => by
      rw [lookC_upd, if_neg]
      · exact ha
      · intro e; rw [e] at hc; rw [hc] at ha; injection ha with _ ha; cases ha
    rw [List.append_eq_append_iff] at e
    rcases e with ⟨l, e1, e2⟩ | ⟨l, e1, e2⟩
    · cases l with
      | nil =>
        simp only [List.nil_append, List.cons.injEq, Prod.mk.injEq] at e2
        obtain ⟨⟨rfl, _⟩, rfl⟩ := e2
        refine ⟨hp, fun a ha => .inr ⟨false, ?_⟩⟩
        rw [e1, List.append_nil]
        exact List.mem_map.2 ⟨a, List.mem_reverse.2 ha, rfl⟩
      | cons q l =>
        simp only [List.cons_append, List.cons.injEq] at e2
        obtain ⟨rfl, e3⟩ := e2
        obtain ⟨m1, m2⟩ := h.mark ((x, false) :: l) y post (by rw [e3]; rfl)
        refine ⟨m1, fun a ha => ?_⟩
        rcases m2 a ha with h1 | ⟨b, h1⟩
        · exact .inl (hcl a h1)
        · rcases List.mem_cons.1 h1 with h1 | h1
          · injection h1 with h1 _
            subst h1
            exact .inr ⟨true, by rw [e1]; simp⟩
          · exact .inr ⟨b, by rw [e1]; simp [h1]⟩
    · cases l with
      | nil =>
        simp only [List.nil_append, List.cons.injEq, Prod.mk.injEq] at e2
        obtain ⟨⟨rfl, _⟩, rfl⟩ := e2
        refine ⟨hp, fun a ha => .inr ⟨false, ?_⟩⟩
        rw [List.append_nil] at e1
        rw [← e1]
        exact List.mem_map.2 ⟨a, List.mem_reverse.2 ha, rfl⟩
      | cons q l =>
        exfalso
        simp only [List.cons_append, List.cons.injEq] at e2
        obtain ⟨rfl, _⟩ := e2
        have : (y, true) ∈ x.args.reverse.map (·, false) := by rw [e1]; simp
        obtain ⟨a, _, e⟩ := List.mem_map.1 this
        injection e with _ e
        cases e
  goal := fun hr => by
    obtain ⟨q, hq, h1, h2⟩ := h.goal hr
    rcases List.mem_cons.1 hq with rfl | hq
    · have : ∃ a ∈ x.args, a.all p = false := by
        apply Classical.byContradiction
        intro hn
        have : x.all p = true := (Lx.all_iff p x).2 ⟨hp, fun a ha => by
          rcases hz : a.all p with _ | _
          · exact absurd ⟨a, ha, hz⟩ hn
          · rfl⟩
        rw [this] at h2; cases h2
      obtain ⟨a, ha, hz⟩ := this
      exact ⟨(a, false), List.mem_append_left _ (List.mem_map.2 ⟨a, List.mem_reverse.2 ha, rfl⟩), rfl, hz⟩
    · exact ⟨q, List.mem_append_right _ (List.mem_cons_of_mem _ hq), h1, h2⟩
  top := by
    rcases h.top with h1 | ⟨b, h1⟩
    · refine .inl ?_
      rw [lookC_upd, if_neg]
      · exact h1
      · intro e; rw [e] at hc; rw [hc] at h1; injection h1 with _ h1; cases h1
    · rcases List.mem_cons.1 h1 with h1 | h1
      · injection h1 with h1 _; subst h1; exact .inr ⟨true, by simp⟩
      · exact .inr ⟨b, by simp [h1]⟩
  vals := fun a => by
    rw [lookC_upd]
    split
    · exact .inr (.inl rfl)
    · exact h.vals a
  lst := h.lst
theorem OInv.done (h : OInv p r s [] out) : r.all p = true ∧ r ∈ out := by
  have h1 : r.all p = true := by
    rcases hr : r.all p with _ | _
    · obtain ⟨q, hq, _⟩ := h.goal hr; cases hq
    · rfl
  refine ⟨h1, ?_⟩
  rcases h.top with h2 | ⟨b, h2⟩
  · exact (h.cls _ h2 r (.refl r) rfl).2
  · cases h2
end
end Go.Proofs.Ytniefnjcimempaa
namespace Go.Proofs.Ytniefnjcimempaa
open Go.RowKit
mutual
def LxAt (w : World) (F : Nat → Prop) : Lx → Prop
  | .node ad kind text num args => ∃ (b o : Nat) (A : Option Addr) (c : Nat) (t : TypeId) (cs : Array Value), ad = ⟨b, o, none⟩ ∧ F b ∧ Blk w b t cs ∧ cs[o]? = some (.int .i64 kind) ∧ cs[o + 1]? = some (.string ⟨text.toArray⟩) ∧ cs[o + 2]? = some (.int .i64 num) ∧
      cs[o + 3]? = some (.slice A args.length c) ∧ LxAts w F A 0 args
def LxAts (w : World) (F : Nat → Prop) (A : Option Addr) : Nat → List Lx → Prop
  | _, [] => True
  | i, x :: l => (∃ b o, A = some ⟨b, o, none⟩ ∧ x.ad = ⟨b, o + i * 4, none⟩) ∧ LxAt w F x ∧ LxAts w F A (i + 1) l
end
mutual
theorem LxAt.keep {w w' : World} {F G : Nat → Prop} (hk : ∀ i, F i → i < w.heap.size → w'.heap[i]? = w.heap[i]?) (hG : ∀ i, F i → i < w.heap.size → G i) : ∀ x : Lx, LxAt w F x → LxAt w' G x
  | .node _ _ _ _ args, h => by
    unfold LxAt at h ⊢
    obtain ⟨b, o, A, c, t, cs, h1, h2, h3, h4, h5, h6, h7, h8⟩ := h
    exact ⟨b, o, A, c, t, cs, h1, hG b h2 h3.lt, (hk b h2 h3.lt).trans h3, h4, h5, h6, h7, LxAts.keep hk hG A 0 args h8⟩
theorem LxAts.keep {w w' : World} {F G : Nat → Prop} (hk : ∀ i, F i → i < w.heap.size → w'.heap[i]? = w.heap[i]?) (hG : ∀ i, F i → i < w.heap.size → G i) (A : Option Addr) : ∀ (i : Nat) (l : List Lx), LxAts w F A i l → LxAts w' G A i l
  | _, [], h => by unfold LxAts at h ⊢; exact h
  | i, x :: l, h => by
    unfold LxAts at h ⊢
    exact ⟨h.1, LxAt.keep hk hG x h.2.1, LxAts.keep hk hG A (i + 1) l h.2.2⟩
end
theorem LxAts.get {w : World} {F : Nat → Prop} {A : Option Addr} : ∀ {l : List Lx} {i : Nat}, LxAts w F A i l → ∀ (j : Nat) (x : Lx), l[j]? = some x → (∃ b o, A = some ⟨b, o, none⟩ ∧ x.ad = ⟨b, o + (i + j) * 4, none⟩) ∧ LxAt w F x
  | [], _, _, j, x, hx => by simp at hx
  | y :: l, i, h, j, x, hx => by
    unfold LxAts at h
    cases j with
    | zero =>
      simp only [List.getElem?_cons_zero, Option.some.injEq] at hx
      subst hx
      exact ⟨h.1, h.2.1⟩
    | succ j =>
      obtain ⟨h1, h2⟩ := h.2.2.get j x (by simpa using hx)
      exact ⟨by rw [show i + (j + 1) = i + 1 + j by omega]; exact h1, h2⟩
theorem LxAt.sub {w : World} {F : Nat → Prop} {x r : Lx} (h : Sub x r) (hr : LxAt w F r) : LxAt w F x := by
  induction h with
  | refl r => exact hr
  | @arg x y r h1 _ ih =>
    have hy := ih hr
    obtain ⟨ad, k, t, n, l⟩ := y
    unfold LxAt at hy
    obtain ⟨b, o, A, c, t, cs, _, _, _, _, _, _, _, h8⟩ := hy
    obtain ⟨j, hj⟩ := List.getElem?_of_mem (show x ∈ l from h1)
    exact (h8.get j x hj).2
theorem LxAt.plain {w : World} {F : Nat → Prop} {x : Lx} (h : LxAt w F x) : plainA w x.ad ∧ F x.ad.block := by
  obtain ⟨ad, k, t, n, l⟩ := x
  unfold LxAt at h
  obtain ⟨b, o, A, c, tt, cs, rfl, h2, h3, _⟩ := h
  exact ⟨⟨tt, cs, h3⟩, h2⟩
theorem LxAt.cells {w : World} {F : Nat → Prop} {x : Lx} (h : LxAt w F x) : ∃ (b o : Nat) (A : Option Addr) (c : Nat), x.ad = ⟨b, o, none⟩ ∧ F b ∧ b < w.heap.size ∧ w.cell? ⟨b, o, none⟩ = some (.int .i64 x.kind) ∧ w.cell? ⟨b, o + 1, none⟩ = some (.string ⟨x.text.toArray⟩) ∧ w.cell? ⟨b, o + 2, none⟩ = some (.int .i64 x.num) ∧
    w.cell? ⟨b, o + 3, none⟩ = some (.slice A x.args.length c) ∧ LxAts w F A 0 x.args := by
  obtain ⟨ad, k, t, n, l⟩ := x
  unfold LxAt at h
  obtain ⟨b, o, A, c, tt, cs, rfl, h2, h3, h4, h5, h6, h7, h8⟩ := h
  exact ⟨b, o, A, c, rfl, h2, h3.lt, by rw [h3.cell]; exact h4, by rw [h3.cell]; exact h5, by rw [h3.cell]; exact h6, by rw [h3.cell]; exact h7, h8⟩
theorem own_cut {w : World} {base e size n c : Nat} {A : Option Addr} {xs : List Value} (h : w.ownsRow base e size (.slice A n c) n xs) (k : Nat) (hk : k ≤ n) (hn : 0 < n) : w.ownsRow base e size (.slice A k c) k (xs.take (k * size)) := by
  obtain ⟨h1, h2⟩ := h
  have hle : k * size ≤ n * size := Nat.mul_le_mul_right _ hk
  rcases h2 with ⟨_, rfl⟩ | ⟨g, cap, cur, hv, h3, h4, h5, h6, h7, h8⟩
  · omega
  · injection hv with hA _ hc
    subst hA hc
    refine ⟨by rw [List.length_take, h1]; omega, .inr ⟨g, c, cur, rfl, h3, h4, by omega, h6, h7, ?_⟩⟩
    rw [← h8, List.take_take, Nat.min_eq_left hle]
theorem own_at {w : World} {base e size n : Nat} {v : Value} {xs : List Value} (h : w.ownsRow base e size v n xs) (hn : 0 < n) : ∃ g c, v = .slice (some ⟨g, 0, none⟩) n c ∧ n ≤ c ∧ base ≤ g ∧ g < w.heap.size ∧ ∀ j u, xs[j]? = some u → w.cell? ⟨g, j, none⟩ = some u := by
  obtain ⟨h1, h2⟩ := h
  rcases h2 with ⟨_, rfl⟩ | ⟨g, cap, cur, hv, h3, h4, h5, h6, h7, h8⟩
  · omega
  · refine ⟨g, cap, hv, h5, h3, Blk.lt h4, fun j u hu => ?_⟩
    rw [cell_of_row w g j cur e (0, 0) h4]
    rw [← h8, List.getElem?_take] at hu
    split at hu
    · simpa using hu
    · cases hu
end Go.Proofs.Ytniefnjcimempaa
