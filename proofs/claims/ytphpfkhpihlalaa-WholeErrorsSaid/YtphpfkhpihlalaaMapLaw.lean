/- A map that the call has made, keyed by what is told apart without a draw: look-ups and stores. No function of the program is named. -/
import Derived.Test.YtphpfkhpihlalaaKept
import Derived.LaidEqlPtr
import Derived.MapKept
import Derived.Maps.OwnOps
namespace Go.Proofs.Ytphpfkhpihlalaa
open Go.RowKit
def putM (w : World) (r : Nat) (o : Obj) : World := { w with heap := w.heap.setIfInBounds r o }
theorem putM_same {w : World} {r : Nat} {o : Obj} (h : r < w.heap.size) : (putM w r o).heap[r]? = some o := by simp [putM, h]
theorem putM_other {w : World} {r k : Nat} {o : Obj} (h : k ≠ r) : (putM w r o).heap[k]? = w.heap[k]? := by
  simp [putM, Array.getElem?_setIfInBounds_ne (Ne.symm h)]
section
variable {κ : Type} [DecidableEq κ]
def lookL (l : List (κ × Value)) (k : κ) : Option Value := match l with
  | [] => none
  | p :: l => if p.1 = k then some p.2 else lookL l k
def updL (l : List (κ × Value)) (k : κ) (v : Value) : List (κ × Value) := match l with
  | [] => [(k, v)]
  | p :: l => if p.1 = k then (k, v) :: l else p :: updL l k v
theorem look_upd (l : List (κ × Value)) (k : κ) (v : Value) (j : κ) : lookL (updL l k v) j = if k = j then some v else lookL l j := by
  induction l with
  | nil => simp [updL, lookL]
  | cons p l ih =>
    unfold updL
    by_cases h : p.1 = k
    · rw [if_pos h]
      by_cases hj : k = j
      · simp [lookL, hj]
      · simp [lookL, hj, h]
    · rw [if_neg h]
      by_cases hp : p.1 = j
      · have : k ≠ j := fun e => h (hp.trans e.symm)
        simp [lookL, hp, this]
      · simp only [lookL, if_neg hp, ih]
theorem mem_upd {l : List (κ × Value)} {k : κ} {v : Value} {p : κ × Value} (h : p ∈ updL l k v) : p.1 = k ∨ p ∈ l := by
  induction l with
  | nil => simp [updL] at h; exact .inl (by rw [h])
  | cons q l ih =>
    unfold updL at h
    split at h
    · rcases List.mem_cons.1 h with rfl | h
      · exact .inl rfl
      · exact .inr (List.mem_cons_of_mem _ h)
    · rcases List.mem_cons.1 h with rfl | h
      · exact .inr (List.mem_cons_self ..)
      · rcases ih h with h | h
        · exact .inl h
        · exact .inr (List.mem_cons_of_mem _ h)
end
section
variable {κ : Type} [DecidableEq κ] {P : Program}
/-- Block g is a map with these entries. -/
def MapIs (w : World) (g : Nat) (enc : κ → Value) (l : List (κ × Value)) : Prop :=
  ∃ es clock, w.heap[g]? = some (.map es clock) ∧ es.toList.map (fun e => (e.key, e.val)) = l.map (fun p => (enc p.1, p.2))
/-- The keys of a world that are told apart without a draw. -/
structure KeyEq (P : Program) (kt : TypeId) (enc : κ → Value) (w : World) (ok : κ → Prop) : Prop where
  check : ∀ k em, ok k → (Instr.checkKey em 10000 kt (enc k)).run P w = .ok () w
  find : ∀ k es, ok k → (Instr.findKey kt (enc k) es).run P w = (Instr.findAsking kt (enc k) es).run P w
  eq : ∀ a b, ok a → ok b → (Op.equal kt (enc a) (enc b)).run P w = .ok (decide (a = b)) w
  bits : ∀ k, ok k → Instr.sameBits 10000 (enc k) (enc k) = true
theorem findAsking_law {kt : TypeId} {enc : κ → Value} {w : World} {ok : κ → Prop} (K : KeyEq P kt enc w ok) (k : κ) (hk : ok k) : ∀ (es : List MapEntry) (l : List (κ × Value)) (i : Nat),
    (∀ p ∈ l, ok p.1) → es.map (fun e => (e.key, e.val)) = l.map (fun p => (enc p.1, p.2)) →
    (lookL l k = none ∧ (Instr.findAsking kt (enc k) es i).run P w = .ok none w ∧ updL l k undef = l ++ [(k, undef)] ∧ ∀ v, updL l k v = l ++ [(k, v)]) ∨
    (∃ j v e, lookL l k = some v ∧ (Instr.findAsking kt (enc k) es i).run P w = .ok (some (i + j, v)) w ∧ es[j]? = some e ∧ e.key = enc k ∧ ∀ u, updL l k u = l.set j (k, u))
  | [], [], i, _, _ => .inl ⟨rfl, rfl, rfl, fun _ => rfl⟩
  | [], p :: l, i, _, h => by simp at h
  | e :: es, [], i, _, h => by simp at h
  | e :: es, p :: l, i, hok, h => by
    simp only [List.map_cons, List.cons.injEq, Prod.mk.injEq] at h
    obtain ⟨⟨h1, h2⟩, h3⟩ := h
    have he := K.eq k p.1 hk (hok p (List.mem_cons_self ..))
    by_cases hkp : p.1 = k
    · refine .inr ⟨0, p.2, e, by simp [lookL, hkp], ?_, rfl, by rw [h1, hkp], fun u => by simp [updL, hkp]⟩
      unfold Instr.findAsking
      rw [h1]
      rw [hkp] at he
      simp [Sem.run_bind, hkp, he, Result.andThen, h2]
    · have hne : decide (k = p.1) = false := by simpa using fun e => hkp e.symm
      rcases findAsking_law K k hk es l (i + 1) (fun q hq => hok q (List.mem_cons_of_mem _ hq)) h3 with ⟨a1, a2, a3, a4⟩ | ⟨j, v, e', a1, a2, a3, a4, a5⟩
      · refine .inl ⟨by simp [lookL, hkp, a1], ?_, by simp [updL, hkp, a3], fun v => by simp [updL, hkp, a4]⟩
        unfold Instr.findAsking
        rw [h1]
        simp [Sem.run_bind, he, hne, Result.andThen, a2]
      · refine .inr ⟨j + 1, v, e', by simp [lookL, hkp, a1], ?_, by simpa using a3, a4, fun u => by simp [updL, hkp, a5]⟩
        unfold Instr.findAsking
        rw [h1]
        simp [Sem.run_bind, he, hne, Result.andThen, a2]
        omega
theorem MapIs.lookup {w : World} {g : Nat} {enc : κ → Value} {l : List (κ × Value)} {kt et T : TypeId} {ok : κ → Prop} (h : MapIs w g enc l) (K : KeyEq P kt enc w ok) (hT : P.underlying T = some (.map kt et)) (hl : ∀ p ∈ l, ok p.1)
    {z : Value} (hz : (zeroValue et).run P w = .ok z w) (k : κ) (hk : ok k) (c : Bool) :
    (Instr.lookup T (.map (some g)) (enc k) c).run P w = .ok (if c then .tuple #[(lookL l k).getD z, .bool (lookL l k).isSome] else (lookL l k).getD z) w := by
  obtain ⟨es, clock, hb, he⟩ := h
  have h1 := K.check k es.isEmpty hk
  have h2 := K.find k es.toList hk
  rcases findAsking_law K k hk es.toList l 0 hl he with ⟨a1, a2, _⟩ | ⟨j, v, e, a1, a2, _⟩
  · rw [a2] at h2
    unfold Instr.lookup
    cases c <;> simp [Sem.run_bind, run_underlying hT, MapKept.run_getObj_map hb, h1, h2, hz, a1, Result.andThen]
  · rw [a2] at h2
    unfold Instr.lookup
    cases c <;> simp [Sem.run_bind, run_underlying hT, MapKept.run_getObj_map hb, h1, h2, a1, Result.andThen]
theorem MapIs.update {w : World} {g : Nat} {enc : κ → Value} {l : List (κ × Value)} {kt et T : TypeId} {ok : κ → Prop} (h : MapIs w g enc l) (K : KeyEq P kt enc w ok) (hT : P.underlying T = some (.map kt et)) (hl : ∀ p ∈ l, ok p.1)
    (k : κ) (hk : ok k) (v : Value) : ∃ w', (Instr.mapUpdate T (.map (some g)) (enc k) v).run P w = .ok () w' ∧ MapIs w' g enc (updL l k v) ∧ w.grownBy w' (some g) ∧ w'.heap.size = w.heap.size := by
  obtain ⟨es, clock, hb, he⟩ := h
  have hg : g < w.heap.size := by
    rcases Nat.lt_or_ge g w.heap.size with h | h
    · exact h
    · rw [Array.getElem?_eq_none h] at hb; cases hb
  have h1 := K.check k false hk
  have h2 := K.find k es.toList hk
  rcases findAsking_law K k hk es.toList l 0 hl he with ⟨a1, a2, _, a4⟩ | ⟨j, v', e, a1, a2, a3, a4, a5⟩
  · rw [a2] at h2
    refine ⟨putM w g (.map (es.push { key := enc k, val := v, born := clock }) (clock + 1)), ?_, ⟨_, _, putM_same hg, ?_⟩, ⟨rfl, rfl, rfl, by simp [putM], fun i _ hi => putM_other fun e => hi (by rw [e])⟩, by simp [putM]⟩
    · unfold Instr.mapUpdate
      simp [Sem.run_bind, run_underlying hT, MapKept.run_getObj_map hb, h1, h2, Result.andThen, MapKept.run_setObj_map _ hb, putM]
    · rw [a4, Array.toList_push, List.map_append, he, List.map_append]
      rfl
  · rw [Nat.zero_add] at a2
    rw [a2] at h2
    have hek : (es[j]?).map (·.key) = some (enc k) := by
      rw [← Array.getElem?_toList, a3]
      simp [a4]
    have hbits := K.bits k hk
    refine ⟨putM w g (.map (es.modify j fun e => { e with key := enc k, val := v }) clock), ?_, ⟨_, _, putM_same hg, ?_⟩, ⟨rfl, rfl, rfl, by simp [putM], fun i _ hi => putM_other fun e => hi (by rw [e])⟩, by simp [putM]⟩
    · unfold Instr.mapUpdate
      simp only [Sem.run_bind, run_underlying hT, MapKept.run_getObj_map hb, h1, h2, Result.andThen]
      simp [hek, Instr.keyThatStays, hbits, MapKept.run_setObj_map _ hb, putM]
    · rw [a5]
      apply List.ext_getElem?
      intro i
      have hei : ∀ i : Nat, (es[i]?).map (fun e => (e.key, e.val)) = (l[i]?).map (fun p => (enc p.1, p.2)) := fun i => by
        have := congrArg (fun q => q[i]?) he
        simpa using this
      have hj : j < l.length := by
        have := hei j
        rw [← Array.getElem?_toList, a3] at this
        rcases Nat.lt_or_ge j l.length with h | h
        · exact h
        · rw [List.getElem?_eq_none h] at this; cases this
      by_cases hij : j = i
      · subst hij
        have hjs : j < es.size := by
          rcases Nat.lt_or_ge j es.size with h | h
          · exact h
          · rw [List.getElem?_eq_none (by simpa using h)] at a3; cases a3
        simp [hj, hjs]
      · simp [hij, hei i]
end
/-- Addresses as keys. -/
def encA (a : Addr) : Value := .pointer (some a)
def plainA (w : World) (a : Addr) : Prop := ∃ t cs, Blk w a.block t cs
theorem ptr_keyEq {P : Program} {kt el : TypeId} {j : TypeInfo} (hk : P.underlying kt = some (.pointer el)) (he : P.info? el = some j) (hs : j.size ≠ 0) (w : World) : KeyEq P kt encA w (plainA w) where
  check := fun k em _ => by
    have h : ∀ n : Nat, (Instr.checkKey em (n + 1) kt (encA k)).run P w = .ok () w := fun n => by unfold encA; simp [Instr.checkKey, run_underlying hk]
    exact h 9999
  find := fun k es _ => by
    cases es with
    | nil => simp [Instr.findKey, run_underlying hk, Instr.findNow, Instr.findAsking]
    | cons e es => simp [Instr.findKey, run_underlying hk, Instr.findNow, Instr.sameNow]
  eq := fun a b ha hb => by
    obtain ⟨ta, ca, ha⟩ := ha
    obtain ⟨tb, cb, hb⟩ := hb
    have h : ∀ d : Nat, (Op.equalIn (d + 1) kt (encA a) (encA b)).run P w = .ok (decide (a = b)) w := fun d => by
      unfold encA
      by_cases hab : a = b
      · subst hab
        simp [Op.equalIn, run_underlying hk, sizeOf, typeInfo, he, run_sameAddr_same]
      · simp [Op.equalIn, run_underlying hk, sizeOf, typeInfo, he, hs, run_sameAddr_other w hab ha hb, hab]
    exact h 9999
  bits := fun k _ => by
    have h : ∀ n : Nat, Instr.sameBits n (encA k) (encA k) = true := fun n => by unfold encA; cases n <;> simp [Instr.sameBits]
    exact h 10000
section
variable {κ : Type} [DecidableEq κ] {P : Program}
theorem wpList_lookup_law {w : World} {ops : Array Oper} {rest : List Oper} {o : Oper} {a : Act} {Q : Exit → Act → World → Prop} (hg : o.guard = none) (m x : Operand) (T : TypeId) (c : Bool) (hop : o.op = Op.lookup T m x c)
    (g : Nat) (enc : κ → Value) (l : List (κ × Value)) (kt et : TypeId) (ok : κ → Prop) (h : MapIs w g enc l) (K : KeyEq P kt enc w ok) (hT : P.underlying T = some (.map kt et)) (hl : ∀ p ∈ l, ok p.1)
    (z : Value) (hz : (zeroValue et).run P w = .ok z w) (k : κ) (hk : ok k) (hm : a.eval m = .map (some g)) (hx : a.eval x = enc k)
    (hK : wpList P ops Q rest (a.put o.dst (if c then .tuple #[(lookL l k).getD z, .bool (lookL l k).isSome] else (lookL l k).getD z)) w) : wpList P ops Q (o :: rest) a w := by
  refine wpList_plain hg fun K' hK' => ?_
  have hrun := h.lookup K hT hl hz k hk c
  unfold Oper.wp
  simp only [execOp, hop, hm, hx, hrun, Sem.run_bind, Result.andThen]
  exact hK' _ _ hK
theorem wpList_update_law {w : World} {ops : Array Oper} {rest : List Oper} {o : Oper} {a : Act} {Q : Exit → Act → World → Prop} (hg : o.guard = none) (m x v : Operand) (T : TypeId) (hop : o.op = Op.mapUpdate T m x v)
    (g : Nat) (enc : κ → Value) (l : List (κ × Value)) (kt et : TypeId) (ok : κ → Prop) (h : MapIs w g enc l) (K : KeyEq P kt enc w ok) (hT : P.underlying T = some (.map kt et)) (hl : ∀ p ∈ l, ok p.1)
    (k : κ) (hk : ok k) (hm : a.eval m = .map (some g)) (hx : a.eval x = enc k)
    (hK : ∀ w', MapIs w' g enc (updL l k (a.eval v)) → w.grownBy w' (some g) → w'.heap.size = w.heap.size → wpList P ops Q rest (a.put o.dst undef) w') : wpList P ops Q (o :: rest) a w := by
  refine wpList_plain hg fun K' hK' => ?_
  obtain ⟨w', hrun, h1, h2, h3⟩ := h.update K hT hl k hk (a.eval v)
  unfold Oper.wp
  simp [execOp, hop, hm, hx, hrun, Result.andThen]
  exact hK' _ _ (hK w' h1 h2 h3)
end
theorem MapIs.keep {κ : Type} {w w' : World} {g : Nat} {enc : κ → Value} {l : List (κ × Value)} (h : MapIs w g enc l) (hk : w'.heap[g]? = w.heap[g]?) : MapIs w' g enc l := by
  obtain ⟨es, clock, hb, he⟩ := h
  exact ⟨es, clock, hk.trans hb, he⟩
theorem MapIs.new {κ : Type} (w : World) (enc : κ → Value) (c : Nat) : MapIs (w.alloc (.map #[] c)) w.heap.size enc [] := ⟨#[], c, heap_alloc_new w _, rfl⟩
end Go.Proofs.Ytphpfkhpihlalaa
