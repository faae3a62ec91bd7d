/- The walk of validNode at an empty expression, a set, a sequence (printed by gen_vn.py). -/
import Derived.Test.YtpiagfmjekcncaaDoorjGv
import Derived.Test.YtpiagfmjekcncaaDoorjMeas
import Derived.Test.YtpiagfmjekcncaaDoorjMem
import Derived.LaidEqlPtr
import Derived.MapKept
import Derived.Maps.OwnOps
import Derived.WalkSpells
import Derived.WalkLawsBesides
import Derived.Deep.LoopGhost
import Derived.Outline
set_option linter.unusedVariables false
set_option linter.unusedSimpArgs false
set_option linter.unusedSectionVars false
namespace Go.Proofs.YtpiagfmjekcncaaDoor
open Go.RowKit
theorem vnode_1 (b o c : Nat) (A : Option Addr) (w : World) (h : At8 w b o [.int .i64 1, .int .u64 0, .int .u64 0, .int .u64 0, .int .u64 0, .int .i64 0, .int .i64 0, .slice A 0 c]) :
    Calls Tryd.prog 43 #[.pointer (some ⟨b, o, none⟩)] w fun e w' => e = .returned (.bool true) ∧ w = w' := by
  have c0 := h.2 0 _ rfl; have c1 := h.2 1 _ rfl; have c2 := h.2 2 _ rfl; have c3 := h.2 3 _ rfl
  have c4 := h.2 4 _ rfl; have c5 := h.2 5 _ rfl; have c6 := h.2 6 _ rfl; have c7 := h.2 7 _ rfl
  rw [Nat.add_zero] at c0
  clear h
  go_enter Tryd.func43, Tryd.ntmps43
  go_wp2_with fail
  go_ret
  exact ⟨rfl, rfl⟩
theorem vnode_2 (b o c : Nat) (A : Option Addr) (x0 x1 x2 x3 : Nat) (w : World) (h : At8 w b o [.int .i64 2, .int .u64 x0, .int .u64 x1, .int .u64 x2, .int .u64 x3, .int .i64 0, .int .i64 0, .slice A 0 c]) :
    Calls Tryd.prog 43 #[.pointer (some ⟨b, o, none⟩)] w fun e w' => e = .returned (.bool true) ∧ w = w' := by
  have c0 := h.2 0 _ rfl; have c1 := h.2 1 _ rfl; have c2 := h.2 2 _ rfl; have c3 := h.2 3 _ rfl
  have c4 := h.2 4 _ rfl; have c5 := h.2 5 _ rfl; have c6 := h.2 6 _ rfl; have c7 := h.2 7 _ rfl
  rw [Nat.add_zero] at c0
  clear h
  go_enter Tryd.func43, Tryd.ntmps43
  go_wp2_with fail
  go_ret
  exact ⟨rfl, rfl⟩
theorem vnode_3 (b o c : Nat) (A : Option Addr) (n : Nat) (w : World) (hn : 2 ≤ n) (h : At8 w b o [.int .i64 3, .int .u64 0, .int .u64 0, .int .u64 0, .int .u64 0, .int .i64 0, .int .i64 0, .slice A n c]) :
    Calls Tryd.prog 43 #[.pointer (some ⟨b, o, none⟩)] w fun e w' => e = .returned (.bool true) ∧ w = w' := by
  have c0 := h.2 0 _ rfl; have c1 := h.2 1 _ rfl; have c2 := h.2 2 _ rfl; have c3 := h.2 3 _ rfl
  have c4 := h.2 4 _ rfl; have c5 := h.2 5 _ rfl; have c6 := h.2 6 _ rfl; have c7 := h.2 7 _ rfl
  rw [Nat.add_zero] at c0
  have e1 : decide (2 ≤ (n : Int)) = true := decide_eq_true (by omega)
  have e2 : (2 : Int) ≤ (n : Int) := by omega
  clear h
  go_enter Tryd.func43, Tryd.ntmps43
  go_wp2_with fail
  go_ret
  exact ⟨rfl, rfl⟩
end Go.Proofs.YtpiagfmjekcncaaDoor
namespace Go.Proofs.YtpiagfmjekcncaaDoor
open Go.RowKit
def putM (w : World) (r : Nat) (o : Obj) : World := { w with heap := w.heap.setIfInBounds r o }
theorem putM_same {w : World} {r : Nat} {o : Obj} (h : r < w.heap.size) : (putM w r o).heap[r]? = some o := by simp [putM, h]
theorem putM_other {w : World} {r k : Nat} {o : Obj} (h : k ≠ r) : (putM w r o).heap[k]? = w.heap[k]? := by
  simp [putM, Array.getElem?_setIfInBounds_ne (Ne.symm h)]
section
variable {κ : Type} [DecidableEq κ]
def lookL (l : List (κ × Value)) (k : κ) : Option Value := match l with
  | [] => none
  | p :: l => if p.1 = k then some p.2 else lookL l k
def updL (l : List (κ × Value)) (k : κ) (v : Value) : List (κ × Value) := match l with
  | [] => [(k, v)]
  | p :: l => if p.1 = k then (k, v) :: l else p :: updL l k v
theorem look_upd (l : List (κ × Value)) (k : κ) (v : Value) (j : κ) : lookL (updL l k v) j = if k = j then some v else lookL l j := by
  induction l with
  | nil => simp [updL, lookL]
  | cons p l ih =>
    unfold updL
    by_cases h : p.1 = k
    · rw [if_pos h]
      by_cases hj : k = j
      · simp [lookL, hj]
      · simp [lookL, hj, h]
    · rw [if_neg h]
      by_cases hp : p.1 = j
      · have : k ≠ j := fun e => h (hp.trans e.symm)
        simp [lookL, hp, this]
      · simp only [lookL, if_neg hp, ih]
theorem mem_upd {l : List (κ × Value)} {k : κ} {v : Value} {p : κ × Value} (h : p ∈ updL l k v) : p.1 = k ∨ p ∈ l := by
  induction l with
  | nil => simp [updL] at h; exact .inl (by rw [h])
  | cons q l ih =>
    unfold updL at h
    split at h
    · rcases List.mem_cons.1 h with rfl | h
      · exact .inl rfl
      · exact .inr (List.mem_cons_of_mem _ h)
    · rcases List.mem_cons.1 h with rfl | h
      · exact .inr (List.mem_cons_self ..)
      · rcases ih h with h | h
        · exact .inl h
        · exact .inr (List.mem_cons_of_mem _ h)
end
section
variable {κ : Type} [DecidableEq κ] {P : Program}
/-- Block g is a map with these entries. -/
def MapIs (w : World) (g : Nat) (enc : κ → Value) (l : List (κ × Value)) : Prop :=
  ∃ es clock, w.heap[g]? = some (.map es clock) ∧ es.toList.map (fun e => (e.key, e.val)) = l.map (fun p => (enc p.1, p.2))
/-- The keys of a world that are told apart without a draw. -/
structure KeyEq (P : Program) (kt : TypeId) (enc : κ → Value) (w : World) (ok : κ → Prop) : Prop where
  check : ∀ k em, ok k → (Instr.checkKey em 10000 kt (enc k)).run P w = .ok () w
  find : ∀ k es, ok k → (Instr.findKey kt (enc k) es).run P w = (Instr.findAsking kt (enc k) es).run P w
  eq : ∀ a b, ok a → ok b → (Op.equal kt (enc a) (enc b)).run P w = .ok (decide (a = b)) w
  bits : ∀ k, ok k → Instr.sameBits 10000 (enc k) (enc k) = true
theorem findAsking_law {kt : TypeId} {enc : κ → Value} {w : World} {ok : κ → Prop} (K : KeyEq P kt enc w ok) (k : κ) (hk : ok k) : ∀ (es : List MapEntry) (l : List (κ × Value)) (i : Nat),
    (∀ p ∈ l, ok p.1) → es.map (fun e => (e.key, e.val)) = l.map (fun p => (enc p.1, p.2)) →
    (lookL l k = none ∧ (Instr.findAsking kt (enc k) es i).run P w = .ok none w ∧ updL l k undef = l ++ [(k, undef)] ∧ ∀ v, updL l k v = l ++ [(k, v)]) ∨
    (∃ j v e, lookL l k = some v ∧ (Instr.findAsking kt (enc k) es i).run P w = .ok (some (i + j, v)) w ∧ es[j]? = some e ∧ e.key = enc k ∧ ∀ u, updL l k u = l.set j (k, u))
  | [], [], i, _, _ => .inl ⟨rfl, rfl, rfl, fun _ => rfl⟩
  | [], p :: l, i, _, h => by simp at h
  | e :: es, [], i, _, h => by simp at h
  | e :: es, p :: l, i, hok, h => by
    simp only [List.map_cons, List.cons.injEq, Prod.mk.injEq] at h
    obtain ⟨⟨h1, h2⟩, h3⟩ := h
    have he := K.eq k p.1 hk (hok p (List.mem_cons_self ..))
    by_cases hkp : p.1 = k
    · refine .inr ⟨0, p.2, e, by simp [lookL, hkp], ?_, rfl, by rw [h1, hkp], fun u => by simp [updL, hkp]⟩
      unfold Instr.findAsking
      rw [h1]
      rw [hkp] at he
      simp [Sem.run_bind, hkp, he, Result.andThen, h2]
    · have hne : decide (k = p.1) = false := by simpa using fun e => hkp e.symm
      rcases findAsking_law K k hk es l (i + 1) (fun q hq => hok q (List.mem_cons_of_mem _ hq)) h3 with ⟨a1, a2, a3, a4⟩ | ⟨j, v, e', a1, a2, a3, a4, a5⟩
      · refine .inl ⟨by simp [lookL, hkp, a1], ?_, by simp [updL, hkp, a3], fun v => by simp [updL, hkp, a4]⟩
        unfold Instr.findAsking
        rw [h1]
        simp [Sem.run_bind, he, hne, Result.andThen, a2]
      · refine .inr ⟨j + 1, v, e', by simp [lookL, hkp, a1], ?_, by simpa using a3, a4, fun u => by simp [updL, hkp, a5]⟩
        unfold Instr.findAsking
        rw [h1]
        simp [Sem.run_bind, he, hne, Result.andThen, a2]
        omega
theorem MapIs.lookup {w : World} {g : Nat} {enc : κ → Value} {l : List (κ × Value)} {kt et T : TypeId} {ok : κ → Prop} (h : MapIs w g enc l) (K : KeyEq P kt enc w ok) (hT : P.underlying T = some (.map kt et)) (hl : ∀ p ∈ l, ok p.1)
    {z : Value} (hz : (zeroValue et).run P w = .ok z w) (k : κ) (hk : ok k) (c : Bool) :
    (Instr.lookup T (.map (some g)) (enc k) c).run P w = .ok (if c then .tuple #[(lookL l k).getD z, .bool (lookL l k).isSome] else (lookL l k).getD z) w := by
  obtain ⟨es, clock, hb, he⟩ := h
  have h1 := K.check k es.isEmpty hk
  have h2 := K.find k es.toList hk
  rcases findAsking_law K k hk es.toList l 0 hl he with ⟨a1, a2, _⟩ | ⟨j, v, e, a1, a2, _⟩
  · rw [a2] at h2
    unfold Instr.lookup
    cases c <;> simp [Sem.run_bind, run_underlying hT, MapKept.run_getObj_map hb, h1, h2, hz, a1, Result.andThen]
  · rw [a2] at h2
    unfold Instr.lookup
    cases c <;> simp [Sem.run_bind, run_underlying hT, MapKept.run_getObj_map hb, h1, h2, a1, Result.andThen]
theorem MapIs.update {w : World} {g : Nat} {enc : κ → Value} {l : List (κ × Value)} {kt et T : TypeId} {ok : κ → Prop} (h : MapIs w g enc l) (K : KeyEq P kt enc w ok) (hT : P.underlying T = some (.map kt et)) (hl : ∀ p ∈ l, ok p.1)
    (k : κ) (hk : ok k) (v : Value) : ∃ w', (Instr.mapUpdate T (.map (some g)) (enc k) v).run P w = .ok () w' ∧ MapIs w' g enc (updL l k v) ∧ w.grownBy w' (some g) ∧ w'.heap.size = w.heap.size := by
  obtain ⟨es, clock, hb, he⟩ := h
  have hg : g < w.heap.size := by
    rcases Nat.lt_or_ge g w.heap.size with h | h
    · exact h
    · rw [Array.getElem?_eq_none h] at hb; cases hb
  have h1 := K.check k false hk
  have h2 := K.find k es.toList hk
  rcases findAsking_law K k hk es.toList l 0 hl he with ⟨a1, a2, _, a4⟩ | ⟨j, v', e, a1, a2, a3, a4, a5⟩
  · rw [a2] at h2
    refine ⟨putM w g (.map (es.push { key := enc k, val := v, born := clock }) (clock + 1)), ?_, ⟨_, _, putM_same hg, ?_⟩, ⟨rfl, rfl, rfl, by simp [putM], fun i _ hi => putM_other fun e => hi (by rw [e])⟩, by simp [putM]⟩
    · unfold Instr.mapUpdate
      simp [Sem.run_bind, run_underlying hT, MapKept.run_getObj_map hb, h1, h2, Result.andThen, MapKept.run_setObj_map _ hb, putM]
    · rw [a4, Array.toList_push, List.map_append, he, List.map_append]
      rfl
  · rw [Nat.zero_add] at a2
    rw [a2] at h2
    have hek : (es[j]?).map (·.key) = some (enc k) := by
      rw [← Array.getElem?_toList, a3]
      simp [a4]
    have hbits := K.bits k hk
    refine ⟨putM w g (.map (es.modify j fun e => { e with key := enc k, val := v }) clock), ?_, ⟨_, _, putM_same hg, ?_⟩, ⟨rfl, rfl, rfl, by simp [putM], fun i _ hi => putM_other fun e => hi (by rw [e])⟩, by simp [putM]⟩
    · unfold Instr.mapUpdate
      simp only [Sem.run_bind, run_underlying hT, MapKept.run_getObj_map hb, h1, h2, Result.andThen]
      simp [hek, Instr.keyThatStays, hbits, MapKept.run_setObj_map _ hb, putM]
    · rw [a5]
      apply List.ext_getElem?
      intro i
      have hei : ∀ i : Nat, (es[i]?).map (fun e => (e.key, e.val)) = (l[i]?).map (fun p => (enc p.1, p.2)) := fun i => by
        have := congrArg (fun q => q[i]?) he
        simpa using this
      have hj : j < l.length := by
        have := hei j
        rw [← Array.getElem?_toList, a3] at this
        rcases Nat.lt_or_ge j l.length with h | h
        · exact h
        · rw [List.getElem?_eq_none h] at this; cases this
      by_cases hij : j = i
      · subst hij
        have hjs : j < es.size := by
          rcases Nat.lt_or_ge j es.size with h | h
          · exact h
          · rw [List.getElem?_eq_none (by simpa using h)] at a3; cases a3
        simp [hj, hjs]
      · simp [hij, hei i]
end
/-- Addresses as keys. -/
def encA (a : Addr) : Value := .pointer (some a)
def plainA (w : World) (a : Addr) : Prop := ∃ t cs, Blk w a.block t cs
theorem ptr_keyEq {P : Program} {kt el : TypeId} {j : TypeInfo} (hk : P.underlying kt = some (.pointer el)) (he : P.info? el = some j) (hs : j.size ≠ 0) (w : World) : KeyEq P kt encA w (plainA w) where
  check := fun k em _ => by
    have h : ∀ n : Nat, (Instr.checkKey em (n + 1) kt (encA k)).run P w = .ok () w := fun n => by unfold encA; simp [Instr.checkKey, run_underlying hk]
    exact h 9999
  find := fun k es _ => by
    cases es with
    | nil => simp [Instr.findKey, run_underlying hk, Instr.findNow, Instr.findAsking]
    | cons e es => simp [Instr.findKey, run_underlying hk, Instr.findNow, Instr.sameNow]
  eq := fun a b ha hb => by
    obtain ⟨ta, ca, ha⟩ := ha
    obtain ⟨tb, cb, hb⟩ := hb
    have h : ∀ d : Nat, (Op.equalIn (d + 1) kt (encA a) (encA b)).run P w = .ok (decide (a = b)) w := fun d => by
      unfold encA
      by_cases hab : a = b
      · subst hab
        simp [Op.equalIn, run_underlying hk, sizeOf, typeInfo, he, run_sameAddr_same]
      · simp [Op.equalIn, run_underlying hk, sizeOf, typeInfo, he, hs, run_sameAddr_other w hab ha hb, hab]
    exact h 9999
  bits := fun k _ => by
    have h : ∀ n : Nat, Instr.sameBits n (encA k) (encA k) = true := fun n => by unfold encA; cases n <;> simp [Instr.sameBits]
    exact h 10000
section
variable {κ : Type} [DecidableEq κ] {P : Program}
theorem wpList_lookup_law {w : World} {ops : Array Oper} {rest : List Oper} {o : Oper} {a : Act} {Q : Exit → Act → World → Prop} (hg : o.guard = none) (m x : Operand) (T : TypeId) (c : Bool) (hop : o.op = Op.lookup T m x c)
    (g : Nat) (enc : κ → Value) (l : List (κ × Value)) (kt et : TypeId) (ok : κ → Prop) (h : MapIs w g enc l) (K : KeyEq P kt enc w ok) (hT : P.underlying T = some (.map kt et)) (hl : ∀ p ∈ l, ok p.1)
    (z : Value) (hz : (zeroValue et).run P w = .ok z w) (k : κ) (hk : ok k) (hm : a.eval m = .map (some g)) (hx : a.eval x = enc k)
    (hK : wpList P ops Q rest (a.put o.dst (if c then .tuple #[(lookL l k).getD z, .bool (lookL l k).isSome] else (lookL l k).getD z)) w) : wpList P ops Q (o :: rest) a w := by
  refine wpList_plain hg fun K' hK' => ?_
  have hrun := h.lookup K hT hl hz k hk c
  unfold Oper.wp
  simp only [execOp, hop, hm, hx, hrun, Sem.run_bind, Result.andThen]
  exact hK' _ _ hK
theorem wpList_update_law {w : World} {ops : Array Oper} {rest : List Oper} {o : Oper} {a : Act} {Q : Exit → Act → World → Prop} (hg : o.guard = none) (m x v : Operand) (T : TypeId) (hop : o.op = Op.mapUpdate T m x v)
    (g : Nat) (enc : κ → Value) (l : List (κ × Value)) (kt et : TypeId) (ok : κ → Prop) (h : MapIs w g enc l) (K : KeyEq P kt enc w ok) (hT : P.underlying T = some (.map kt et)) (hl : ∀ p ∈ l, ok p.1)
    (k : κ) (hk : ok k) (hm : a.eval m = .map (some g)) (hx : a.eval x = enc k)
    (hK : ∀ w', MapIs w' g enc (updL l k (a.eval v)) → w.grownBy w' (some g) → w'.heap.size = w.heap.size → wpList P ops Q rest (a.put o.dst undef) w') : wpList P ops Q (o :: rest) a w := by
  refine wpList_plain hg fun K' hK' => ?_
  obtain ⟨w', hrun, h1, h2, h3⟩ := h.update K hT hl k hk (a.eval v)
  unfold Oper.wp
  simp [execOp, hop, hm, hx, hrun, Result.andThen]
  exact hK' _ _ (hK w' h1 h2 h3)
end
theorem MapIs.keep {κ : Type} {w w' : World} {g : Nat} {enc : κ → Value} {l : List (κ × Value)} (h : MapIs w g enc l) (hk : w'.heap[g]? = w.heap[g]?) : MapIs w' g enc l := by
  obtain ⟨es, clock, hb, he⟩ := h
  exact ⟨es, clock, hk.trans hb, he⟩
theorem MapIs.new {κ : Type} (w : World) (enc : κ → Value) (c : Nat) : MapIs (w.alloc (.map #[] c)) w.heap.size enc [] := ⟨#[], c, heap_alloc_new w _, rfl⟩
end Go.Proofs.YtpiagfmjekcncaaDoor
namespace Go.Proofs.YtpiagfmjekcncaaDoor
open Go.RowKit
theorem infoPtrR : (Tryd.prog.info? 55).map (fun i => (i.zero, i.size, i.bytes)) = some (some (.pointer none), 1, 8) := by kernel_rfl
theorem infoRx : (Tryd.prog.info? 27).map (fun i => i.size) = some 8 := by kernel_rfl
theorem keyR (w : World) : KeyEq Tryd.prog 55 encA w (plainA w) := by
  have h := infoRx
  rcases hj : Tryd.prog.info? 27 with _ | j
  · rw [hj] at h; cases h
  · rw [hj] at h
    injection h with h
    exact ptr_keyEq Tryd.underlying55 hj (by have h' : j.size = 8 := h; omega) w
theorem zeroB (w : World) : (zeroValue 4).run Tryd.prog w = .ok (.bool false) w := by kernel_rfl
theorem own_keptR {K : Nat → Prop} {w w' : World} {base e size n : Nat} {v : Value} {xs : List Value} (h : w.ownsRow base e size v n xs) (k : Kept K w w') (hne : ∀ i, v.ownBlock = some i → ¬ K i) : w'.ownsRow base e size v n xs := by
  refine ⟨h.1, ?_⟩
  rcases h.2 with h | ⟨g, cap, cur, h1, h2, h3, h4⟩
  · exact .inl h
  · exact .inr ⟨g, cap, cur, h1, h2, (k.block g (Blk.lt h3) (hne g (by rw [h1]; rfl))).trans h3, h4⟩
theorem own_blkR {w : World} {base e size n i : Nat} {v : Value} {xs : List Value} (h : w.ownsRow base e size v n xs) (hv : v.ownBlock = some i) : base ≤ i ∧ ∃ cur, Blk w i e cur := by
  rcases h.2 with ⟨rfl, _⟩ | ⟨g, cap, cur, rfl, h1, h3, _⟩
  · cases hv
  · injection hv with hv
    subst hv
    exact ⟨h1, cur, h3⟩
theorem own_not_mapR {κ : Type} {enc : κ → Value} {l : List (κ × Value)} {w : World} {base e size n i mb : Nat} {v : Value} {xs : List Value} (h : w.ownsRow base e size v n xs) (hM : MapIs w mb enc l) (hv : v.ownBlock = some i) : i ≠ mb := by
  rintro rfl
  obtain ⟨_, cur, hb⟩ := own_blkR h hv
  obtain ⟨es, clock, hm, _⟩ := hM
  unfold Blk at hb
  rw [hb] at hm
  cases hm
theorem own_cutR {w : World} {base e size n c : Nat} {A : Option Addr} {xs : List Value} (h : w.ownsRow base e size (.slice A n c) n xs) (k : Nat) (hk : k ≤ n) (hn : 0 < n) : w.ownsRow base e size (.slice A k c) k (xs.take (k * size)) := by
  obtain ⟨h1, h2⟩ := h
  have hle : k * size ≤ n * size := Nat.mul_le_mul_right _ hk
  rcases h2 with ⟨_, rfl⟩ | ⟨g, cap, cur, hv, h3, h4, h5, h6, h7, h8⟩
  · omega
  · injection hv with hA _ hc
    subst hA hc
    refine ⟨by rw [List.length_take, h1]; omega, .inr ⟨g, c, cur, rfl, h3, h4, by omega, h6, h7, ?_⟩⟩
    rw [← h8, List.take_take, Nat.min_eq_left hle]
theorem own_atR {w : World} {base e size n : Nat} {v : Value} {xs : List Value} (h : w.ownsRow base e size v n xs) (hn : 0 < n) : ∃ g c, v = .slice (some ⟨g, 0, none⟩) n c ∧ n ≤ c ∧ base ≤ g ∧ g < w.heap.size ∧ ∀ j u, xs[j]? = some u → w.cell? ⟨g, j, none⟩ = some u := by
  obtain ⟨h1, h2⟩ := h
  rcases h2 with ⟨_, rfl⟩ | ⟨g, cap, cur, hv, h3, h4, h5, h6, h7, h8⟩
  · omega
  · refine ⟨g, cap, hv, h5, h3, Blk.lt h4, fun j u hu => ?_⟩
    rw [cell_of_row w g j cur e (0, 0) h4]
    rw [← h8, List.getElem?_take] at hu
    split at hu
    · simpa using hu
    · cases hu
theorem wpList_insert_law {κ : Type} [DecidableEq κ] {P : Program} {w : World} {ops : Array Oper} {rest : List Oper} {o : Oper} {a : Act} {Q : Exit → Act → World → Prop} (hg : o.guard = none) (m x v : Operand) (T : TypeId) (hop : o.op = Op.insert T m x v)
    (g : Nat) (enc : κ → Value) (l : List (κ × Value)) (kt et : TypeId) (ok : κ → Prop) (h : MapIs w g enc l) (K : KeyEq P kt enc w ok) (hT : P.underlying T = some (.map kt et)) (hl : ∀ p ∈ l, ok p.1)
    (k : κ) (hk : ok k) (hm : a.eval m = .map (some g)) (hx : a.eval x = enc k)
    (hK : ∀ w', MapIs w' g enc (updL l k (a.eval v)) → w.grownBy w' (some g) → w'.heap.size = w.heap.size → wpList P ops Q rest (a.put o.dst undef) w') : wpList P ops Q (o :: rest) a w := by
  refine wpList_plain hg fun K' hK' => ?_
  obtain ⟨w', hrun, h1, h2, h3⟩ := h.update K hT hl k hk (a.eval v)
  unfold Oper.wp
  simp [execOp, hop, hm, hx, hrun, Result.andThen]
  exact hK' _ _ (hK w' h1 h2 h3)
theorem wpList_lookup_valR {κ : Type} [DecidableEq κ] {P : Program} {w : World} {ops : Array Oper} {rest : List Oper} {o : Oper} {a : Act} {Q : Exit → Act → World → Prop} (hg : o.guard = none) (m x : Operand) (T : TypeId) (hop : o.op = Op.lookup T m x false)
    (g : Nat) (enc : κ → Value) (l : List (κ × Value)) (kt et : TypeId) (ok : κ → Prop) (h : MapIs w g enc l) (K : KeyEq P kt enc w ok) (hT : P.underlying T = some (.map kt et)) (hl : ∀ p ∈ l, ok p.1)
    (z : Value) (hz : (zeroValue et).run P w = .ok z w) (k : κ) (hk : ok k) (hm : a.eval m = .map (some g)) (hx : a.eval x = enc k) (v : Value) (hv : (lookL l k).getD z = v)
    (hK : wpList P ops Q rest (a.put o.dst v) w) : wpList P ops Q (o :: rest) a w := by
  subst hv
  exact wpList_lookup_law hg m x T false hop g enc l kt et ok h K hT hl z hz k hk hm hx hK
theorem plainR_below {w w' : World} {a : Addr} {B : Nat} (h : plainA w a ∧ a.block < B) (hb : Below B w w') : plainA w' a := by
  obtain ⟨⟨t, cs, h1⟩, h2⟩ := h
  exact ⟨t, cs, h1.below hb h2⟩
theorem look_none {κ : Type} [DecidableEq κ] : ∀ (l : List (κ × Value)) (k : κ), (∀ q ∈ l, q.1 ≠ k) → lookL l k = none
  | [], _, _ => by simp [lookL]
  | (j, v) :: l, k, h => by
    have h0 := h (j, v) (List.mem_cons_self ..)
    have := look_none l k (fun q hq => h q (List.mem_cons_of_mem _ hq))
    simp [lookL, h0, this]
/-- The memory of valid: the map and the stack. -/
def VW (w wr : World) (mb : Nat) (s : List (Addr × Value)) (tl : List Addr) (v : Value) : Prop :=
  wr.ownsRow w.heap.size 55 1 v tl.length (tl.map encA) ∧ MapIs wr mb encA s ∧ w.heap.size ≤ mb ∧ mb < wr.heap.size ∧ Below w.heap.size w wr
section
variable {w wr w' : World} {mb : Nat} {s s' : List (Addr × Value)} {tl : List Addr} {v : Value}
theorem VW.upd (h : VW w wr mb s tl v) (hM : MapIs w' mb encA s') (hg : wr.grownBy w' (some mb)) (hs : w'.heap.size = wr.heap.size) : VW w w' mb s' tl v := by
  obtain ⟨h1, h3, h4, h5, h6⟩ := h
  have k : Kept (fun i => i = mb) wr w' := Kept.of_grown hg fun g e => by injection e with e; exact e.symm
  exact ⟨own_keptR h1 k fun i e => own_not_mapR h1 h3 e, hM, h4, by omega, h6.grown hg h6.size fun g e => by injection e with e; omega⟩
theorem VW.alloc (h : VW w wr mb s tl v) (o : Obj) : VW w (wr.alloc o) mb s tl v :=
  ⟨h.1.alloc o, h.2.1.keep (Below.heap_alloc _ _ _ h.2.2.2.1), h.2.2.1, by have := h.2.2.2.1; simp; omega, h.2.2.2.2.alloc h.2.2.2.2.size o⟩
theorem VW.stk {tl' : List Addr} {v' : Value} (h : VW w wr mb s tl v) (ho : w'.ownsRow w.heap.size 55 1 v' tl'.length (tl'.map encA)) (hg : wr.grownBy w' v.ownBlock) : VW w w' mb s tl' v' := by
  obtain ⟨h1, h3, h4, h5, h6⟩ := h
  exact ⟨ho, h3.keep (hg.block mb h5 (fun e => own_not_mapR h1 h3 e.symm rfl)), h4, Nat.lt_of_lt_of_le h5 hg.size, h6.grown hg h6.size fun g e => (own_blkR h1 e).1⟩
theorem VW.cut {A : Option Addr} {n c : Nat} {x : Addr} (h : VW w wr mb s (tl ++ [x]) (.slice A n c)) : VW w wr mb s tl (.slice A tl.length c) := by
  refine ⟨?_, h.2⟩
  have h1 := h.1
  have hn : n = (tl ++ [x]).length := by
    rcases h1.2 with ⟨e, h0⟩ | ⟨g, cap, cur, e, _⟩
    · simp at h0
    · injection e
  subst hn
  have := own_cutR h1 tl.length (by simp) (by simp)
  rw [List.map_append, Nat.mul_one, List.take_left' (by simp)] at this
  exact this
end
theorem reads1R (w : World) (v : Value) (t : TypeId) : Reads (w.alloc (.cells #[v] t)) (w.heap.size + 1) 1 (some ⟨w.heap.size, 0, none⟩) 1 [v] :=
  ⟨rfl, fun _ => ⟨_, rfl, by simp, fun j u hu => news_alloc w #[v] t j u hu⟩⟩
end Go.Proofs.YtpiagfmjekcncaaDoor
namespace Go.Proofs.YtpiagfmjekcncaaDoor
open Go.RowKit
/-- The places of the parts. -/
def pAd (b' o' i : Nat) : Addr := ⟨b', o' + i * 8, none⟩
def pAds (b' o' k : Nat) : List Addr := (List.range k).map (pAd b' o')
theorem pAds_succ (b' o' k : Nat) : pAds b' o' (k + 1) = pAds b' o' k ++ [pAd b' o' k] := by unfold pAds; rw [List.range_succ, List.map_append]; rfl
theorem pAds_len (b' o' k : Nat) : (pAds b' o' k).length = k := by unfold pAds; simp
def KeysOk (b o b' o' k : Nat) (s : List (Addr × Value)) : Prop := ∀ q ∈ s, q.1 = ⟨b, o, none⟩ ∨ ∃ j, j < k ∧ q.1 = pAd b' o' j
def ValRel (w : World) (b o b' o' n mb f : Nat) (v4 : Value) (wr : World) : Prop :=
  (f = n + 2 ∧ ∃ s, KeysOk b o b' o' 0 s ∧ Hid (VW w wr mb s [⟨b, o, none⟩] v4)) ∨ (∃ m s, m ≤ n ∧ f = m + 1 ∧ Hid (VW w wr mb s (pAds b' o' m) v4))
set_option maxHeartbeats 8000000 in
set_option maxRecDepth 100000 in
theorem valid_flat (b o n c b' o' : Nat) (A : Option Addr) (w : World) (hA : 0 < n → A = some ⟨b', o', none⟩) (hb : b < w.heap.size) (hb' : 0 < n → b' < w.heap.size)
    (c7 : w.cell? ⟨b, o + 7, none⟩ = some (.slice A n c)) (hR : ∀ W, Below w.heap.size w W → Calls Tryd.prog 43 #[.pointer (some ⟨b, o, none⟩)] W fun e w' => e = .returned (.bool true) ∧ W = w')
    (hP : ∀ i, i < n → (∀ W, Below w.heap.size w W → Calls Tryd.prog 43 #[.pointer (some ⟨b', o' + i * 8, none⟩)] W fun e w' => e = .returned (.bool true) ∧ W = w') ∧ ∃ Ai ci, w.cell? ⟨b', o' + i * 8 + 7, none⟩ = some (.slice Ai 0 ci))
    (hp : plainA w ⟨b, o, none⟩) (hp' : 0 < n → plainA w ⟨b', o', none⟩) (hne : b ≠ b') (hn : n ≤ 64) :
    Calls Tryd.prog 24 #[.pointer (some ⟨b, o, none⟩)] w fun e w' => e = .returned (.bool true) ∧ Below w.heap.size w w' := by
  have hmm := @run_makeMap Tryd.prog
  have HA := Lib.hid hA
  have HB' := Lib.hid hb'
  have C7 := Lib.hid c7
  have HR := Lib.hid hR
  have HP := Lib.hid hP
  have HPA := Lib.hid (show ∀ W, Below w.heap.size w W → plainA W ⟨b, o, none⟩ from fun W h => plainR_below ⟨hp, hb⟩ h)
  have HPB := Lib.hid (show ∀ W i, i < n → Below w.heap.size w W → plainA W (pAd b' o' i) from fun W i hi h => plainR_below (a := pAd b' o' i) ⟨by obtain ⟨t, cs, h⟩ := hp' (by omega); exact ⟨t, cs, h⟩, hb' (by omega)⟩ h)
  have HM0 := Lib.hid (MapIs.new w encA 0)
  clear hA hb' c7 hR hP hp hp'
  go_enter Tryd.func24, Tryd.ntmps24
  go_wp2_with (refine wpList_insert_law rfl (.tmp 8) (.tmp 9) (.const (.bool true)) 87 rfl w.heap.size encA [] 55 4 (plainA (w.alloc (.map #[] 0))) HM0.out (keyR _) Tryd.underlying87 (fun q hq => by cases hq) ⟨b, o, none⟩ (HPA.out _ ((Below.refl _ w).alloc (Nat.le_refl _) _)) rfl rfl ?_)
  intro w1 hM1 hg1 hs1
  have hk0 : KeysOk b o b' o' 0 (updL [] ⟨b, o, none⟩ (.bool true)) := fun q hq => by
    rcases mem_upd hq with h | h
    · exact .inl h
    · cases h
  have HK0 := Lib.hid hk0
  have hb1 : Below w.heap.size w w1 := ((Below.refl w.heap.size w).alloc (Nat.le_refl _) (.map #[] 0)).grown hg1 (by simp) (fun g e => by injection e with e; omega)
  have HV1 := Lib.hid (show VW w (w1.alloc (.cells #[.pointer (some ⟨b, o, none⟩)] 55)) w.heap.size (updL [] ⟨b, o, none⟩ (.bool true)) [⟨b, o, none⟩] (.slice (some ⟨w.heap.size + 1, 0, none⟩) 1 1) from by
    refine ⟨?_, hM1.keep (Below.heap_alloc _ _ _ (by omega)), Nat.le_refl _, by simp; omega, hb1.alloc (by omega) _⟩
    have := World.ownsRow_lit (base := w.heap.size) (e := 55) (size := 1) w1 #[.pointer (some ⟨b, o, none⟩)] 1 (by omega) (by decide) rfl
    rw [hs1] at this
    exact this)
  obtain ⟨w2, hw2⟩ : ∃ w2, w2 = w1.alloc (.cells #[.pointer (some ⟨b, o, none⟩)] 55) := ⟨_, rfl⟩
  rw [← hw2] at HV1
  have HW2 := Lib.hid hw2
  obtain ⟨s0, hs0⟩ : ∃ s0, s0 = updL ([] : List (Addr × Value)) ⟨b, o, none⟩ (.bool true) := ⟨_, rfl⟩
  rw [← hs0] at HK0 HV1
  clear hM1 hg1 hk0 hb1 hw2 hs0
  go_upto_region 3 with (fail)
  rw [← HW2.out]
  clear HW2 hmm HM0
  go_loopg [4] (n + 2) (fun f v4 wr => ValRel w b o b' o' n w.heap.size f v4 wr)
  case atStart => exact .inl ⟨rfl, s0, HK0.out, HV1⟩
  case round =>
    clear HK0 HV1
    obtain ⟨wo, hwo⟩ : ∃ wo, wo = wr := ⟨_, rfl⟩
    subst hwo
    rcases hrel with ⟨rfl, s, hs, hV⟩ | ⟨m, s, hm, rfl, hV⟩
    · obtain ⟨g, c0, rfl, hc0, hgb, hgl, hcells⟩ := own_atR hV.out.1 (by simp)
      have y0 := hcells 0 _ rfl
      have HC := Lib.hid (HR.out wo hV.out.2.2.2.2)
      have r7 := (hV.out.2.2.2.2.cell (p := ⟨b, o + 7, none⟩) hb).trans C7.out
      have HVc := Lib.hid (VW.cut (tl := []) hV.out)
      have HS := Lib.hid hs
      unfold encA at y0
      clear hcells hs hV
      simp only [List.length_singleton, List.length_nil] at *
      go_wp2_with fail
      refine HC.out.mono ?_
      rintro e w' ⟨rfl, rfl⟩
      go_wp2_with fail
      go_loopg [4, 6, 7, 35] (n + 1) (fun f2 v4 _ _ i wr2 => ∃ k s, k ≤ n ∧ n < k + f2 ∧ i = .int .i64 k ∧ Hid (KeysOk b o b' o' k s) ∧ Hid (VW w wr2 w.heap.size s (pAds b' o' k) v4))
      case atStart => exact ⟨0, s, Nat.zero_le _, by omega, rfl, HS, HVc⟩
      case round =>
        clear HVc HS HC y0 r7
        obtain ⟨k, s, hk, hkf, rfl, hs, hV⟩ := hrel
        obtain ⟨f2, rfl⟩ : ∃ f2, gk = f2 + 1 := ⟨gk - 1, by omega⟩
        by_cases hlt : k < n
        · obtain rfl := HA.out (by omega)
          have r7 := (hV.out.2.2.2.2.cell (p := ⟨b, o + 7, none⟩) hb).trans C7.out
          have q0 : (k : Int) < (n : Int) := by omega
          have q1 : (0 : Int) ≤ (k : Int) := by omega
          have HLK := Lib.hid (show (lookL s (pAd b' o' k)).getD (.bool false) = .bool false from by
            rw [look_none s _ (fun q hq e => ?_)]
            · rfl
            · rcases hs.out q hq with h | ⟨j, hj, h⟩
              · rw [h] at e; unfold pAd at e; injection e with e1; exact hne e1
              · rw [h] at e; unfold pAd at e; injection e with _ e2; omega)
          have HOK := Lib.hid (show ∀ q ∈ s, plainA wr q.1 from fun q hq => by
            rcases hs.out q hq with h | ⟨j, hj, h⟩
            · rw [h]; exact HPA.out _ hV.out.2.2.2.2
            · rw [h]; exact HPB.out _ j (by omega) hV.out.2.2.2.2)
          have HKP := Lib.hid (HPB.out _ k hlt hV.out.2.2.2.2)
          have HV := Lib.hid hV.out
          have HS := Lib.hid hs.out
          obtain ⟨wq, hwq⟩ : ∃ wq, wq = wr := ⟨_, rfl⟩
          subst hwq
          clear hs hV
          go_wp2_with (first | (at_lookup; refine wpList_lookup_valR rfl _ _ 87 rfl w.heap.size encA s 55 4 (plainA wq) HV.out.2.1 (keyR _) Tryd.underlying87 HOK.out (.bool false) (zeroB _) (pAd b' o' k) HKP.out rfl rfl (.bool false) HLK.out ?_) | (at_mapUpdate; refine wpList_update_law rfl _ _ _ 87 rfl w.heap.size encA s 55 4 (plainA wq) HV.out.2.1 (keyR _) Tryd.underlying87 HOK.out (pAd b' o' k) HKP.out rfl rfl ?_))
          intro w3 hM3 hg3 hs3
          have HU := Lib.hid (HV.out.upd hM3 hg3 hs3)
          have HS3 := Lib.hid (show KeysOk b o b' o' (k + 1) _ from fun q hq => by
            rcases mem_upd (k := pAd b' o' k) (v := (Value.bool true)) hq with h | h
            · exact .inr ⟨k, by omega, h⟩
            · rcases HS.out q h with h | ⟨j, hj, h⟩
              · exact .inl h
              · exact .inr ⟨j, by omega, h⟩)
          obtain ⟨s3, hs3'⟩ : ∃ s3, s3 = updL s (pAd b' o' k) (.bool true) := ⟨_, rfl⟩
          rw [← hs3'] at HU HS3
          have ho4 := HU.out.1.alloc (.cells #[.pointer (some ⟨b', o' + k * 8, none⟩)] 55)
          have hrr := reads1R w3 (.pointer (some ⟨b', o' + k * 8, none⟩)) 55
          have hone : ∀ u ∈ ([.pointer (some ⟨b', o' + k * 8, none⟩)] : List Value), u.oneCell' = true := by simp [Value.oneCell']
          have hsz3 := HU.out.2.2.2.2.size
          have hpl := pAds_len b' o' k
          obtain ⟨i0, hinf, hz0, hz1, hz2⟩ := info_parts infoPtrR
          clear hM3 hg3 hs3 hs3' HV HS HLK HOK HKP r7
          go_wp2_with (at_builtin; refine wpList_append_any _ rfl (.tmp 50) (.tmp 52) 88 rfl w.heap.size 55 i0 (.pointer none) 1 8 Tryd.underlying88 hinf hz0 hz1 hz2 rfl (by decide) _ (pAds b' o' k).length ((pAds b' o' k).map encA) rfl ho4 _ _ _ _ [.pointer (some ⟨b', o' + k * 8, none⟩)] rfl hrr hone (by unfold maxLen; omega) (by omega) (by simp; omega) ?_)
          intro v5 w5 hown5 hg5 _
          have HE := Lib.hid (VW.stk (tl' := pAds b' o' (k + 1)) (HU.out.alloc (.cells #[.pointer (some ⟨b', o' + k * 8, none⟩)] 55)) (by rw [pAds_succ, List.length_append, List.map_append, pAds_len]; exact hown5) hg5)
          clear hown5 hg5 hinf hz0 hz1 hz2 hrr hone ho4
          go_wp2_with fail
          go_roundg f2
          case measure => omega
          case rel => exact ⟨k + 1, s3, hlt, by omega, rfl, HS3, HE⟩
        · obtain rfl : k = n := by omega
          go_wp2_with fail
          go_roundg (k + 1)
          case measure => omega
          case rel => exact .inr ⟨k, s, Nat.le_refl _, rfl, hV⟩
    · cases m with
      | zero =>
        obtain ⟨A0, c0, rfl⟩ := own_form hV.out.1
        have e0 : (pAds b' o' 0).length = 0 := rfl
        rw [e0]
        have HB := Lib.hid hV.out.2.2.2.2
        clear hV e0
        go_wp2_with fail
        go_ret
        exact ⟨rfl, HB.out⟩
      | succ m =>
        rw [pAds_succ] at hV
        obtain ⟨g, c0, rfl, hc0, hgb, hgl, hcells⟩ := own_atR hV.out.1 (by simp)
        have y0 := hcells m (.pointer (some ⟨b', o' + m * 8, none⟩)) (by rw [List.map_append, List.getElem?_append_right (by simp [pAds_len]), List.length_map, pAds_len, Nat.sub_self]; rfl)
        obtain ⟨hc, Ai, ci, h7⟩ := HP.out m (by omega)
        have hbb := HB'.out (by omega)
        have HC := Lib.hid (hc wo hV.out.2.2.2.2)
        have r7 := (hV.out.2.2.2.2.cell (p := ⟨b', o' + m * 8 + 7, none⟩) hbb).trans h7
        have HVc := Lib.hid (VW.cut hV.out)
        have hl1 : (pAds b' o' m ++ [pAd b' o' m]).length = m + 1 := by rw [List.length_append, pAds_len]; rfl
        rw [hl1] at hc0 ⊢
        rw [pAds_len] at HVc
        have hmc : m ≤ c0 := by omega
        have hmi : (m : Int) ≤ (c0 : Int) := by omega
        clear hcells hV hc h7 hl1
        go_wp2_with fail
        refine HC.out.mono ?_
        rintro e w' ⟨rfl, rfl⟩
        go_wp2_with fail
        obtain ⟨wq, hwq⟩ : ∃ wq, wq = wo := ⟨_, rfl⟩
        go_loopg [4, 6, 7, 35] 1 (fun f2 v4 _ _ i wr2 => i = .int .i64 0 ∧ v4 = .slice (some ⟨g, 0, none⟩) m c0 ∧ wq = wr2)
        case atStart => exact ⟨rfl, rfl, hwq⟩
        case round =>
          obtain ⟨rfl, rfl, rfl⟩ := hrel
          subst hwq
          go_wp2_with fail
          go_roundg (m + 1)
          case measure => omega
          case rel => exact .inr ⟨m, s, by omega, rfl, HVc⟩
end Go.Proofs.YtpiagfmjekcncaaDoor
