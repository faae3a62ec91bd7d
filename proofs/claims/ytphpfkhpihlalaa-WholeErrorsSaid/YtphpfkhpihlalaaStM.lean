/- The store of rules in memory. -/
import Derived.Test.YtphpfkhpihlalaaStP
import Derived.Test.YtphpfkhpihlalaaMapLaw
namespace Go.Proofs.Ytphpfkhpihlalaa
open Go.RowKit
/-- The 13 cells of a rule. -/
def En.cells (e : En) : List Value := [.int .i64 e.ru.kind, .int .u8 e.ru.letter, .int .i64 e.ru.left, .int .i64 e.ru.right, .int .i64 e.ru.times, .int .i64 e.wt.len, .int .i64 e.wt.lines, .int .i64 e.wt.head, .int .i64 e.wt.tail, .int .u64 e.wt.dig.v, .int .u64 e.wt.dig.s, .int .i64 e.depth, .bool e.even]
def flat (E : List En) : List Value := E.flatMap En.cells
theorem flat_len (E : List En) : (flat E).length = E.length * 13 := by
  induction E with
  | nil => rfl
  | cons e E ih => unfold flat at ih ⊢; rw [List.flatMap_cons, List.length_append, ih, List.length_cons]; show 13 + _ = _; omega
theorem flat_get : ∀ {E : List En} {i : Nat} {e : En}, E[i]? = some e → ∀ (j : Nat) (u : Value), e.cells[j]? = some u → (flat E)[i * 13 + j]? = some u
  | [], i, e, h, _, _, _ => by simp at h
  | x :: E, 0, e, h, j, u, hu => by
    simp at h; subst h
    unfold flat
    rw [List.flatMap_cons, Nat.zero_mul, Nat.zero_add]
    have : j < x.cells.length := by
      rcases Nat.lt_or_ge j x.cells.length with h | h
      · exact h
      · rw [List.getElem?_eq_none h] at hu; cases hu
    rw [List.getElem?_append_left this]
    exact hu
  | x :: E, i + 1, e, h, j, u, hu => by
    have := flat_get (E := E) (i := i) (by simpa using h) j u hu
    unfold flat at this ⊢
    rw [List.flatMap_cons, List.getElem?_append_right (by show 13 ≤ _; omega), show (i + 1) * 13 + j - x.cells.length = i * 13 + j by show _ - 13 = _; omega]
    exact this
def encR (r : Ru) : Value := .agg #[.int .i64 r.kind, .int .u8 r.letter, .int .i64 r.left, .int .i64 r.right, .int .i64 r.times]
/-- The map of a store: each rule and its ID. -/
def mapF (k : Nat) : List En → List (Ru × Value)
  | [] => []
  | e :: E => (e.ru, .int .i64 ((k + 1 : Nat) : Int)) :: mapF (k + 1) E
theorem look_map (r : Ru) : ∀ (E : List En) (k : Nat), lookL (mapF k E) r = (idF k r E).map fun (i : Nat) => Value.int .i64 (i : Int)
  | [], _ => rfl
  | e :: E, k => by
    unfold mapF lookL idF
    by_cases h : e.ru = r
    · simp [h]
    · simp only [h, if_false]
      exact look_map r E (k + 1)
theorem upd_map (e : En) : ∀ (E : List En) (k : Nat), idF k e.ru E = none → updL (mapF k E) e.ru (.int .i64 ((k + E.length + 1 : Nat) : Int)) = mapF k (E ++ [e])
  | [], k, _ => by simp [mapF, updL]
  | x :: E, k, h => by
    unfold idF at h
    split at h
    · cases h
    · rename_i hx
      have := upd_map e E (k + 1) h
      simp only [mapF, updL, hx, if_false, List.cons_append, List.length_cons]
      rw [← this, show k + (E.length + 1) + 1 = k + 1 + E.length + 1 by omega]
/-- A store at p, in blocks F of the world. -/
structure StM (w : World) (F : Nat → Prop) (p m : Nat) (E : List En) (g : Nat) (A : Option Addr) (c : Nat) : Prop where
  blk : Blk w p 91 #[.int .i64 m, .slice A E.length c, .map (some g)]
  row : w.ownsRow 0 97 13 (.slice A E.length c) E.length (flat E)
  map : MapIs w g encR (mapF 0 E)
  fp : F p
  fg : F g
  fb : ∀ i, (Value.slice A E.length c).ownBlock = some i → F i
  lt : ∀ i, F i → i < w.heap.size
  most : m ≤ 1048576
  len : E.length ≤ m
def StAt (w : World) (F : Nat → Prop) (p m : Nat) (E : List En) : Prop := ∃ g A c, StM w F p m E g A c
theorem MapIs.lt {κ : Type} {w : World} {g : Nat} {enc : κ → Value} {l : List (κ × Value)} (h : MapIs w g enc l) : g < w.heap.size := by
  obtain ⟨es, c, h1, _⟩ := h
  exact (Array.getElem?_eq_some_iff.1 h1).1
theorem own_same {w w' : World} {base e size n : Nat} {v : Value} {xs : List Value} (h : w.ownsRow base e size v n xs) (hk : ∀ i, v.ownBlock = some i → w'.heap[i]? = w.heap[i]?) : w'.ownsRow base e size v n xs := by
  refine ⟨h.1, ?_⟩
  rcases h.2 with hn | ⟨g, cap, cur, rfl, hb, hgg, rest⟩
  · exact .inl hn
  · exact .inr ⟨g, cap, cur, rfl, hb, (hk g rfl).trans hgg, rest⟩
theorem StM.keep {w w' : World} {F G : Nat → Prop} {p m g c : Nat} {E : List En} {A : Option Addr} (h : StM w F p m E g A c) (hk : ∀ i, F i → w'.heap[i]? = w.heap[i]?) (hG : ∀ i, F i → G i) (hl : ∀ i, G i → i < w'.heap.size) : StM w' G p m E g A c :=
  ⟨(hk p h.fp).trans h.blk, own_same h.row fun i hi => hk i (h.fb i hi), h.map.keep (hk g h.fg), hG _ h.fp, hG _ h.fg, fun i hi => hG i (h.fb i hi), hl, h.most, h.len⟩
theorem StAt.keep {w w' : World} {F G : Nat → Prop} {p m : Nat} {E : List En} (h : StAt w F p m E) (hk : ∀ i, F i → w'.heap[i]? = w.heap[i]?) (hG : ∀ i, F i → G i) (hl : ∀ i, G i → i < w'.heap.size) : StAt w' G p m E := by
  obtain ⟨g, A, c, h⟩ := h
  exact ⟨g, A, c, h.keep hk hG hl⟩
theorem StAt.lt {w : World} {F : Nat → Prop} {p m : Nat} {E : List En} (h : StAt w F p m E) : ∀ i, F i → i < w.heap.size := by
  obtain ⟨g, A, c, h⟩ := h
  exact h.lt
/-- A world in which nothing old has changed keeps a store. -/
theorem StAt.below {w w' : World} {F : Nat → Prop} {p m : Nat} {E : List En} (h : StAt w F p m E) (hb : Below w.heap.size w w') : StAt w' F p m E :=
  h.keep (fun i hi => hb.block i (h.lt i hi)) (fun _ h => h) (fun i hi => Nat.lt_of_lt_of_le (h.lt i hi) hb.size)
/-- The cells of a rule of a store. -/
theorem StM.cells {w : World} {F : Nat → Prop} {p m g c : Nat} {E : List En} {A : Option Addr} (h : StM w F p m E g A c) {i : Nat} {e : En} (he : E[i]? = some e) :
    ∃ b, A = some ⟨b, 0, none⟩ ∧ b < w.heap.size ∧ F b ∧ ∀ j u, e.cells[j]? = some u → w.cell? ⟨b, i * 13 + j, none⟩ = some u := by
  have hi : i < E.length := by
    rcases Nat.lt_or_ge i E.length with h1 | h1
    · exact h1
    · rw [List.getElem?_eq_none h1] at he; cases he
  rcases h.row.2 with ⟨_, h2⟩ | ⟨b, cap, cur, e1, h2, h3, h4, h5, h6, h7⟩
  · omega
  · injection e1 with e1 e2 e3
    refine ⟨b, e1, (Array.getElem?_eq_some_iff.1 h3).1, h.fb b (by rw [e1]; rfl), fun j u hu => ?_⟩
    have hj : j < 13 := by
      rcases Nat.lt_or_ge j 13 with h8 | h8
      · exact h8
      · rw [List.getElem?_eq_none (by show 13 ≤ j; exact h8)] at hu; cases hu
    have h9 := flat_get he j u hu
    rw [← h7] at h9
    rw [cell_of_row w b (i * 13 + j) cur 97 (0, 0) h3]
    rw [List.getElem?_take, if_pos (by omega)] at h9
    rw [← Array.getElem?_toList]
    exact h9
/-- An ID and an error: none is ErrFull. -/
def idV (T : TypeId) : Option Nat → Value
  | some id => .tuple #[.int .i64 (id : Int), .nilIface]
  | none => .tuple #[.int .i64 0, .iface T (.int .i64 3)]
/-- The blocks of a store after a call: its own and new ones. -/
def NewF (F : Nat → Prop) (w w' : World) : Nat → Prop := fun i => (F i ∨ w.heap.size ≤ i) ∧ i < w'.heap.size
/-- A call that adds rules to a store and answers an ID, or finds no room. -/
def AvEnd (T : TypeId) (w : World) (F : Nat → Prop) (p m : Nat) (E : List En) (c : Nat) (good : List En → Nat → Prop) (e : Ending) (w' : World) : Prop :=
  ∃ o : List En × Option Nat, Out m E c good o ∧ e = .returned (idV T o.2) ∧ Kept F w w' ∧ StAt w' (NewF F w w') p m o.1
theorem Kept.via {F F1 : Nat → Prop} {w w1 w2 : World} (h : Kept F w w1) (hF : ∀ i, F1 i → F i ∨ w.heap.size ≤ i) (k : Kept F1 w1 w2) : Kept F w w2 := h.trans (k.mono hF)
theorem StAt.grow {F F1 : Nat → Prop} {w w1 w2 : World} {p m : Nat} {E : List En} (h : StAt w2 (NewF F1 w1 w2) p m E) (hk : w.heap.size ≤ w1.heap.size) (hF : ∀ i, F1 i → F i ∨ w.heap.size ≤ i) : StAt w2 (NewF F w w2) p m E :=
  h.keep (fun _ _ => rfl) (fun i hi => ⟨hi.1.elim (hF i) (fun h => .inr (Nat.le_trans hk h)), hi.2⟩) (fun _ hi => hi.2)
theorem AvEnd.then_ {T : TypeId} {w w1 w' : World} {F F1 : Nat → Prop} {p m c c1 : Nat} {E E1 : List En} {good : List En → Nat → Prop} {e : Ending} (h : AvEnd T w1 F1 p m E1 c good e w') (hk : Kept F w w1) (hF : ∀ i, F1 i → F i ∨ w.heap.size ≤ i) (he : Ext E E1) (hl : E1.length ≤ E.length + c1) : AvEnd T w F p m E (c1 + c) good e w' := by
  obtain ⟨o, h1, h2, h3, h4⟩ := h
  exact ⟨o, h1.next he hl, h2, hk.via hF h3, h4.grow hk.size hF⟩
theorem AvEnd.relax {T : TypeId} {w w' : World} {F : Nat → Prop} {p m c c' : Nat} {E : List En} {g g' : List En → Nat → Prop} {e : Ending} (h : AvEnd T w F p m E c g e w') (hc : c ≤ c') (hg : ∀ E' id, g E' id → g' E' id) : AvEnd T w F p m E c' g' e w' := by
  obtain ⟨o, h1, h2, h3, h4⟩ := h
  exact ⟨o, h1.relax hc fun id hi => hg _ id hi, h2, h3, h4⟩
end Go.Proofs.Ytphpfkhpihlalaa
