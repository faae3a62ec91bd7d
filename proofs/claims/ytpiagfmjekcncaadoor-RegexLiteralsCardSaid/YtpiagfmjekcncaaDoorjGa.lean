/- The document's parser of regular expressions as functions on a text, a place and a mark (plain Lean). -/
import Derived.Test.YtpiagfmjekcncaaDoorjRx
set_option linter.unusedVariables false
set_option linter.unusedSimpArgs false
set_option linter.unusedSectionVars false
namespace Go.Proofs.YtpiagfmjekcncaaDoor
namespace Gr
/-- The next byte; 0 at the end. -/
def nx (T : List UInt8) (k : Nat) : UInt8 := match T[k]? with
  | some b => b
  | none => 0
def numL (T : List UInt8) : Nat → Nat → Nat → Nat × Nat
  | 0, k, n => (n, k)
  | f + 1, k, n => match T[k]? with
    | none => (n, k)
    | some b => if 48 ≤ b ∧ b ≤ 57 then numL T f (k + 1) (min (10 * n + (b.toNat - 48)) 1000) else (n, k)
def num (T : List UInt8) (k : Nat) (b : Bool) : Nat × Nat × Bool :=
  ((numL T (T.length + 1) k 0).1, (numL T (T.length + 1) k 0).2,
    (b || decide ((numL T (T.length + 1) k 0).2 = k)) || (decide (k + 1 < (numL T (T.length + 1) k 0).2) && T[k]? == some 48) || decide (64 < (numL T (T.length + 1) k 0).1))
def bnd (T : List UInt8) (k : Nat) : Nat × Int × Nat × Bool :=
  if nx T (num T k false).2.1 = 44 then
    (if nx T ((num T k false).2.1 + 1) = 125 then ((num T k false).1, -1, (num T k false).2.1 + 2, (num T k false).2.2)
     else ((num T k false).1, (num T ((num T k false).2.1 + 1) (num T k false).2.2).1, (num T ((num T k false).2.1 + 1) (num T k false).2.2).2.1 + 1,
      ((num T ((num T k false).2.1 + 1) (num T k false).2.2).2.2 || decide ((num T ((num T k false).2.1 + 1) (num T k false).2.2).1 < (num T k false).1)) || (nx T (num T ((num T k false).2.1 + 1) (num T k false).2.2).2.1 != 125)))
  else ((num T k false).1, (num T k false).1, (num T k false).2.1 + 1, (num T k false).2.2 || (nx T (num T k false).2.1 != 125))
def zeroR : Rx := .node 0 0 0 0 0 0 0 []
/-- A bracket class, from the bracket on. -/
def cls (T : List UInt8) (k : Nat) : Rx × Nat × Bool :=
  let from_ := if T[k + 1]? = some 94 then k + 2 else k + 1
  match endP T (T.length + 1) from_ with
  | none => (zeroR, k, true)
  | some e => match lsP (e - 1 - from_ + 1) ((T.drop from_).take (e - 1 - from_)) noneS with
    | none => (Rx.set (if T[k + 1]? = some 94 then notS noneS else noneS), e, true)
    | some S => (Rx.set (if T[k + 1]? = some 94 then notS S else S), e, false)
def trm (T : List UInt8) (E : Nat → Rx × Nat × Bool) (k : Nat) : Rx × Nat × Bool := match T[k]? with
  | none => (Rx.one 0, k + 1, false)
  | some b =>
    if b = 46 then (Rx.set dotS, k + 1, false)
    else if b = 40 then ((E (k + 1)).1, (E (k + 1)).2.1 + 1, (E (k + 1)).2.2 || (nx T (E (k + 1)).2.1 != 41))
    else if b = 91 then cls T k
    else if b = 92 then match elemP (T.drop k) with
      | none => (zeroR, k, true)
      | some (x, u) => (Rx.one x, k + u, false)
    else if specials.contains b then (zeroR, k, true)
    else (Rx.one b, k + 1, false)
/-- The counters behind a term. -/
def cntL (T : List UInt8) : Nat → Rx → Nat → Bool → Rx × Nat × Bool
  | 0, r, k, b => (r, k, b)
  | f + 1, r, k, b =>
    if b then (r, k, b)
    else if nx T k = 42 then cntL T f (Rx.rep 0 (-1) r) (k + 1) false
    else if nx T k = 43 then cntL T f (Rx.rep 1 (-1) r) (k + 1) false
    else if nx T k = 63 then cntL T f (Rx.rep 0 1 r) (k + 1) false
    else if nx T k = 123 then cntL T f (Rx.rep (bnd T (k + 1)).1 (bnd T (k + 1)).2.1 r) (bnd T (k + 1)).2.2.1 (bnd T (k + 1)).2.2.2
    else (r, k, false)
def cnt (T : List UInt8) (E : Nat → Rx × Nat × Bool) (k : Nat) : Rx × Nat × Bool := cntL T (T.length + 2) (trm T E k).1 (trm T E k).2.1 (trm T E k).2.2
def seqL (T : List UInt8) (E : Nat → Rx × Nat × Bool) : Nat → List Rx → Nat → Bool → List Rx × Nat × Bool
  | 0, l, k, b => (l, k, b)
  | f + 1, l, k, b => if stopP T k || b then (l, k, b) else seqL T E f (l ++ [(cnt T E k).1]) (cnt T E k).2.1 (cnt T E k).2.2
def sqn (T : List UInt8) (E : Nat → Rx × Nat × Bool) (k : Nat) : Rx × Nat × Bool :=
  (Rx.seq (seqL T E (T.length + 2) [] k false).1, (seqL T E (T.length + 2) [] k false).2.1, (seqL T E (T.length + 2) [] k false).2.2)
def altL (T : List UInt8) (E : Nat → Rx × Nat × Bool) : Nat → List Rx → Nat → Bool → List Rx × Nat × Bool
  | 0, l, k, b => (l, k, b)
  | f + 1, l, k, b => if T[k]? = some 124 ∧ b = false then altL T E f (l ++ [(sqn T E (k + 1)).1]) (sqn T E (k + 1)).2.1 (sqn T E (k + 1)).2.2 else (l, k, b)
def alt (T : List UInt8) (E : Nat → Rx × Nat × Bool) (k : Nat) : Rx × Nat × Bool :=
  (Rx.alt (altL T E (T.length + 2) [(sqn T E k).1] (sqn T E k).2.1 (sqn T E k).2.2).1, (altL T E (T.length + 2) [(sqn T E k).1] (sqn T E k).2.1 (sqn T E k).2.2).2.1, (altL T E (T.length + 2) [(sqn T E k).1] (sqn T E k).2.1 (sqn T E k).2.2).2.2)
def exN (T : List UInt8) : Nat → Nat → Rx × Nat × Bool
  | 0, k => (zeroR, k, true)
  | n + 1, k => alt T (exN T n) k
end Gr
section
variable {T : List UInt8}
theorem gr_numL_le : ∀ (f k n : Nat), n ≤ 1000 → k ≤ (Gr.numL T f k n).2 ∧ (Gr.numL T f k n).2 ≤ max k T.length ∧ (Gr.numL T f k n).1 ≤ 1000
  | 0, k, n, h => by rw [Gr.numL]; omega
  | f + 1, k, n, h => by
    rw [Gr.numL]
    split
    · omega
    · rename_i b hb
      have := at_lt hb
      split
      · have := gr_numL_le f (k + 1) (min (10 * n + (b.toNat - 48)) 1000) (by omega)
        omega
      · omega
theorem gr_num_le (k : Nat) (b : Bool) : k ≤ (Gr.num T k b).2.1 ∧ (Gr.num T k b).2.1 ≤ max k T.length ∧ (Gr.num T k b).1 ≤ 1000 := gr_numL_le _ _ _ (by omega)
theorem gr_num_64 {k : Nat} {b : Bool} (h : (Gr.num T k b).2.2 = false) : (Gr.num T k b).1 ≤ 64 := by
  unfold Gr.num at h
  simp only [Bool.or_eq_false_iff, decide_eq_false_iff_not] at h
  exact Nat.not_lt.1 h.2
theorem gr_nx_lt {k : Nat} (h : Gr.nx T k ≠ 0) : k < T.length := by
  unfold Gr.nx at h
  split at h
  · rename_i b hb; exact at_lt hb
  · exact absurd rfl h
theorem gr_nx_at {k : Nat} {b : UInt8} (h : T[k]? = some b) : Gr.nx T k = b := by unfold Gr.nx; rw [h]
theorem gr_nx_some {k : Nat} {b : UInt8} (h : Gr.nx T k = b) (hb : b ≠ 0) : T[k]? = some b := by
  unfold Gr.nx at h
  split at h
  · rename_i c hc; rw [hc, h]
  · exact absurd h.symm hb
theorem gr_bnd_le {k : Nat} (hk : k ≤ T.length) : k < (Gr.bnd T k).2.2.1 ∧ (Gr.bnd T k).2.2.1 ≤ T.length + 2 ∧ (Gr.bnd T k).1 ≤ 1000 ∧ -1 ≤ (Gr.bnd T k).2.1 ∧ (Gr.bnd T k).2.1 ≤ 1000 := by
  have h1 := gr_num_le (T := T) k false
  have h2 := gr_num_le (T := T) ((Gr.num T k false).2.1 + 1) (Gr.num T k false).2.2
  unfold Gr.bnd
  split
  · rename_i hc
    have := gr_nx_lt (T := T) (k := (Gr.num T k false).2.1) (by rw [hc]; decide)
    split
    · refine ⟨?_, ?_, ?_, ?_, ?_⟩ <;> dsimp only <;> omega
    · refine ⟨?_, ?_, ?_, ?_, ?_⟩ <;> dsimp only <;> omega
  · refine ⟨?_, ?_, ?_, ?_, ?_⟩ <;> dsimp only <;> omega
theorem gr_elem_pos {t : List UInt8} {x : UInt8} {u : Nat} (h : elemP t = some (x, u)) : 1 ≤ u ∧ u ≤ t.length := by
  unfold elemP at h
  split at h
  · cases h
  · rename_i b t
    split at h
    · cases h
    split at h
    · injection h with h; injection h with h1 h2; rw [List.length_cons]; omega
    · split at h
      · cases h
      · rename_i y k e1
        injection h with h; injection h with h1 h2
        have := escP_pos e1
        rw [List.length_cons]; omega
theorem gr_cls_le {k : Nat} (hk : k < T.length) : k ≤ (Gr.cls T k).2.1 ∧ (Gr.cls T k).2.1 ≤ T.length ∧ ((Gr.cls T k).2.2 = false → k < (Gr.cls T k).2.1) := by
  unfold Gr.cls
  dsimp only
  split
  · exact ⟨Nat.le_refl _, by dsimp only; omega, fun h => by cases h⟩
  · rename_i e he
    have hp := endP_pos _ _ _ he
    have hf : k < (if T[k + 1]? = some 94 then k + 2 else k + 1) := by split <;> omega
    split <;> (refine ⟨?_, ?_, fun _ => ?_⟩ <;> dsimp only <;> omega)
/-- What an inner expression does to the place. -/
def Gr.Ok (T : List UInt8) (d : Nat) (E : Nat → Rx × Nat × Bool) : Prop := ∀ k, k ≤ T.length → k ≤ (E k).2.1 ∧ (E k).2.1 ≤ T.length + d ∧ ((E k).2.2 = false → (E k).2.1 ≤ T.length)
variable {E : Nat → Rx × Nat × Bool} {d : Nat}
theorem gr_trm_le (hd : 2 ≤ d) (hE : Gr.Ok T d E) {k : Nat} (hk : k < T.length) : k ≤ (Gr.trm T E k).2.1 ∧ (Gr.trm T E k).2.1 ≤ T.length + d + 1 ∧ ((Gr.trm T E k).2.2 = false → k < (Gr.trm T E k).2.1 ∧ (Gr.trm T E k).2.1 ≤ T.length) := by
  unfold Gr.trm
  split
  · rename_i hn; have := List.getElem?_eq_none_iff.1 hn; omega
  · rename_i b hb
    split
    · refine ⟨?_, ?_, fun _ => ?_⟩ <;> dsimp only <;> omega
    split
    · have := hE (k + 1) (by omega)
      refine ⟨?_, ?_, fun h => ?_⟩
      · dsimp only; omega
      · dsimp only; omega
      · dsimp only at h ⊢
        rw [Bool.or_eq_false_iff] at h
        have h2 : Gr.nx T (E (k + 1)).2.1 = 41 := by simpa using h.2
        have := gr_nx_lt (T := T) (k := (E (k + 1)).2.1) (by rw [h2]; decide)
        omega
    split
    · have := gr_cls_le hk
      exact ⟨this.1, by omega, fun h => ⟨this.2.2 h, this.2.1⟩⟩
    split
    · split
      · exact ⟨Nat.le_refl _, by dsimp only; omega, fun h => by cases h⟩
      · rename_i x u e1
        have := gr_elem_pos e1
        rw [List.length_drop] at this
        refine ⟨?_, ?_, fun _ => ?_⟩ <;> dsimp only <;> omega
    split
    · exact ⟨Nat.le_refl _, by dsimp only; omega, fun h => by cases h⟩
    · refine ⟨?_, ?_, fun _ => ?_⟩ <;> dsimp only <;> omega
theorem gr_bnd_ok {k : Nat} (hk : k ≤ T.length) (h : (Gr.bnd T k).2.2.2 = false) : (Gr.bnd T k).2.2.1 ≤ T.length := by
  have h1 := gr_num_le (T := T) k false
  unfold Gr.bnd at h ⊢
  split at h
  · rename_i hc
    rw [if_pos hc]
    split at h
    · rename_i h2
      rw [if_pos h2]
      have := gr_nx_lt (T := T) (k := (Gr.num T k false).2.1 + 1) (by rw [h2]; decide)
      dsimp only; omega
    · rename_i h2
      rw [if_neg h2]
      dsimp only at h ⊢
      rw [Bool.or_eq_false_iff] at h
      have h3 : Gr.nx T (Gr.num T ((Gr.num T k false).2.1 + 1) (Gr.num T k false).2.2).2.1 = 125 := by simpa using h.2
      exact gr_nx_lt (T := T) (by rw [h3]; decide)
  · rename_i hc
    rw [if_neg hc]
    dsimp only at h ⊢
    rw [Bool.or_eq_false_iff] at h
    have h3 : Gr.nx T (Gr.num T k false).2.1 = 125 := by simpa using h.2
    exact gr_nx_lt (T := T) (by rw [h3]; decide)
theorem gr_cntL_le {M : Nat} (hM : T.length + 2 ≤ M) : ∀ (f : Nat) (r : Rx) (k : Nat) (b : Bool), (b = false → k ≤ T.length) → k ≤ M → k ≤ (Gr.cntL T f r k b).2.1 ∧ (Gr.cntL T f r k b).2.1 ≤ M ∧ ((Gr.cntL T f r k b).2.2 = false → b = false ∧ (Gr.cntL T f r k b).2.1 ≤ T.length)
  | 0, r, k, b, h, hk => ⟨Nat.le_refl _, hk, fun e => ⟨e, h e⟩⟩
  | f + 1, r, k, b, h, hk => by
    rw [Gr.cntL]
    split
    · exact ⟨Nat.le_refl _, hk, fun e => ⟨e, h e⟩⟩
    rename_i hb
    have hb : b = false := by simpa using hb
    have hk := h hb
    have go : Gr.nx T k ≠ 0 → ∀ r', k ≤ (Gr.cntL T f r' (k + 1) false).2.1 ∧ (Gr.cntL T f r' (k + 1) false).2.1 ≤ M ∧ ((Gr.cntL T f r' (k + 1) false).2.2 = false → b = false ∧ (Gr.cntL T f r' (k + 1) false).2.1 ≤ T.length) := fun hx r' => by
      have := gr_nx_lt hx
      have := gr_cntL_le hM f r' (k + 1) false (fun _ => by omega) (by omega)
      exact ⟨by omega, this.2.1, fun e => ⟨hb, (this.2.2 e).2⟩⟩
    split
    · rename_i hc; exact go (by rw [hc]; decide) _
    split
    · rename_i hc; exact go (by rw [hc]; decide) _
    split
    · rename_i hc; exact go (by rw [hc]; decide) _
    split
    · rename_i hc
      have hl := gr_nx_lt (T := T) (k := k) (by rw [hc]; decide)
      have h1 := gr_bnd_le (T := T) (k := k + 1) (by omega)
      have := gr_cntL_le hM f (Rx.rep (Gr.bnd T (k + 1)).1 (Gr.bnd T (k + 1)).2.1 r) _ _ (fun e => gr_bnd_ok (by omega) e) (show (Gr.bnd T (k + 1)).2.2.1 ≤ M by omega)
      exact ⟨by omega, this.2.1, fun e => ⟨hb, (this.2.2 e).2⟩⟩
    · exact ⟨Nat.le_refl _, by omega, fun _ => ⟨hb, hk⟩⟩
theorem gr_cnt_le (hd : 2 ≤ d) (hE : Gr.Ok T d E) {k : Nat} (hk : k < T.length) : k ≤ (Gr.cnt T E k).2.1 ∧ (Gr.cnt T E k).2.1 ≤ T.length + d + 1 ∧ ((Gr.cnt T E k).2.2 = false → k < (Gr.cnt T E k).2.1 ∧ (Gr.cnt T E k).2.1 ≤ T.length) := by
  have h1 := gr_trm_le hd hE hk
  have h2 := gr_cntL_le (T := T) (M := T.length + d + 1) (by omega) (T.length + 2) (Gr.trm T E k).1 (Gr.trm T E k).2.1 (Gr.trm T E k).2.2 (fun e => (h1.2.2 e).2) h1.2.1
  exact ⟨Nat.le_trans h1.1 h2.1, h2.2.1, fun e => ⟨Nat.lt_of_lt_of_le (h1.2.2 (h2.2.2 e).1).1 h2.1, (h2.2.2 e).2⟩⟩
theorem gr_seqL_le (hd : 2 ≤ d) (hE : Gr.Ok T d E) : ∀ (f : Nat) (l : List Rx) (k : Nat) (b : Bool), (b = false → k ≤ T.length) → k ≤ T.length + d + 1 → k ≤ (Gr.seqL T E f l k b).2.1 ∧ (Gr.seqL T E f l k b).2.1 ≤ T.length + d + 1 ∧ ((Gr.seqL T E f l k b).2.2 = false → (Gr.seqL T E f l k b).2.1 ≤ T.length)
  | 0, l, k, b, h, hk => ⟨Nat.le_refl _, hk, h⟩
  | f + 1, l, k, b, h, hk => by
    rw [Gr.seqL]
    split
    · exact ⟨Nat.le_refl _, hk, h⟩
    rename_i hc
    rw [Bool.or_eq_true, not_or] at hc
    have hlt : k < T.length := by
      have := hc.1
      unfold stopP at this
      simp only [Bool.or_eq_true, not_or, decide_eq_true_eq] at this
      omega
    have h1 := gr_cnt_le hd hE hlt
    have := gr_seqL_le hd hE f (l ++ [(Gr.cnt T E k).1]) (Gr.cnt T E k).2.1 (Gr.cnt T E k).2.2 (fun e => (h1.2.2 e).2) h1.2.1
    exact ⟨Nat.le_trans h1.1 this.1, this.2⟩
theorem gr_sqn_le (hd : 2 ≤ d) (hE : Gr.Ok T d E) {k : Nat} (hk : k ≤ T.length) : k ≤ (Gr.sqn T E k).2.1 ∧ (Gr.sqn T E k).2.1 ≤ T.length + d + 1 ∧ ((Gr.sqn T E k).2.2 = false → (Gr.sqn T E k).2.1 ≤ T.length) :=
  gr_seqL_le hd hE _ _ _ _ (fun _ => hk) (by omega)
theorem gr_altL_le (hd : 2 ≤ d) (hE : Gr.Ok T d E) : ∀ (f : Nat) (l : List Rx) (k : Nat) (b : Bool), (b = false → k ≤ T.length) → k ≤ T.length + d + 1 → k ≤ (Gr.altL T E f l k b).2.1 ∧ (Gr.altL T E f l k b).2.1 ≤ T.length + d + 1 ∧ ((Gr.altL T E f l k b).2.2 = false → (Gr.altL T E f l k b).2.1 ≤ T.length)
  | 0, l, k, b, h, hk => ⟨Nat.le_refl _, hk, h⟩
  | f + 1, l, k, b, h, hk => by
    rw [Gr.altL]
    split
    · rename_i hc
      have := at_lt hc.1
      have h1 := gr_sqn_le hd hE (k := k + 1) (by omega)
      have := gr_altL_le hd hE f (l ++ [(Gr.sqn T E (k + 1)).1]) (Gr.sqn T E (k + 1)).2.1 (Gr.sqn T E (k + 1)).2.2 h1.2.2 h1.2.1
      exact ⟨by omega, this.2⟩
    · exact ⟨Nat.le_refl _, hk, h⟩
theorem gr_alt_le (hd : 2 ≤ d) (hE : Gr.Ok T d E) : Gr.Ok T (d + 1) (Gr.alt T E) := fun k hk => by
  have h1 := gr_sqn_le hd hE hk
  have := gr_altL_le hd hE (T.length + 2) [(Gr.sqn T E k).1] (Gr.sqn T E k).2.1 (Gr.sqn T E k).2.2 h1.2.2 h1.2.1
  exact ⟨Nat.le_trans h1.1 this.1, this.2⟩
theorem gr_exN_le : ∀ n : Nat, Gr.Ok T (n + 2) (Gr.exN T n)
  | 0, k, hk => ⟨Nat.le_refl _, by show k ≤ _; omega, fun h => by cases h⟩
  | n + 1, k, hk => gr_alt_le (by omega) (gr_exN_le n) k hk
end
end Go.Proofs.YtpiagfmjekcncaaDoor
namespace Go.Proofs.YtpiagfmjekcncaaDoor
section
variable {T : List UInt8} {f k n : Nat} {b : UInt8}
theorem gr_numL_none (h : T[k]? = none) : Gr.numL T (f + 1) k n = (n, k) := by rw [Gr.numL, h]
theorem gr_numL_dig (h : T[k]? = some b) (hd : 48 ≤ b ∧ b ≤ 57) : Gr.numL T (f + 1) k n = Gr.numL T f (k + 1) (min (10 * n + (b.toNat - 48)) 1000) := by rw [Gr.numL, h]; exact if_pos hd
theorem gr_numL_end (h : T[k]? = some b) (hd : ¬ (48 ≤ b ∧ b ≤ 57)) : Gr.numL T (f + 1) k n = (n, k) := by rw [Gr.numL, h]; exact if_neg hd
theorem numL_none (h : T[k]? = none) : numL T (f + 1) k n = some (n, k) := by rw [numL, h]
theorem numL_dig (h : T[k]? = some b) (hd : 48 ≤ b ∧ b ≤ 57) : numL T (f + 1) k n = if 64 < n * 10 + (b.toNat - 48) then none else numL T f (k + 1) (n * 10 + (b.toNat - 48)) := by rw [numL, h]; exact if_pos hd
theorem numL_end (h : T[k]? = some b) (hd : ¬ (48 ≤ b ∧ b ≤ 57)) : numL T (f + 1) k n = some (n, k) := by rw [numL, h]; exact if_neg hd
end
theorem gr_numL_ge {T : List UInt8} : ∀ (f k n : Nat), n ≤ 1000 → n ≤ (Gr.numL T f k n).1
  | 0, k, n, h => by rw [Gr.numL]; exact Nat.le_refl _
  | f + 1, k, n, h => by
    cases hb : T[k]? with
    | none => rw [gr_numL_none hb]; exact Nat.le_refl _
    | some b =>
      by_cases hd : 48 ≤ b ∧ b ≤ 57
      · rw [gr_numL_dig hb hd]
        have := gr_numL_ge (T := T) f (k + 1) (min (10 * n + (b.toNat - 48)) 1000) (Nat.min_le_right _ _)
        omega
      · rw [gr_numL_end hb hd]; exact Nat.le_refl _
theorem gr_numL_eq {T : List UInt8} : ∀ (f k n : Nat), n ≤ 64 → k ≤ T.length → T.length < k + f → numL T f k n = if (Gr.numL T f k n).1 ≤ 64 then some (Gr.numL T f k n) else none
  | 0, k, n, h, hk, hf => by omega
  | f + 1, k, n, h, hk, hf => by
    cases hb : T[k]? with
    | none => rw [numL_none hb, gr_numL_none hb]; exact (if_pos h).symm
    | some b =>
      by_cases hd : 48 ≤ b ∧ b ≤ 57
      · rw [numL_dig hb hd, gr_numL_dig hb hd]
        by_cases h64 : 64 < n * 10 + (b.toNat - 48)
        · rw [if_pos h64]
          have := gr_numL_ge (T := T) f (k + 1) (min (10 * n + (b.toNat - 48)) 1000) (Nat.min_le_right _ _)
          exact (if_neg (by omega)).symm
        · have hl : k < T.length := at_lt hb
          rw [if_neg h64, gr_numL_eq f (k + 1) _ (by omega) (by omega) (by omega), show min (10 * n + (b.toNat - 48)) 1000 = n * 10 + (b.toNat - 48) by omega]
      · rw [numL_end hb hd, gr_numL_end hb hd]; exact (if_pos h).symm
theorem gr_num_eq {T : List UInt8} {k : Nat} (hk : k ≤ T.length) : numP T k = if (Gr.num T k false).2.2 = true then none else some ((Gr.num T k false).1, (Gr.num T k false).2.1) := by
  unfold numP Gr.num
  rw [gr_numL_eq (T.length + 1) k 0 (by omega) hk (by omega)]
  generalize Gr.numL T (T.length + 1) k 0 = p
  obtain ⟨n, e⟩ := p
  dsimp only
  by_cases h : n ≤ 64
  · rw [if_pos h]
    dsimp only
    have h2 : decide (64 < n) = false := decide_eq_false (by omega)
    rw [h2]
    by_cases h3 : e = k ∨ (T[k]? = some 48 ∧ k + 1 < e)
    · rw [if_pos h3, if_pos]
      rcases h3 with h3 | h3
      · simp [h3]
      · simp [h3.1, h3.2]
    · rw [if_neg h3, if_neg]
      intro hc
      apply h3
      simp only [Bool.false_or, Bool.or_false, Bool.or_eq_true, decide_eq_true_eq, Bool.and_eq_true, beq_iff_eq] at hc
      rcases hc with hc | hc
      · exact .inl hc
      · exact .inr ⟨hc.2, hc.1⟩
  · rw [if_neg h]
    dsimp only
    rw [if_pos]
    simp
    omega
end Go.Proofs.YtpiagfmjekcncaaDoor
namespace Go.Proofs.YtpiagfmjekcncaaDoor
/-- What a marked answer says: nothing. -/
def Gr.om {α : Type} (p : α × Nat × Bool) : Option (α × Nat) := if p.2.2 = true then none else some (p.1, p.2.1)
section
variable {α : Type} {x : α} {k : Nat} {b : Bool} {p : α × Nat × Bool}
theorem om_false (h : p.2.2 = false) : Gr.om p = some (p.1, p.2.1) := by unfold Gr.om; rw [h]; rfl
theorem om_true (h : p.2.2 = true) : Gr.om p = none := by unfold Gr.om; exact if_pos h
end
section
variable {T : List UInt8}
theorem nx_iff {k : Nat} {b : UInt8} (hb : b ≠ 0) : Gr.nx T k = b ↔ T[k]? = some b := ⟨fun h => gr_nx_some h hb, gr_nx_at⟩
theorem gr_num_true {k : Nat} : (Gr.num T k true).2.2 = true := by unfold Gr.num; simp
theorem gr_bnd_eq {k : Nat} (hc : T[k]? = some 123) : cntP T k = if (Gr.bnd T (k + 1)).2.2.2 = true then none else some (some (((Gr.bnd T (k + 1)).1 : Int), (Gr.bnd T (k + 1)).2.1), (Gr.bnd T (k + 1)).2.2.1) := by
  have hl : k < T.length := at_lt hc
  have hn := gr_num_eq (T := T) (k := k + 1) (by omega)
  have hle := gr_num_le (T := T) (k + 1) false
  have e1 : cntP T k = match numP T (k + 1) with
    | none => none
    | some (lo, k1) =>
      if T[k1]? = some 44 then
        (if k1 + 1 < T.length ∧ T[k1 + 1]? ≠ some 125 then match numP T (k1 + 1) with
          | none => none
          | some (hi, k2) => if T[k2]? = some 125 ∧ lo ≤ hi then some (some ((lo : Int), (hi : Int)), k2 + 1) else none
        else if T[k1 + 1]? = some 125 then some (some ((lo : Int), -1), k1 + 2) else none)
      else if T[k1]? = some 125 then some (some ((lo : Int), (lo : Int)), k1 + 1) else none := by
    unfold cntP
    rw [hc, if_neg (by decide), if_neg (by decide), if_neg (by decide), if_pos rfl]
    rfl
  rw [e1, hn]
  unfold Gr.bnd
  have hm : ∀ q, (Gr.num T q (Gr.num T (k + 1) false).2.2).2.2 = true ∨ (Gr.num T (k + 1) false).2.2 = false := fun q => by
    cases h : (Gr.num T (k + 1) false).2.2
    · exact .inr rfl
    · exact .inl gr_num_true
  generalize hp : Gr.num T (k + 1) false = p at *
  obtain ⟨lo, k1, m⟩ := p
  dsimp only at *
  cases m with
  | true =>
    rw [if_pos rfl]
    dsimp only
    by_cases h44 : Gr.nx T k1 = 44
    · rw [if_pos h44]
      by_cases h125 : Gr.nx T (k1 + 1) = 125
      · rw [if_pos h125]; rfl
      · rw [if_neg h125, if_pos (by simp [gr_num_true])]
    · rw [if_neg h44]; rfl
  | false =>
    rw [if_neg (by decide)]
    dsimp only
    by_cases h44 : T[k1]? = some 44
    · have hl1 : k1 < T.length := at_lt h44
      rw [if_pos h44, if_pos (gr_nx_at h44)]
      by_cases h125 : T[k1 + 1]? = some 125
      · rw [if_neg (fun h => h.2 h125), if_pos h125, if_pos (gr_nx_at h125)]; rfl
      · rw [if_neg (fun h => h125 ((nx_iff (by decide)).1 h))]
        have hn2 := gr_num_eq (T := T) (k := k1 + 1) (by omega)
        by_cases h1 : k1 + 1 < T.length
        · rw [if_pos ⟨h1, h125⟩, hn2]
          generalize Gr.num T (k1 + 1) false = p2
          obtain ⟨hi, k2, m2⟩ := p2
          dsimp only
          cases m2 with
          | true => rfl
          | false =>
            rw [if_neg (by decide)]
            dsimp only
            by_cases h3 : T[k2]? = some 125 ∧ lo ≤ hi
            · rw [if_pos h3, gr_nx_at h3.1]
              have : decide (hi < lo) = false := decide_eq_false (by omega)
              rw [this]; rfl
            · rw [if_neg h3, if_pos]
              by_cases h4 : hi < lo
              · rw [decide_eq_true h4]; rfl
              · have : ¬ Gr.nx T k2 = 125 := fun h => h3 ⟨(nx_iff (by decide)).1 h, by omega⟩
                simp [this]
        · rw [if_neg (fun h => h1 h.1), if_neg h125]
          have hnone : (Gr.num T (k1 + 1) false).2.2 = true := by
            have : numP T (k1 + 1) = none := by
              unfold numP
              rw [numL_none (List.getElem?_eq_none_iff.2 (by omega))]
              exact if_pos (.inl rfl)
            rw [this] at hn2
            cases h : (Gr.num T (k1 + 1) false).2.2 with
            | true => rfl
            | false => rw [h] at hn2; cases hn2
          rw [hnone]; rfl
    · rw [if_neg h44, if_neg (fun h => h44 ((nx_iff (by decide)).1 h))]
      dsimp only
      by_cases h125 : T[k1]? = some 125
      · rw [if_pos h125, gr_nx_at h125]; rfl
      · rw [if_neg h125, if_pos]
        have : ¬ Gr.nx T k1 = 125 := fun h => h125 ((nx_iff (by decide)).1 h)
        simp [this]
theorem gt_cntL_true (f : Nat) (r : Rx) (k : Nat) : Gr.cntL T f r k true = (r, k, true) := by
  cases f with
  | zero => rfl
  | succ f => rw [Gr.cntL]; exact if_pos rfl
theorem gr_cntL_eq : ∀ (f g : Nat) (r : Rx) (k : Nat), k ≤ T.length → T.length < k + f → T.length < k + g → cntsP T f r k = Gr.om (Gr.cntL T g r k false)
  | 0, _, _, _, hk, hf, _ => by omega
  | _ + 1, 0, _, _, hk, _, hg => by omega
  | f + 1, g + 1, r, k, hk, hf, hg => by
    have step : ∀ lo hi k', (k < k') → k' ≤ T.length → cntP T k = some (some (lo, hi), k') → cntsP T (f + 1) r k = Gr.om (Gr.cntL T g (Rx.rep lo hi r) k' false) := fun lo hi k' h1 h2 h => by
      rw [cntsP, h]
      exact gr_cntL_eq f g _ _ h2 (by omega) (by omega)
    rw [Gr.cntL, if_neg (by decide)]
    by_cases h1 : T[k]? = some 42
    · have := at_lt h1
      rw [if_pos (gr_nx_at h1)]
      exact step _ _ _ (by omega) (by omega) (by unfold cntP; exact if_pos h1)
    rw [if_neg (fun h => h1 ((nx_iff (by decide)).1 h))]
    by_cases h2 : T[k]? = some 43
    · have := at_lt h2
      rw [if_pos (gr_nx_at h2)]
      exact step _ _ _ (by omega) (by omega) (by unfold cntP; rw [if_neg h1]; exact if_pos h2)
    rw [if_neg (fun h => h2 ((nx_iff (by decide)).1 h))]
    by_cases h3 : T[k]? = some 63
    · have := at_lt h3
      rw [if_pos (gr_nx_at h3)]
      exact step _ _ _ (by omega) (by omega) (by unfold cntP; rw [if_neg h1, if_neg h2]; exact if_pos h3)
    rw [if_neg (fun h => h3 ((nx_iff (by decide)).1 h))]
    by_cases h4 : T[k]? = some 123
    · have hl := at_lt h4
      rw [if_pos (gr_nx_at h4)]
      have e := gr_bnd_eq h4
      have hb := gr_bnd_le (T := T) (k := k + 1) (by omega)
      have ho := gr_bnd_ok (T := T) (k := k + 1) (by omega)
      generalize Gr.bnd T (k + 1) = q at *
      obtain ⟨lo, hi, k', m⟩ := q
      dsimp only at *
      cases m with
      | true =>
        rw [gt_cntL_true, cntsP, e, if_pos rfl]
        rfl
      | false =>
        rw [if_neg (by decide)] at e
        exact step _ _ _ (by omega) (ho rfl) e
    rw [if_neg (fun h => h4 ((nx_iff (by decide)).1 h))]
    rw [cntsP]
    have e : cntP T k = some (none, k) := by unfold cntP; rw [if_neg h1, if_neg h2, if_neg h3, if_neg h4]
    rw [e]
    rfl
theorem digitP_drop (j i : Nat) : digitP T (j + i) = (digitP (T.drop j) i).map (fun p => (p.1, j + p.2)) := by
  unfold digitP
  rw [List.getElem?_drop]
  cases T[j + i]? with
  | none => rfl
  | some b =>
    dsimp only
    cases hexd b with
    | none => rfl
    | some d => rfl
theorem escP_drop (j i : Nat) : escP T (j + i) = (escP (T.drop j) i).map (fun p => (p.1, j + p.2)) := by
  unfold escP
  rw [List.getElem?_drop]
  cases T[j + i]? with
  | none => rfl
  | some b =>
    dsimp only
    split
    · rfl
    split
    · rfl
    split
    · rfl
    split
    · rw [show j + i + 1 = j + (i + 1) by omega, digitP_drop]
      cases digitP (T.drop j) (i + 1) with
      | none => rfl
      | some p =>
        obtain ⟨h, k1⟩ := p
        simp only [Option.map_some]
        rw [digitP_drop]
        cases digitP (T.drop j) k1 with
        | none => rfl
        | some p => rfl
    split
    · rfl
    · rfl
theorem elemP_back {k : Nat} (h : T[k]? = some 92) : elemP (T.drop k) = (escP T (k + 1)).map (fun p => (p.1, p.2 - k)) := by
  have hl := at_lt h
  have e : T.drop k = 92 :: T.drop (k + 1) := by
    rw [List.drop_eq_getElem_cons hl]
    congr 1
    rw [List.getElem?_eq_getElem hl] at h
    exact Option.some.inj h
  rw [e, elemP, if_neg (by decide), if_neg (by decide)]
  have h2 := escP_drop (T := T) (k + 1) 0
  rw [Nat.add_zero] at h2
  rw [h2]
  cases escP (T.drop (k + 1)) 0 with
  | none => rfl
  | some p =>
    simp only [Option.map_some]
    exact congrArg some (Prod.ext rfl (by show p.2 + 1 = k + 1 + p.2 - k; omega))
theorem escP_gt {k : Nat} {x : UInt8} {u : Nat} (h : escP T k = some (x, u)) : k ≤ u := by have := escP_pos h; omega
theorem gr_cls_eq {k : Nat} : (match classP T (k + 1) with
      | none => none
      | some (S, k') => some (Rx.set S, k')) = Gr.om (Gr.cls T k) := by
  unfold classP Gr.cls
  dsimp only
  cases endP T (T.length + 1) (if T[k + 1]? = some 94 then k + 2 else k + 1) with
  | none => rfl
  | some e =>
    dsimp only
    cases lsP (e - 1 - (if T[k + 1]? = some 94 then k + 2 else k + 1) + 1) ((T.drop (if T[k + 1]? = some 94 then k + 2 else k + 1)).take (e - 1 - (if T[k + 1]? = some 94 then k + 2 else k + 1))) noneS with
    | none => rfl
    | some S => rfl
variable {E : Nat → Rx × Nat × Bool} {E' : Nat → Option (Rx × Nat)} {d : Nat}
theorem gr_trm_eq (hE : ∀ k, k ≤ T.length → E' k = Gr.om (E k)) {k : Nat} (hk : k < T.length) : termP T E' k = Gr.om (Gr.trm T E k) := by
  obtain ⟨b, hb⟩ : ∃ b, T[k]? = some b := ⟨_, List.getElem?_eq_getElem hk⟩
  unfold termP Gr.trm
  rw [hb]
  dsimp only
  by_cases h92 : b = 92
  · subst h92
    rw [if_pos rfl, if_neg (by decide), if_neg (by decide), if_neg (by decide), if_pos rfl, elemP_back hb]
    cases he : escP T (k + 1) with
    | none => rfl
    | some p =>
      obtain ⟨x, u⟩ := p
      have := escP_gt he
      simp only [Option.map_some]
      rw [om_false rfl]
      exact congrArg some (Prod.ext rfl (by show u = k + (u - k); omega))
  rw [if_neg h92]
  by_cases h46 : b = 46
  · rw [if_pos h46, if_pos h46]; rfl
  rw [if_neg h46, if_neg h46]
  by_cases h91 : b = 91
  · have h40 : ¬ b = 40 := by rw [h91]; decide
    rw [if_pos h91, if_neg h40, if_pos h91]
    exact gr_cls_eq
  rw [if_neg h91, if_neg h91]
  by_cases h40 : b = 40
  · rw [if_pos h40, if_pos h40, hE (k + 1) (by omega)]
    generalize E (k + 1) = q
    obtain ⟨r, k', m⟩ := q
    cases m with
    | true => rfl
    | false =>
      rw [om_false rfl]
      dsimp only
      by_cases h41 : T[k']? = some 41
      · rw [if_pos h41, gr_nx_at h41]; rfl
      · rw [if_neg h41]
        have : ¬ Gr.nx T k' = 41 := fun h => h41 ((nx_iff (by decide)).1 h)
        exact (om_true (by simp [this])).symm
  rw [if_neg h40, if_neg h40, if_neg h92]
  split <;> rfl
/-- A term with its counters. -/
def countP (T : List UInt8) (E' : Nat → Option (Rx × Nat)) (k : Nat) : Option (Rx × Nat) := match termP T E' k with
  | none => none
  | some (r, k1) => cntsP T (T.length + 1) r k1
theorem termsL_step {E' : Nat → Option (Rx × Nat)} {f k : Nat} {l : List Rx} (hs : ¬ stopP T k = true) : termsL T E' (f + 1) l k = (countP T E' k).bind (fun p => termsL T E' f (l ++ [p.1]) p.2) := by
  rw [termsL, if_neg hs]
  unfold countP
  cases termP T E' k with
  | none => rfl
  | some p =>
    dsimp only
    cases cntsP T (T.length + 1) p.1 p.2 with
    | none => rfl
    | some q => rfl
theorem gr_cnt_eq (hd : 2 ≤ d) (hO : Gr.Ok T d E) (hE : ∀ k, k ≤ T.length → E' k = Gr.om (E k)) {k : Nat} (hk : k < T.length) : countP T E' k = Gr.om (Gr.cnt T E k) := by
  unfold countP
  have h1 := gr_trm_le hd hO hk
  rw [gr_trm_eq hE hk]
  unfold Gr.cnt
  generalize Gr.trm T E k = q at *
  obtain ⟨r, k1, m⟩ := q
  cases m with
  | true => rw [om_true rfl, gt_cntL_true]; rfl
  | false =>
    rw [om_false rfl]
    have := (h1.2.2 rfl).2
    dsimp only at *
    exact gr_cntL_eq _ _ _ _ this (by omega) (by omega)
theorem gr_seqL_true (f : Nat) (l : List Rx) (k : Nat) : Gr.seqL T E f l k true = (l, k, true) := by
  cases f with
  | zero => rfl
  | succ f => rw [Gr.seqL]; exact if_pos (by simp)
theorem stopP_lt {k : Nat} (h : stopP T k = false) : k < T.length := by
  unfold stopP at h
  simp only [Bool.or_eq_false_iff, decide_eq_false_iff_not] at h
  omega
theorem gr_seqL_eq (hd : 2 ≤ d) (hO : Gr.Ok T d E) (hE : ∀ k, k ≤ T.length → E' k = Gr.om (E k)) : ∀ (f g : Nat) (l : List Rx) (k : Nat), k ≤ T.length → T.length < k + f → T.length < k + g → termsL T E' f l k = Gr.om (Gr.seqL T E g l k false)
  | 0, _, _, _, hk, hf, _ => by omega
  | _ + 1, 0, _, _, hk, _, hg => by omega
  | f + 1, g + 1, l, k, hk, hf, hg => by
    by_cases hs : stopP T k = true
    · rw [termsL, Gr.seqL, Bool.or_false, if_pos hs, if_pos hs]; rfl
    have hl := stopP_lt (Bool.eq_false_iff.2 hs)
    have hc := gr_cnt_le hd hO hl
    have e := gr_cnt_eq hd hO hE hl
    rw [termsL_step hs, Gr.seqL, Bool.or_false, if_neg hs, e]
    generalize Gr.cnt T E k = q at *
    obtain ⟨r, k1, m⟩ := q
    cases m with
    | true => rw [om_true rfl, gr_seqL_true]; rfl
    | false =>
      rw [om_false rfl]
      have h2 := hc.2.2 rfl
      dsimp only at *
      exact gr_seqL_eq hd hO hE f g _ _ h2.2 (by omega) (by omega)
theorem gr_sqn_eq (hd : 2 ≤ d) (hO : Gr.Ok T d E) (hE : ∀ k, k ≤ T.length → E' k = Gr.om (E k)) {k : Nat} (hk : k ≤ T.length) : termsP T E' k = Gr.om (Gr.sqn T E k) := by
  unfold termsP Gr.sqn
  rw [gr_seqL_eq hd hO hE (T.length + 1) (T.length + 2) [] k hk (by omega) (by omega)]
  generalize Gr.seqL T E (T.length + 2) [] k false = q
  obtain ⟨l, k1, m⟩ := q
  cases m <;> rfl
theorem gr_altL_true (f : Nat) (l : List Rx) (k : Nat) : Gr.altL T E f l k true = (l, k, true) := by
  cases f with
  | zero => rfl
  | succ f => rw [Gr.altL]; exact if_neg (fun h => by cases h.2)
theorem gr_altL_eq (hd : 2 ≤ d) (hO : Gr.Ok T d E) (hE : ∀ k, k ≤ T.length → E' k = Gr.om (E k)) : ∀ (f g : Nat) (l : List Rx) (k : Nat), k ≤ T.length → T.length < k + f → T.length < k + g → barsL T E' f l k = Gr.om (Gr.altL T E g l k false)
  | 0, _, _, _, hk, hf, _ => by omega
  | _ + 1, 0, _, _, hk, _, hg => by omega
  | f + 1, g + 1, l, k, hk, hf, hg => by
    rw [barsL, Gr.altL]
    by_cases hs : T[k]? = some 124
    · rw [if_pos hs, if_pos ⟨hs, rfl⟩]
      have hl := at_lt hs
      have hc := gr_sqn_le hd hO (k := k + 1) (by omega)
      rw [gr_sqn_eq hd hO hE (k := k + 1) (by omega)]
      generalize Gr.sqn T E (k + 1) = q at *
      obtain ⟨r, k1, m⟩ := q
      cases m with
      | true => rw [om_true rfl, gr_altL_true]; rfl
      | false =>
        rw [om_false rfl]
        have h2 := hc.2.2 rfl
        dsimp only at *
        exact gr_altL_eq hd hO hE f g _ _ h2 (by omega) (by omega)
    · rw [if_neg hs, if_neg (fun h => hs h.1)]; rfl
theorem gr_exN_eq : ∀ (n k : Nat), k ≤ T.length → exprN T n k = Gr.om (Gr.exN T n k)
  | 0, _, _ => rfl
  | n + 1, k, hk => by
    have hO := gr_exN_le (T := T) n
    have hE := gr_exN_eq n
    have hc := gr_sqn_le (by omega) hO hk
    rw [exprN, gr_sqn_eq (by omega) hO hE hk]
    show _ = Gr.om (Gr.alt T (Gr.exN T n) k)
    unfold Gr.alt
    generalize Gr.sqn T (Gr.exN T n) k = q at *
    obtain ⟨r, k1, m⟩ := q
    cases m with
    | true => rw [om_true rfl, gr_altL_true]; rfl
    | false =>
      rw [om_false rfl]
      have h2 := hc.2.2 rfl
      dsimp only at *
      rw [gr_altL_eq (by omega) hO hE (T.length + 1) (T.length + 2) _ _ h2 (by omega) (by omega)]
      generalize Gr.altL T (Gr.exN T n) (T.length + 2) [r] k1 false = q
      obtain ⟨l, k2, m⟩ := q
      cases m <;> rfl
end
end Go.Proofs.YtpiagfmjekcncaaDoor
