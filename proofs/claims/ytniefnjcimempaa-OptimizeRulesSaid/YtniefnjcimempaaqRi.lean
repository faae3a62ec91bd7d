/- What types.Of computes, in plain Lean: the type of a tree, and what the open calls still ask. The open calls of types.Of: how they hang together, and how they lie in memory. A row of the call's own, opened and closed again. -/
import Derived.Test.YtniefnjcimempaaqRh
import Derived.Test.YtniefnjcimempaaqSig
import Derived.Test.YtniefnjcimempaaqRb
namespace Go.Proofs.Ytniefnjcimempaa
open Go.RowKit
def errT : Value := .iface 37 (.int .i64 12)
mutual
/-- The type of an expression. -/
def typX : Lx → Except Value Int
  | .node _ k t _ l => if k = 1 then .ok 1 else if k = 4 then (match sig t with
      | none => .error errT
      | some (S, r) => if S.length = l.length then typL t r S l 0 0 else .error errT) else .ok 3
/-- What is left of a call: its types S, its arguments, the number of those checked, the first type. -/
def typL (t : List UInt8) (r : Int) : List Int → List Lx → Nat → Int → Except Value Int
  | [], _, _, _ => .ok r
  | _ :: _, [], _, _ => .ok r
  | s :: S, y :: l, ck, fs => if s = 0 then (if y.kind = 2 then (if (parseR y.text).isSome = true then typL t r S l (ck + 1) fs else .error (parseE y.text)) else .error errT)
    else match typX y with
      | .error e => .error e
      | .ok ty => match takeR t s ck fs ty with
        | none => .error errT
        | some f => typL t r S l (ck + 1) f
end
/-- An open call. -/
structure Fr where
  x : Lx
  S : List Int
  r : Int
  ck : Nat
  fs : Int
def Fr.left (fr : Fr) : Except Value Int := typL fr.x.text fr.r (fr.S.drop fr.ck) (fr.x.args.drop fr.ck) fr.ck fr.fs
def Fr.cont (fr : Fr) (t : Int) : Except Value Int := match fr.S[fr.ck]? with
  | none => .error errT
  | some s => match takeR fr.x.text s fr.ck fr.fs t with
    | none => .error errT
    | some f => Fr.left { fr with ck := fr.ck + 1, fs := f }
def thenE (a : Except Value Int) (k : Int → Except Value Int) : Except Value Int := match a with
  | .error e => .error e
  | .ok t => k t
def contS : List Fr → Int → Except Value Int
  | [], t => .ok t
  | fr :: st, t => thenE (fr.cont t) (contS st)
theorem thenE_assoc (a : Except Value Int) (f g : Int → Except Value Int) : thenE (thenE a f) g = thenE a fun t => thenE (f t) g := by cases a <;> rfl
/-- The argument that is asked next. -/
theorem left_ask (fr : Fr) (s : Int) (y : Lx) (hs : fr.S[fr.ck]? = some s) (h0 : s ≠ 0) (hy : fr.x.args[fr.ck]? = some y) : fr.left = thenE (typX y) fr.cont := by
  obtain ⟨x, S, r, ck, fs⟩ := fr
  have e1 : S.drop ck = s :: S.drop (ck + 1) := by
    obtain ⟨h, h'⟩ := List.getElem?_eq_some_iff.1 hs
    rw [← h']; exact List.drop_eq_getElem_cons h
  have e2 : x.args.drop ck = y :: x.args.drop (ck + 1) := by
    obtain ⟨h, h'⟩ := List.getElem?_eq_some_iff.1 hy
    rw [← h']; exact List.drop_eq_getElem_cons h
  unfold Fr.left
  dsimp only
  rw [e1, e2, typL, if_neg h0]
  cases typX y with
  | error e => rfl
  | ok t =>
    unfold thenE Fr.cont
    dsimp only at hs ⊢
    rw [hs]
    rfl
theorem left_done (fr : Fr) (h : fr.S.length ≤ fr.ck) : fr.left = .ok fr.r := by
  unfold Fr.left
  rw [List.drop_eq_nil_iff.2 h, typL]
/-- skip keeps what is left. -/
theorem left_skip (x : Lx) (S : List Int) (r fs : Int) (hl : S.length = x.args.length) : ∀ (f ck : Nat), S.length - ck < f → match skipR S x.args f ck with
    | .ok ck' => Fr.left ⟨x, S, r, ck, fs⟩ = Fr.left ⟨x, S, r, ck', fs⟩ ∧ ck ≤ ck' ∧ S[ck']? ≠ some 0 ∧ (ck ≤ S.length → ck' ≤ S.length)
    | .error e => Fr.left ⟨x, S, r, ck, fs⟩ = .error e := fun f => by
  induction f with
  | zero => intro ck h; omega
  | succ f ih =>
    intro ck h
    rw [skipR]
    by_cases hs : S[ck]? = some 0
    · rw [if_pos hs]
      obtain ⟨hk, hk'⟩ := List.getElem?_eq_some_iff.1 hs
      have hy : x.args[ck]? = some (x.args[ck]'(by omega)) := List.getElem?_eq_getElem _
      generalize x.args[ck]'(by omega) = y at hy
      rw [hy]
      dsimp only
      have e1 : S.drop ck = 0 :: S.drop (ck + 1) := by rw [← hk']; exact List.drop_eq_getElem_cons hk
      have e2 : x.args.drop ck = y :: x.args.drop (ck + 1) := by
        obtain ⟨h, h'⟩ := List.getElem?_eq_some_iff.1 hy
        rw [← h']; exact List.drop_eq_getElem_cons h
      have e3 : Fr.left ⟨x, S, r, ck, fs⟩ = (if y.kind = 2 then (if (parseR y.text).isSome = true then Fr.left ⟨x, S, r, ck + 1, fs⟩ else .error (parseE y.text)) else .error errT) := by
        unfold Fr.left
        dsimp only
        rw [e1, e2, typL, if_pos rfl]
      rw [e3]
      by_cases hk2 : y.kind = 2
      · rw [if_pos hk2, if_pos hk2]
        by_cases hp : (parseR y.text).isSome = true
        · rw [if_pos hp, if_pos hp]
          have hi := ih (ck + 1) (by omega)
          split at hi
          · exact ⟨hi.1, by omega, hi.2.2.1, fun _ => hi.2.2.2 (by omega)⟩
          · exact hi
        · rw [if_neg hp, if_neg hp]
      · rw [if_neg hk2, if_neg hk2]
        rfl
    · rw [if_neg hs]
      exact ⟨rfl, Nat.le_refl _, hs, fun h => h⟩
/-- The types that the table names. -/
theorem sig_pos {l : List UInt8} {S : List Int} {r : Int} (h : sig l = some (S, r)) : 1 ≤ r ∧ r ≤ 4 ∧ 1 ≤ S.length ∧ S.length ≤ 3 := by
  have hh : ∀ L : List (List UInt8 × List Int × Int), (∀ q ∈ L, 1 ≤ q.2.2 ∧ q.2.2 ≤ 4 ∧ 1 ≤ q.2.1.length ∧ q.2.1.length ≤ 3) → sigF l L = some (S, r) → 1 ≤ r ∧ r ≤ 4 ∧ 1 ≤ S.length ∧ S.length ≤ 3 := fun L => by
    induction L with
    | nil => intro _ h; cases h
    | cons q L ih =>
      obtain ⟨n, a, b⟩ := q
      intro hq h
      rw [sigF] at h
      split at h
      · injection h with h
        injection h with h1 h2
        subst h1 h2
        exact hq _ (List.mem_cons_self ..)
      · exact ih (fun q hm => hq q (List.mem_cons_of_mem _ hm)) h
  exact hh sigT (by decide) h
end Go.Proofs.Ytniefnjcimempaa
namespace Go.Proofs.Ytniefnjcimempaa
open Go.RowKit
/-- The node y is what the open calls (the innermost first) wait for. -/
def Chain (root : Lx) : List Fr → Lx → Prop
  | [], y => y = root
  | fr :: st, y => fr.x.args[fr.ck]? = some y ∧ (∃ s, fr.S[fr.ck]? = some s ∧ s ≠ 0) ∧ typX fr.x = fr.left ∧ Chain root st fr.x
theorem chain_left {fr : Fr} {y : Lx} (h1 : fr.x.args[fr.ck]? = some y) (h2 : ∃ s, fr.S[fr.ck]? = some s ∧ s ≠ 0) : fr.left = thenE (typX y) fr.cont := by
  obtain ⟨s, hs, h0⟩ := h2
  exact left_ask fr s y hs h0 h1
theorem chain_err {root : Lx} {e : Value} : ∀ {st : List Fr} {y : Lx}, Chain root st y → typX y = .error e → typX root = .error e
  | [], y, h, he => by
    have h : y = root := h
    rw [← h]; exact he
  | fr :: st, y, h, he => by
    obtain ⟨h1, h2, h3, h4⟩ := h
    refine chain_err h4 ?_
    rw [h3, chain_left h1 h2, he]
    rfl
theorem chain_sub {root : Lx} : ∀ {st : List Fr} {y : Lx}, Chain root st y → Sub y root
  | [], y, h => by
    have h : y = root := h
    rw [h]; exact .refl _
  | fr :: st, y, h => .arg (List.mem_of_getElem? h.1) (chain_sub h.2.2.2)
/-- A new call: nothing of it is checked. -/
theorem typ_call {x : Lx} {S : List Int} {r : Int} (hk : x.kind = 4) (hs : sig x.text = some (S, r)) (hl : S.length = x.args.length) : typX x = Fr.left ⟨x, S, r, 0, 0⟩ := by
  obtain ⟨ad, k, t, n, l⟩ := x
  have hk : k = 4 := hk
  have hs : sig t = some (S, r) := hs
  have hl : S.length = l.length := hl
  rw [typX, if_neg (by omega), if_pos hk, hs]
  dsimp only
  rw [if_pos hl]
  rfl
theorem typ_bad {x : Lx} (hk : x.kind = 4) (hs : sig x.text = none ∨ ∃ S r, sig x.text = some (S, r) ∧ S.length ≠ x.args.length) : typX x = .error errT := by
  obtain ⟨ad, k, t, n, l⟩ := x
  have hk : k = 4 := hk
  rw [typX, if_neg (by omega), if_pos hk]
  rcases hs with hs | ⟨S, r, hs, hl⟩
  · have hs : sig t = none := hs
    rw [hs]
  · have hs : sig t = some (S, r) := hs
    have hl : S.length ≠ l.length := hl
    rw [hs]
    dsimp only
    rw [if_neg hl]
theorem typ_num {x : Lx} (hk : x.kind = 1) : typX x = .ok 1 := by
  obtain ⟨ad, k, t, n, l⟩ := x
  exact if_pos hk
theorem typ_text {x : Lx} (h1 : x.kind ≠ 1) (h4 : x.kind ≠ 4) : typX x = .ok 3 := by
  obtain ⟨ad, k, t, n, l⟩ := x
  have h1 : k ≠ 1 := h1
  have h4 : k ≠ 4 := h4
  rw [typX, if_neg h1, if_neg h4]
/-- The errors of skip. -/
theorem skipR_err {S : List Int} {l : List Lx} {u : Value} : ∀ (f ck : Nat), skipR S l f ck = .error u → u = errT ∨ u = formE ∨ u = largeE := fun f => by
  induction f with
  | zero => intro ck h; cases h
  | succ f ih =>
    intro ck h
    rw [skipR] at h
    split at h
    · split at h
      · cases h
      · split at h
        · split at h
          · exact ih _ h
          · rename_i hp
            injection h with h
            subst h
            exact .inr (parseE_none hp)
        · injection h with h
          exact .inl h.symm
    · cases h
/-- The cells of an open call. -/
def FrV (w : World) (base : Nat) (root : Lx) (fr : Fr) (cs : List Value) : Prop :=
  ∃ a c, cs = [.pointer (some fr.x.ad), .slice (some ⟨a, 0, none⟩) fr.S.length c, .int .i64 fr.ck, .int .i64 fr.fs] ∧ base ≤ a ∧ Blk w a 3 (fr.S.map (Value.int .i64)).toArray ∧ sig fr.x.text = some (fr.S, fr.r) ∧ fr.S.length = fr.x.args.length ∧ Sub fr.x root
/-- The cells of the open calls, the innermost last. -/
def FrVs (w : World) (base : Nat) (root : Lx) : List Fr → List Value → Prop
  | [], xs => xs = []
  | fr :: st, xs => ∃ xs' cs, xs = xs' ++ cs ∧ FrVs w base root st xs' ∧ FrV w base root fr cs
theorem FrV.keep {w w' : World} {base : Nat} {root : Lx} {fr : Fr} {cs : List Value} (h : FrV w base root fr cs) (hk : ∀ a ds, Blk w a 3 ds → Blk w' a 3 ds) : FrV w' base root fr cs := by
  obtain ⟨a, c, h1, h2, h3, h4⟩ := h
  exact ⟨a, c, h1, h2, hk a _ h3, h4⟩
theorem FrVs.keep {w w' : World} {base : Nat} {root : Lx} (hk : ∀ a ds, Blk w a 3 ds → Blk w' a 3 ds) : ∀ {st : List Fr} {xs : List Value}, FrVs w base root st xs → FrVs w' base root st xs
  | [], _, h => h
  | fr :: st, xs, h => by
    obtain ⟨xs', cs, h1, h2, h3⟩ := h
    exact ⟨xs', cs, h1, FrVs.keep hk h2, h3.keep hk⟩
theorem FrVs.length {w : World} {base : Nat} {root : Lx} : ∀ {st : List Fr} {xs : List Value}, FrVs w base root st xs → xs.length = 4 * st.length
  | [], xs, h => by
    have h : xs = [] := h
    rw [h]; rfl
  | fr :: st, xs, h => by
    obtain ⟨xs', cs, h1, h2, a, c, h3, _⟩ := h
    rw [h1, List.length_append, h2.length, h3]
    simp
    omega
/-- The map of the types that are known: every entry is the type of the node there. -/
def KnownOk (root : Lx) (s : List (Addr × Value)) : Prop := ∀ q ∈ s, ∃ x t, Sub x root ∧ x.ad = q.1 ∧ q.2 = .int .i64 t ∧ typX x = .ok t ∧ t ≠ 0
end Go.Proofs.Ytniefnjcimempaa
namespace Go.Proofs.Ytniefnjcimempaa
open Go.RowKit
theorem own_full {w : World} {base e size n : Nat} {v : Value} {xs : List Value} (h : w.ownsRow base e size v n xs) (hn : 0 < n) : ∃ (g c : Nat) (cur : Array Value), v = .slice (some ⟨g, 0, none⟩) n c ∧ n ≤ c ∧ base ≤ g ∧ Blk w g e cur ∧ cur.size = c * size ∧ cur.toList.take (n * size) = xs ∧
    (∀ (w' : World) (cur' : Array Value) (ys : List Value), Blk w' g e cur' → cur'.size = cur.size → ys.length = n * size → cur'.toList.take (n * size) = ys → w'.ownsRow base e size v n ys) := by
  obtain ⟨h1, h2⟩ := h
  rcases h2 with ⟨_, rfl⟩ | ⟨g, cap, cur, hv, h3, h4, h5, h6, h7, h8⟩
  · omega
  · exact ⟨g, cap, cur, hv, h5, h3, h4, h7, h8, fun w' cur' ys hb hs hl ht => ⟨hl, .inr ⟨g, cap, cur', hv, h3, hb, h5, h6, hs.trans h7, ht⟩⟩⟩
/-- The last element of a row of four cells each. -/
theorem last_cells {cur : Array Value} {n : Nat} {xs : List Value} {a b c d : Value} (h : cur.toList.take ((n + 1) * 4) = xs ++ [a, b, c, d]) (hl : xs.length = 4 * n) : cur[n * 4]? = some a ∧ cur[n * 4 + 1]? = some b ∧ cur[n * 4 + 2]? = some c ∧ cur[n * 4 + 3]? = some d := by
  have hh : ∀ j (u : Value), j < 4 → ([a, b, c, d] : List Value)[j]? = some u → cur[n * 4 + j]? = some u := fun j u hj hu => by
    have h1 : (cur.toList.take ((n + 1) * 4))[n * 4 + j]? = some u := by
      rw [h, List.getElem?_append_right (by omega), show n * 4 + j - xs.length = j by omega]
      exact hu
    rw [List.getElem?_take_of_lt (by omega)] at h1
    simpa using h1
  exact ⟨hh 0 a (by omega) rfl, hh 1 b (by omega) rfl, hh 2 c (by omega) rfl, hh 3 d (by omega) rfl⟩
theorem last_set {cur : Array Value} {n : Nat} {xs : List Value} {a b c d : Value} (h : cur.toList.take ((n + 1) * 4) = xs ++ [a, b, c, d]) (hl : xs.length = 4 * n) (c' : Value) : (cur.setIfInBounds (n * 4 + 2) c').toList.take ((n + 1) * 4) = xs ++ [a, b, c', d] := by
  rw [Array.toList_setIfInBounds, List.take_set, h, List.set_append_right _ _ (by omega), show n * 4 + 2 - xs.length = 2 by omega]
  rfl
theorem last_set2 {cur : Array Value} {n : Nat} {xs : List Value} {a b c d : Value} (h : cur.toList.take ((n + 1) * 4) = xs ++ [a, b, c, d]) (hl : xs.length = 4 * n) (c' d' : Value) : ((cur.setIfInBounds (n * 4 + 3) d').setIfInBounds (n * 4 + 2) c').toList.take ((n + 1) * 4) = xs ++ [a, b, c', d'] := by
  refine last_set (d := d') (c := c) ?_ hl c'
  rw [Array.toList_setIfInBounds, List.take_set, h, List.set_append_right _ _ (by omega), show n * 4 + 3 - xs.length = 3 by omega]
  rfl
end Go.Proofs.Ytniefnjcimempaa
