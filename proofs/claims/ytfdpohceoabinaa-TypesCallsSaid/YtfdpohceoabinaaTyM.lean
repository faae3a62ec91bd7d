/- The open calls of types.Of: how they hang together, and how they lie in memory. -/
import Derived.Test.YtfdpohceoabinaaTyP
namespace Go.Proofs.Ytfdpohceoabinaa
open Go.RowKit
/-- The node y is what the open calls (the innermost first) wait for. -/
def Chain (root : Lx) : List Fr → Lx → Prop
  | [], y => y = root
  | fr :: st, y => fr.x.args[fr.ck]? = some y ∧ (∃ s, fr.S[fr.ck]? = some s ∧ s ≠ 0) ∧ typX fr.x = fr.left ∧ Chain root st fr.x
theorem chain_left {fr : Fr} {y : Lx} (h1 : fr.x.args[fr.ck]? = some y) (h2 : ∃ s, fr.S[fr.ck]? = some s ∧ s ≠ 0) : fr.left = thenE (typX y) fr.cont := by
  obtain ⟨s, hs, h0⟩ := h2
  exact left_ask fr s y hs h0 h1
theorem chain_err {root : Lx} {e : Value} : ∀ {st : List Fr} {y : Lx}, Chain root st y → typX y = .error e → typX root = .error e
  | [], y, h, he => by
    have h : y = root := h
    rw [← h]; exact he
  | fr :: st, y, h, he => by
    obtain ⟨h1, h2, h3, h4⟩ := h
    refine chain_err h4 ?_
    rw [h3, chain_left h1 h2, he]
    rfl
theorem chain_sub {root : Lx} : ∀ {st : List Fr} {y : Lx}, Chain root st y → Sub y root
  | [], y, h => by
    have h : y = root := h
    rw [h]; exact .refl _
  | fr :: st, y, h => .arg (List.mem_of_getElem? h.1) (chain_sub h.2.2.2)
/-- A new call: nothing of it is checked. -/
theorem typ_call {x : Lx} {S : List Int} {r : Int} (hk : x.kind = 4) (hs : sig x.text = some (S, r)) (hl : S.length = x.args.length) : typX x = Fr.left ⟨x, S, r, 0, 0⟩ := by
  obtain ⟨ad, k, t, n, l⟩ := x
  have hk : k = 4 := hk
  have hs : sig t = some (S, r) := hs
  have hl : S.length = l.length := hl
  rw [typX, if_neg (by omega), if_pos hk, hs]
  dsimp only
  rw [if_pos hl]
  rfl
theorem typ_bad {x : Lx} (hk : x.kind = 4) (hs : sig x.text = none ∨ ∃ S r, sig x.text = some (S, r) ∧ S.length ≠ x.args.length) : typX x = .error errT := by
  obtain ⟨ad, k, t, n, l⟩ := x
  have hk : k = 4 := hk
  rw [typX, if_neg (by omega), if_pos hk]
  rcases hs with hs | ⟨S, r, hs, hl⟩
  · have hs : sig t = none := hs
    rw [hs]
  · have hs : sig t = some (S, r) := hs
    have hl : S.length ≠ l.length := hl
    rw [hs]
    dsimp only
    rw [if_neg hl]
theorem typ_num {x : Lx} (hk : x.kind = 1) : typX x = .ok 1 := by
  obtain ⟨ad, k, t, n, l⟩ := x
  exact if_pos hk
theorem typ_text {x : Lx} (h1 : x.kind ≠ 1) (h4 : x.kind ≠ 4) : typX x = .ok 3 := by
  obtain ⟨ad, k, t, n, l⟩ := x
  have h1 : k ≠ 1 := h1
  have h4 : k ≠ 4 := h4
  rw [typX, if_neg h1, if_neg h4]
/-- The errors of skip. -/
theorem skipR_err {S : List Int} {l : List Lx} {u : Value} : ∀ (f ck : Nat), skipR S l f ck = .error u → u = errT ∨ u = formE ∨ u = largeE := fun f => by
  induction f with
  | zero => intro ck h; cases h
  | succ f ih =>
    intro ck h
    rw [skipR] at h
    split at h
    · split at h
      · cases h
      · split at h
        · split at h
          · exact ih _ h
          · rename_i hp
            injection h with h
            subst h
            exact .inr (parseE_none hp)
        · injection h with h
          exact .inl h.symm
    · cases h
/-- The cells of an open call. -/
def FrV (w : World) (base : Nat) (root : Lx) (fr : Fr) (cs : List Value) : Prop :=
  ∃ a c, cs = [.pointer (some fr.x.ad), .slice (some ⟨a, 0, none⟩) fr.S.length c, .int .i64 fr.ck, .int .i64 fr.fs] ∧ base ≤ a ∧ Blk w a 3 (fr.S.map (Value.int .i64)).toArray ∧ sig fr.x.text = some (fr.S, fr.r) ∧ fr.S.length = fr.x.args.length ∧ Sub fr.x root
/-- The cells of the open calls, the innermost last. -/
def FrVs (w : World) (base : Nat) (root : Lx) : List Fr → List Value → Prop
  | [], xs => xs = []
  | fr :: st, xs => ∃ xs' cs, xs = xs' ++ cs ∧ FrVs w base root st xs' ∧ FrV w base root fr cs
theorem FrV.keep {w w' : World} {base : Nat} {root : Lx} {fr : Fr} {cs : List Value} (h : FrV w base root fr cs) (hk : ∀ a ds, Blk w a 3 ds → Blk w' a 3 ds) : FrV w' base root fr cs := by
  obtain ⟨a, c, h1, h2, h3, h4⟩ := h
  exact ⟨a, c, h1, h2, hk a _ h3, h4⟩
theorem FrVs.keep {w w' : World} {base : Nat} {root : Lx} (hk : ∀ a ds, Blk w a 3 ds → Blk w' a 3 ds) : ∀ {st : List Fr} {xs : List Value}, FrVs w base root st xs → FrVs w' base root st xs
  | [], _, h => h
  | fr :: st, xs, h => by
    obtain ⟨xs', cs, h1, h2, h3⟩ := h
    exact ⟨xs', cs, h1, FrVs.keep hk h2, h3.keep hk⟩
theorem FrVs.length {w : World} {base : Nat} {root : Lx} : ∀ {st : List Fr} {xs : List Value}, FrVs w base root st xs → xs.length = 4 * st.length
  | [], xs, h => by
    have h : xs = [] := h
    rw [h]; rfl
  | fr :: st, xs, h => by
    obtain ⟨xs', cs, h1, h2, a, c, h3, _⟩ := h
    rw [h1, List.length_append, h2.length, h3]
    simp
    omega
/-- The map of the types that are known: every entry is the type of the node there. -/
def KnownOk (root : Lx) (s : List (Addr × Value)) : Prop := ∀ q ∈ s, ∃ x t, Sub x root ∧ x.ad = q.1 ∧ q.2 = .int .i64 t ∧ typX x = .ok t ∧ t ≠ 0
end Go.Proofs.Ytfdpohceoabinaa
