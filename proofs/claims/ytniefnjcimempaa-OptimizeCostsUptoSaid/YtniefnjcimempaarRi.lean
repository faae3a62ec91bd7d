/- What types.Of computes, in plain Lean: the type of a tree, and what the open calls still ask. The open calls of types.Of: how they hang together, and how they lie in memory. A row of the call's own, opened and closed again. -/
import Derived.Test.YtniefnjcimempaarRh
import Derived.Test.YtniefnjcimempaarSig
import Derived.Test.YtniefnjcimempaarRb
namespace Go.Proofs.Ytniefnjcimempaa
open Go.RowKit
def errT : Value := .iface 37 (.int .i64 12)
mutual
def typX : Lx → Except Value Int
  | .node _ k t _ l => if k = 1 then .ok 1 else if k = 4 then (match sig t with
      | none => .error errT
      | some (S, r) => if S.length = l.length then typL t r S l 0 0 else .error errT) else .ok 3
def typL (t : List UInt8) (r : Int) : List Int → List Lx → Nat → Int → Except Value Int
  | [], _, _, _ => .ok r
  | _ :: _, [], _, _ => .ok r
  | s :: S, y :: l, ck, fs => if s = 0 then (if y.kind = 2 then (if (parseR y.text).isSome = true then typL t r S l (ck + 1) fs else .error (parseE y.text)) else .error errT)
    else match typX y with
      | .error e => .error e
      | .ok ty => match takeR t s ck fs ty with
        | none => .error errT
        | some f => typL t r S l (ck + 1) f
end
structure Fr where
  x : Lx
  S : List Int
  r : Int
  ck : Nat
  fs : Int
def Fr.left (fr : Fr) : Except Value Int := typL fr.x.text fr.r (fr.S.drop fr.ck) (fr.x.args.drop fr.ck) fr.ck fr.fs
theorem sig_pos {l : List UInt8} {S : List Int} {r : Int} (h : sig l = some (S, r)) : 1 ≤ r ∧ r ≤ 4 ∧ 1 ≤ S.length ∧ S.length ≤ 3 := by
  have hh : ∀ L : List (List UInt8 × List Int × Int), (∀ q ∈ L, 1 ≤ q.2.2 ∧ q.2.2 ≤ 4 ∧ 1 ≤ q.2.1.length ∧ q.2.1.length ≤ 3) → sigF l L = some (S, r) → 1 ≤ r ∧ r ≤ 4 ∧ 1 ≤ S.length ∧ S.length ≤ 3 := fun L => by
    induction L with
    | nil => intro _ h; cases h
    | cons q L ih =>
      obtain ⟨n, a, b⟩ := q
      intro hq h
      rw [sigF] at h
      split at h
      · injection h with h
        injection h with h1 h2
        subst h1 h2
        exact hq _ (List.mem_cons_self ..)
      · exact ih (fun q hm => hq q (List.mem_cons_of_mem _ hm)) h
  exact hh sigT (by decide) h
end Go.Proofs.Ytniefnjcimempaa
namespace Go.Proofs.Ytniefnjcimempaa
open Go.RowKit
def FrV (w : World) (base : Nat) (root : Lx) (fr : Fr) (cs : List Value) : Prop :=
  ∃ a c, cs = [.pointer (some fr.x.ad), .slice (some ⟨a, 0, none⟩) fr.S.length c, .int .i64 fr.ck, .int .i64 fr.fs] ∧ base ≤ a ∧ Blk w a 3 (fr.S.map (Value.int .i64)).toArray ∧ sig fr.x.text = some (fr.S, fr.r) ∧ fr.S.length = fr.x.args.length ∧ Sub fr.x root
def FrVs (w : World) (base : Nat) (root : Lx) : List Fr → List Value → Prop
  | [], xs => xs = []
  | fr :: st, xs => ∃ xs' cs, xs = xs' ++ cs ∧ FrVs w base root st xs' ∧ FrV w base root fr cs
theorem FrV.keep {w w' : World} {base : Nat} {root : Lx} {fr : Fr} {cs : List Value} (h : FrV w base root fr cs) (hk : ∀ a ds, Blk w a 3 ds → Blk w' a 3 ds) : FrV w' base root fr cs := by
  obtain ⟨a, c, h1, h2, h3, h4⟩ := h
  exact ⟨a, c, h1, h2, hk a _ h3, h4⟩
theorem FrVs.keep {w w' : World} {base : Nat} {root : Lx} (hk : ∀ a ds, Blk w a 3 ds → Blk w' a 3 ds) : ∀ {st : List Fr} {xs : List Value}, FrVs w base root st xs → FrVs w' base root st xs
  | [], _, h => h
  | fr :: st, xs, h => by
    obtain ⟨xs', cs, h1, h2, h3⟩ := h
    exact ⟨xs', cs, h1, FrVs.keep hk h2, h3.keep hk⟩
theorem FrVs.length {w : World} {base : Nat} {root : Lx} : ∀ {st : List Fr} {xs : List Value}, FrVs w base root st xs → xs.length = 4 * st.length
  | [], xs, h => by
    have h : xs = [] := h
    rw [h]; rfl
  | fr :: st, xs, h => by
    obtain ⟨xs', cs, h1, h2, a, c, h3, _⟩ := h
    rw [h1, List.length_append, h2.length, h3]
    simp
    omega
def KnownOk (root : Lx) (s : List (Addr × Value)) : Prop := ∀ q ∈ s, ∃ x t, Sub x root ∧ x.ad = q.1 ∧ q.2 = .int .i64 t ∧ typX x = .ok t ∧ t ≠ 0
end Go.Proofs.Ytniefnjcimempaa
namespace Go.Proofs.Ytniefnjcimempaa
open Go.RowKit
theorem own_full {w : World} {base e size n : Nat} {v : Value} {xs : List Value} (h : w.ownsRow base e size v n xs) (hn : 0 < n) : ∃ (g c : Nat) (cur : Array Value), v = .slice (some ⟨g, 0, none⟩) n c ∧ n ≤ c ∧ base ≤ g ∧ Blk w g e cur ∧ cur.size = c * size ∧ cur.toList.take (n * size) = xs ∧
    (∀ (w' : World) (cur' : Array Value) (ys : List Value), Blk w' g e cur' → cur'.size = cur.size → ys.length = n * size → cur'.toList.take (n * size) = ys → w'.ownsRow base e size v n ys) := by
  obtain ⟨h1, h2⟩ := h
  rcases h2 with ⟨_, rfl⟩ | ⟨g, cap, cur, hv, h3, h4, h5, h6, h7, h8⟩
  · omega
  · exact ⟨g, cap, cur, hv, h5, h3, h4, h7, h8, fun w' cur' ys hb hs hl ht => ⟨hl, .inr ⟨g, cap, cur', hv, h3, hb, h5, h6, hs.trans h7, ht⟩⟩⟩
end Go.Proofs.Ytniefnjcimempaa
