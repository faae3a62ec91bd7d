/- take, said of the block in which the node lies. -/
import Derived.Test.YtfdpohceoabinaaSkip
namespace Go.Proofs.Ytfdpohceoabinaa
open Go.RowKit
theorem set_same {cs : Array Value} {i : Nat} {v : Value} (h : cs[i]? = some v) : cs.setIfInBounds i v = cs := by
  apply Array.ext_getElem?
  intro j
  rw [Array.getElem?_setIfInBounds]
  split
  · rename_i e; subst e; rw [h]; split
    · rfl
    · rename_i hh; rw [Array.getElem?_eq_none (by omega)] at h; cases h
  · rfl
def TakeB (w : World) (g o ck : Nat) (T : TypeId) (cs : Array Value) (r : Option Int) (e : Ending) (w' : World) : Prop := w.grownBy w' (some g) ∧ match r with
  | none => e = .returned (.iface 33 (.int .i64 12))
  | some f => e = .returned .nilIface ∧ Blk w' g T ((cs.setIfInBounds (o + 3) (.int .i64 f)).setIfInBounds (o + 2) (.int .i64 (ck + 1 : Nat)))
theorem take_blk (F : Nat → Prop) (g o c ck a q : Nat) (T : TypeId) (cs : Array Value) (x : Lx) (S : List Int) (fs t want : Int) (w : World) (hB : Blk w g T cs)
    (e0 : cs[o]? = some (.pointer (some x.ad))) (e1 : cs[o + 1]? = some (.slice (some ⟨a, q, none⟩) S.length c)) (e2 : cs[o + 2]? = some (.int .i64 ck)) (e3 : cs[o + 3]? = some (.int .i64 fs)) (hx : LxAt w F x)
    (hS : ∀ (j : Nat) (v : Int), S[j]? = some v → w.cell? ⟨a, q + j, none⟩ = some (.int .i64 v)) (hw : S[ck]? = some want) (hn : S.length ≤ 100) :
    Calls Try.prog 26 #[.pointer (some ⟨g, o, none⟩), .int .i64 t] w (TakeB w g o ck T cs (takeR x.text want ck fs t)) := by
  obtain ⟨b, p, A', c', had, _, _, _, d1, _⟩ := hx.cells
  rw [had] at e0
  have hlt : ck < S.length := (List.getElem?_eq_some_iff.1 hw).1
  refine (take_any g o ck S.length c b p a q x.text fs t want w (by rw [hB.cell]; exact e0) (by rw [hB.cell]; exact e1) (by rw [hB.cell]; exact e2) (by rw [hB.cell]; exact e3) (hB.frozen _) (hB.frozen _) d1 (hS ck want hw) hlt hn).mono ?_
  intro e w' he
  unfold TakeEnd at he
  unfold TakeB
  cases hr : takeR x.text want ck fs t with
  | none => rw [hr] at he; exact ⟨he.2, he.1⟩
  | some f =>
    rw [hr] at he
    obtain ⟨h1, k, h2⟩ := he
    rcases h2 with h2 | ⟨hf, h2⟩
    · subst h2
      exact ⟨only_setCell (tk_g1 _ _ _ _ _) (.inl rfl) _, h1, Blk.set_ (Blk.set_ (Blk.drewN hB k) (o + 3) _) (o + 2) _⟩
    · subst h2 hf
      refine ⟨tk_g1 _ _ _ _ _, h1, ?_⟩
      rw [set_same e3]
      exact Blk.set_ (Blk.drewN hB k) (o + 2) _
end Go.Proofs.Ytfdpohceoabinaa
