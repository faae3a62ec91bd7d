/- The walk of types.advance. Around the walk of types.Of: the stack of open calls, and the memory as it grows. -/
import Derived.Test.YtniefnjcimempaarRi
import Derived.Deep.LoopGhost
namespace Go.Proofs.Ytniefnjcimempaa
open Go.RowKit
def TyW (wr : World) (base mb : Nat) (root : Lx) (v : Value) (st : List Fr) : Prop :=
  ∃ xs s, wr.ownsRow base 95 4 v st.length xs ∧ FrVs wr base root st xs ∧ MapIs wr mb encA s ∧ KnownOk root s ∧ base ≤ mb ∧ LxAt wr (fun i => i < base) root ∧ base ≤ wr.heap.size
theorem LxAt.drewN {w : World} {F : Nat → Prop} {x : Lx} (h : LxAt w F x) (k : Nat) : LxAt (w.drewN k) F x := LxAt.keep (w := w) (w' := w.drewN k) (F := F) (fun _ _ _ => rfl) (fun _ h _ => h) x h
theorem map_lt {w : World} {mb : Nat} {l : List (Addr × Value)} (h : MapIs w mb encA l) : mb < w.heap.size := by
  obtain ⟨es, clock, hm, _⟩ := h
  exact Nat.lt_of_not_le fun hle => by rw [Array.getElem?_eq_none hle] at hm; cases hm
theorem map_ne {w : World} {mb g : Nat} {l : List (Addr × Value)} {t : TypeId} {cs : Array Value} (h : MapIs w mb encA l) (hb : Blk w g t cs) : mb ≠ g := by
  rintro rfl
  obtain ⟨es, clock, hm, _⟩ := h
  unfold Blk at hb
  rw [hb] at hm
  cases hm
theorem size_drop {l : List Lx} {k : Nat} {y : Lx} (h : l[k]? = some y) : sizeXL (l.drop k) = y.size + sizeXL (l.drop (k + 1)) := by
  obtain ⟨h, h'⟩ := List.getElem?_eq_some_iff.1 h
  rw [List.drop_eq_getElem_cons h, h']
  rfl
end Go.Proofs.Ytniefnjcimempaa
namespace Go.Proofs.Ytniefnjcimempaa
open Go.RowKit
theorem own_lo {w : World} {base e size n g : Nat} {v : Value} {xs : List Value} (h : w.ownsRow base e size v n xs) (hg : v.ownBlock = some g) : base ≤ g ∧ ∃ cur, Blk w g e cur := by
  rcases h.2 with ⟨rfl, _⟩ | ⟨g', cap, cur, rfl, h3, hh, _⟩
  · simp [Value.ownBlock] at hg
  · have : g' = g := by simpa [Value.ownBlock] using hg
    subst this
    exact ⟨h3, cur, hh⟩
theorem TyW.below {wr w' : World} {base mb : Nat} {root : Lx} {v : Value} {st : List Fr} (h : TyW wr base mb root v st) (hb : Below wr.heap.size wr w') : TyW w' base mb root v st := by
  obtain ⟨xs, s, hown, hfr, hM, hK, hmb, hL, hbs⟩ := h
  exact ⟨xs, s, own_below hown hb, FrVs.keep (fun a ds h => h.below hb h.lt) hfr, hM.keep (hb.block mb (map_lt hM)), hK, hmb, LxAt.keep (G := fun i => i < base) (fun i _ hl => hb.block i hl) (fun _ h _ => h) root hL, Nat.le_trans hbs hb.size⟩
theorem TyW.push {wr w5 : World} {base mb a c0 : Nat} {root : Lx} {v v5 : Value} {st : List Fr} {fr : Fr} {xs : List Value} {s : List (Addr × Value)}
    (hown : wr.ownsRow base 95 4 v st.length xs) (hfr : FrVs wr base root st xs) (hM : MapIs wr mb encA s) (hK : KnownOk root s) (hmb : base ≤ mb) (hL : LxAt wr (fun i => i < base) root) (hbs : base ≤ wr.heap.size)
    (hba : base ≤ a) (hS : Blk wr a 3 (fr.S.map (Value.int .i64)).toArray) (hsig : sig fr.x.text = some (fr.S, fr.r)) (hlen : fr.S.length = fr.x.args.length) (hsub : Sub fr.x root)
    (ho5 : w5.ownsRow base 95 4 v5 (st.length + 1) (xs ++ [.pointer (some fr.x.ad), .slice (some ⟨a, 0, none⟩) fr.S.length c0, .int .i64 fr.ck, .int .i64 fr.fs])) (hg : wr.grownBy w5 v.ownBlock) : TyW w5 base mb root v5 (fr :: st) := by
  have hkp : ∀ a ds, Blk wr a 3 ds → Blk w5 a 3 ds := fun a ds h => h.grown hg (fun e => own_blk_ne hown h (by decide) e.symm)
  refine ⟨_, s, ho5, ⟨xs, _, rfl, FrVs.keep hkp hfr, a, c0, rfl, hba, hkp a _ hS, hsig, hlen, hsub⟩, hM.keep (hg.block mb (map_lt hM) (fun e => ?_)), hK, hmb, LxAt.keep (G := fun i => i < base) (fun i hi hl => hg.block i hl (fun e => ?_)) (fun _ h _ => h) root hL, Nat.le_trans hbs hg.size⟩
  · obtain ⟨_, cur, hc⟩ := own_lo hown e.symm
    exact map_ne hM hc rfl
  · have := (own_lo hown e.symm).1
    omega
end Go.Proofs.Ytniefnjcimempaa
