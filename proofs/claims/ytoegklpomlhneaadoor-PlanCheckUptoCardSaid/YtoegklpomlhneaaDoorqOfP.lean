/- Around the walk of types.Of: the stack of open calls, and the memory as it grows. -/
import Derived.Test.YtoegklpomlhneaaDoorqAdv
namespace Go.Proofs.YtoegklpomlhneaaDoor
open Go.RowKit
theorem chain_len {root : Lx} : ∀ {st : List Fr} {y : Lx}, Chain root st y → st.length + y.size ≤ root.size
  | [], y, h => by
    have h : y = root := h
    rw [h]; simp
  | fr :: st, y, h => by
    have ih := chain_len h.2.2.2
    have h1 := Lx.arg_size (List.mem_of_getElem? h.1)
    rw [List.length_cons]
    omega
theorem own_lo {w : World} {base e size n g : Nat} {v : Value} {xs : List Value} (h : w.ownsRow base e size v n xs) (hg : v.ownBlock = some g) : base ≤ g ∧ ∃ cur, Blk w g e cur := by
  rcases h.2 with ⟨rfl, _⟩ | ⟨g', cap, cur, rfl, h3, hh, _⟩
  · simp [Value.ownBlock] at hg
  · have : g' = g := by simpa [Value.ownBlock] using hg
    subst this
    exact ⟨h3, cur, hh⟩
theorem TyW.below {wr w' : World} {base mb : Nat} {root : Lx} {v : Value} {st : List Fr} (h : TyW wr base mb root v st) (hb : Below wr.heap.size wr w') : TyW w' base mb root v st := by
  obtain ⟨xs, s, hown, hfr, hM, hK, hmb, hL, hbs⟩ := h
  exact ⟨xs, s, own_below hown hb, FrVs.keep (fun a ds h => h.below hb h.lt) hfr, hM.keep (hb.block mb (map_lt hM)), hK, hmb, LxAt.keep (G := fun i => i < base) (fun i _ hl => hb.block i hl) (fun _ h _ => h) root hL, Nat.le_trans hbs hb.size⟩
/-- A call is opened. -/
theorem TyW.push {wr w5 : World} {base mb a c0 : Nat} {root : Lx} {v v5 : Value} {st : List Fr} {fr : Fr} {xs : List Value} {s : List (Addr × Value)}
    (hown : wr.ownsRow base 163 4 v st.length xs) (hfr : FrVs wr base root st xs) (hM : MapIs wr mb encA s) (hK : KnownOk root s) (hmb : base ≤ mb) (hL : LxAt wr (fun i => i < base) root) (hbs : base ≤ wr.heap.size)
    (hba : base ≤ a) (hS : Blk wr a 3 (fr.S.map (Value.int .i64)).toArray) (hsig : sig fr.x.text = some (fr.S, fr.r)) (hlen : fr.S.length = fr.x.args.length) (hsub : Sub fr.x root)
    (ho5 : w5.ownsRow base 163 4 v5 (st.length + 1) (xs ++ [.pointer (some fr.x.ad), .slice (some ⟨a, 0, none⟩) fr.S.length c0, .int .i64 fr.ck, .int .i64 fr.fs])) (hg : wr.grownBy w5 v.ownBlock) : TyW w5 base mb root v5 (fr :: st) := by
  have hkp : ∀ a ds, Blk wr a 3 ds → Blk w5 a 3 ds := fun a ds h => h.grown hg (fun e => own_blk_ne hown h (by decide) e.symm)
  refine ⟨_, s, ho5, ⟨xs, _, rfl, FrVs.keep hkp hfr, a, c0, rfl, hba, hkp a _ hS, hsig, hlen, hsub⟩, hM.keep (hg.block mb (map_lt hM) (fun e => ?_)), hK, hmb, LxAt.keep (G := fun i => i < base) (fun i hi hl => hg.block i hl (fun e => ?_)) (fun _ h _ => h) root hL, Nat.le_trans hbs hg.size⟩
  · obtain ⟨_, cur, hc⟩ := own_lo hown e.symm
    exact map_ne hM hc rfl
  · have := (own_lo hown e.symm).1
    omega
theorem TyW.start (w : World) (mb base : Nat) (root : Lx) (hM : MapIs w mb encA []) (hmb : base ≤ mb) (hL : LxAt w (fun i => i < base) root) (hbs : base ≤ w.heap.size) : TyW w base mb root (.slice none 0 0) [] :=
  ⟨[], [], ⟨rfl, .inl ⟨rfl, rfl⟩⟩, rfl, hM, (fun q hq => by cases hq), hmb, hL, hbs⟩
/-- What the map says of a node. -/
theorem known_val {w : World} {F : Nat → Prop} {root y : Lx} {s : List (Addr × Value)} (hK : KnownOk root s) (hL : LxAt w F root) (hy : Sub y root) : (lookL s y.ad = none) ∨ ∃ t, lookL s y.ad = some (.int .i64 t) ∧ t ≠ 0 ∧ typX y = .ok t := by
  induction s with
  | nil => exact .inl rfl
  | cons p s ih =>
    by_cases h : p.1 = y.ad
    · obtain ⟨x, t, h1, h2, h3, h4, h5⟩ := hK p (List.mem_cons_self ..)
      have e : x = y := LxAt.det x y (LxAt.sub h1 hL) (LxAt.sub hy hL) (h2.trans h)
      subst e
      exact .inr ⟨t, by rw [lookL, if_pos h, h3], h5, h4⟩
    · have := ih (fun q hq => hK q (List.mem_cons_of_mem _ hq))
      rw [lookL, if_neg h]
      exact this
/-- The types of trees. -/
theorem typ_pos (x : Lx) (t : Int) (h : typX x = .ok t) : t ≠ 0 := by
  obtain ⟨ad, k, tx, n, l⟩ := x
  have hl : ∀ (S : List Int) (l : List Lx) (tx : List UInt8) (r : Int) (ck : Nat) (fs t : Int), typL tx r S l ck fs = .ok t → t = r := fun S => by
    induction S with
    | nil => intro l tx r ck fs t h; cases l <;> (rw [typL] at h; injection h with h; exact h.symm)
    | cons s S ih =>
      intro l tx r ck fs t h
      cases l with
      | nil => rw [typL] at h; injection h with h; exact h.symm
      | cons y l =>
        rw [typL] at h
        split at h
        · split at h
          · split at h
            · exact ih _ _ _ _ _ _ h
            · cases h
          · cases h
        · split at h
          · cases h
          · split at h
            · cases h
            · exact ih _ _ _ _ _ _ h
  rw [typX] at h
  split at h
  · injection h with h; omega
  · split at h
    · split at h
      · cases h
      · rename_i S r hs
        split at h
        · have := sig_pos hs
          have := hl _ _ _ _ _ _ _ h
          omega
        · cases h
    · injection h with h; omega
/-- The errors of types. -/
theorem typ_err (x : Lx) (u : Value) (h : typX x = .error u) : ∃ c : Int, c ≠ 0 ∧ u = .iface 41 (.int .i64 c) := by
  have hp : ∀ t : List UInt8, ¬ (parseR t).isSome = true → ∃ c : Int, c ≠ 0 ∧ parseE t = .iface 41 (.int .i64 c) := fun t ht => by
    rcases parseE_none ht with h | h
    · exact ⟨_, by decide, h⟩
    · exact ⟨_, by decide, h⟩
  have hh : ∀ n (x : Lx), x.size ≤ n → ∀ u, typX x = .error u → ∃ c : Int, c ≠ 0 ∧ u = .iface 41 (.int .i64 c) := fun n => by
    induction n with
    | zero => intro x hx; have := x.size_pos; omega
    | succ n ih =>
      intro x hx u h
      have hl : ∀ (S : List Int) (l : List Lx) (tx : List UInt8) (r : Int) (ck : Nat) (fs : Int), sizeXL l ≤ n → typL tx r S l ck fs = .error u → ∃ c : Int, c ≠ 0 ∧ u = .iface 41 (.int .i64 c) := fun S => by
        induction S with
        | nil => intro l tx r ck fs hs h; cases l <;> (rw [typL] at h; cases h)
        | cons s S ihS =>
          intro l tx r ck fs hs h
          cases l with
          | nil => rw [typL] at h; cases h
          | cons y l =>
            unfold sizeXL at hs
            rw [typL] at h
            split at h
            · split at h
              · split at h
                · exact ihS _ _ _ _ _ (by omega) h
                · rename_i hnp
                  injection h with h
                  obtain ⟨c, h1, h2⟩ := hp _ hnp
                  exact ⟨c, h1, by rw [← h, h2]⟩
              · injection h with h
                exact ⟨12, by decide, h.symm⟩
            · split at h
              · rename_i e he
                injection h with h
                subst h
                exact ih y (by omega) _ he
              · split at h
                · injection h with h
                  exact ⟨12, by decide, h.symm⟩
                · exact ihS _ _ _ _ _ (by omega) h
      obtain ⟨ad, k, tx, m, l⟩ := x
      rw [typX] at h
      split at h
      · cases h
      · split at h
        · split at h
          · injection h with h
            exact ⟨12, by decide, h.symm⟩
          · split at h
            · exact hl _ _ _ _ _ _ (by have : 1 + sizeXL l ≤ n + 1 := hx; omega) h
            · injection h with h
              exact ⟨12, by decide, h.symm⟩
        · cases h
  exact hh _ x (Nat.le_refl _) u h
end Go.Proofs.YtoegklpomlhneaaDoor
