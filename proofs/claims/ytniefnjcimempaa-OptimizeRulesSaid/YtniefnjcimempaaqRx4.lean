/- Around the walk of types.Of: the stack of open calls, and the memory as it grows. The walk of types.Of. -/
import Derived.Test.YtniefnjcimempaaqAdv
import Derived.Test.YtniefnjcimempaaqRj
namespace Go.Proofs.Ytniefnjcimempaa
open Go.RowKit
theorem chain_len {root : Lx} : ∀ {st : List Fr} {y : Lx}, Chain root st y → st.length + y.size ≤ root.size
  | [], y, h => by
    have h : y = root := h
    rw [h]; simp
  | fr :: st, y, h => by
    have ih := chain_len h.2.2.2
    have h1 := Lx.arg_size (List.mem_of_getElem? h.1)
    rw [List.length_cons]
    omega
theorem own_lo {w : World} {base e size n g : Nat} {v : Value} {xs : List Value} (h : w.ownsRow base e size v n xs) (hg : v.ownBlock = some g) : base ≤ g ∧ ∃ cur, Blk w g e cur := by
  rcases h.2 with ⟨rfl, _⟩ | ⟨g', cap, cur, rfl, h3, hh, _⟩
  · simp [Value.ownBlock] at hg
  · have : g' = g := by simpa [Value.ownBlock] using hg
    subst this
    exact ⟨h3, cur, hh⟩
theorem TyW.below {wr w' : World} {base mb : Nat} {root : Lx} {v : Value} {st : List Fr} (h : TyW wr base mb root v st) (hb : Below wr.heap.size wr w') : TyW w' base mb root v st := by
  obtain ⟨xs, s, hown, hfr, hM, hK, hmb, hL, hbs⟩ := h
  exact ⟨xs, s, own_below hown hb, FrVs.keep (fun a ds h => h.below hb h.lt) hfr, hM.keep (hb.block mb (map_lt hM)), hK, hmb, LxAt.keep (G := fun i => i < base) (fun i _ hl => hb.block i hl) (fun _ h _ => h) root hL, Nat.le_trans hbs hb.size⟩
/-- A call is opened. -/
theorem TyW.push {wr w5 : World} {base mb a c0 : Nat} {root : Lx} {v v5 : Value} {st : List Fr} {fr : Fr} {xs : List Value} {s : List (Addr × Value)}
    (hown : wr.ownsRow base 95 4 v st.length xs) (hfr : FrVs wr base root st xs) (hM : MapIs wr mb encA s) (hK : KnownOk root s) (hmb : base ≤ mb) (hL : LxAt wr (fun i => i < base) root) (hbs : base ≤ wr.heap.size)
    (hba : base ≤ a) (hS : Blk wr a 3 (fr.S.map (Value.int .i64)).toArray) (hsig : sig fr.x.text = some (fr.S, fr.r)) (hlen : fr.S.length = fr.x.args.length) (hsub : Sub fr.x root)
    (ho5 : w5.ownsRow base 95 4 v5 (st.length + 1) (xs ++ [.pointer (some fr.x.ad), .slice (some ⟨a, 0, none⟩) fr.S.length c0, .int .i64 fr.ck, .int .i64 fr.fs])) (hg : wr.grownBy w5 v.ownBlock) : TyW w5 base mb root v5 (fr :: st) := by
  have hkp : ∀ a ds, Blk wr a 3 ds → Blk w5 a 3 ds := fun a ds h => h.grown hg (fun e => own_blk_ne hown h (by decide) e.symm)
  refine ⟨_, s, ho5, ⟨xs, _, rfl, FrVs.keep hkp hfr, a, c0, rfl, hba, hkp a _ hS, hsig, hlen, hsub⟩, hM.keep (hg.block mb (map_lt hM) (fun e => ?_)), hK, hmb, LxAt.keep (G := fun i => i < base) (fun i hi hl => hg.block i hl (fun e => ?_)) (fun _ h _ => h) root hL, Nat.le_trans hbs hg.size⟩
  · obtain ⟨_, cur, hc⟩ := own_lo hown e.symm
    exact map_ne hM hc rfl
  · have := (own_lo hown e.symm).1
    omega
theorem TyW.start (w : World) (mb base : Nat) (root : Lx) (hM : MapIs w mb encA []) (hmb : base ≤ mb) (hL : LxAt w (fun i => i < base) root) (hbs : base ≤ w.heap.size) : TyW w base mb root (.slice none 0 0) [] :=
  ⟨[], [], ⟨rfl, .inl ⟨rfl, rfl⟩⟩, rfl, hM, (fun q hq => by cases hq), hmb, hL, hbs⟩
/-- What the map says of a node. -/
theorem known_val {w : World} {F : Nat → Prop} {root y : Lx} {s : List (Addr × Value)} (hK : KnownOk root s) (hL : LxAt w F root) (hy : Sub y root) : (lookL s y.ad = none) ∨ ∃ t, lookL s y.ad = some (.int .i64 t) ∧ t ≠ 0 ∧ typX y = .ok t := by
  induction s with
  | nil => exact .inl rfl
  | cons p s ih =>
    by_cases h : p.1 = y.ad
    · obtain ⟨x, t, h1, h2, h3, h4, h5⟩ := hK p (List.mem_cons_self ..)
      have e : x = y := LxAt.det x y (LxAt.sub h1 hL) (LxAt.sub hy hL) (h2.trans h)
      subst e
      exact .inr ⟨t, by rw [lookL, if_pos h, h3], h5, h4⟩
    · have := ih (fun q hq => hK q (List.mem_cons_of_mem _ hq))
      rw [lookL, if_neg h]
      exact this
/-- The types of trees. -/
theorem typ_pos (x : Lx) (t : Int) (h : typX x = .ok t) : t ≠ 0 := by
  obtain ⟨ad, k, tx, n, l⟩ := x
  have hl : ∀ (S : List Int) (l : List Lx) (tx : List UInt8) (r : Int) (ck : Nat) (fs t : Int), typL tx r S l ck fs = .ok t → t = r := fun S => by
    induction S with
    | nil => intro l tx r ck fs t h; cases l <;> (rw [typL] at h; injection h with h; exact h.symm)
    | cons s S ih =>
      intro l tx r ck fs t h
      cases l with
      | nil => rw [typL] at h; injection h with h; exact h.symm
      | cons y l =>
        rw [typL] at h
        split at h
        · split at h
          · split at h
            · exact ih _ _ _ _ _ _ h
            · cases h
          · cases h
        · split at h
          · cases h
          · split at h
            · cases h
            · exact ih _ _ _ _ _ _ h
  rw [typX] at h
  split at h
  · injection h with h; omega
  · split at h
    · split at h
      · cases h
      · rename_i S r hs
        split at h
        · have := sig_pos hs
          have := hl _ _ _ _ _ _ _ h
          omega
        · cases h
    · injection h with h; omega
/-- The errors of types. -/
theorem typ_err (x : Lx) (u : Value) (h : typX x = .error u) : ∃ c : Int, c ≠ 0 ∧ u = .iface 37 (.int .i64 c) := by
  have hp : ∀ t : List UInt8, ¬ (parseR t).isSome = true → ∃ c : Int, c ≠ 0 ∧ parseE t = .iface 37 (.int .i64 c) := fun t ht => by
    rcases parseE_none ht with h | h
    · exact ⟨_, by decide, h⟩
    · exact ⟨_, by decide, h⟩
  have hh : ∀ n (x : Lx), x.size ≤ n → ∀ u, typX x = .error u → ∃ c : Int, c ≠ 0 ∧ u = .iface 37 (.int .i64 c) := fun n => by
    induction n with
    | zero => intro x hx; have := x.size_pos; omega
    | succ n ih =>
      intro x hx u h
      have hl : ∀ (S : List Int) (l : List Lx) (tx : List UInt8) (r : Int) (ck : Nat) (fs : Int), sizeXL l ≤ n → typL tx r S l ck fs = .error u → ∃ c : Int, c ≠ 0 ∧ u = .iface 37 (.int .i64 c) := fun S => by
        induction S with
        | nil => intro l tx r ck fs hs h; cases l <;> (rw [typL] at h; cases h)
        | cons s S ihS =>
          intro l tx r ck fs hs h
          cases l with
          | nil => rw [typL] at h; cases h
          | cons y l =>
            unfold sizeXL at hs
            rw [typL] at h
            split at h
            · split at h
              · split at h
                · exact ihS _ _ _ _ _ (by omega) h
                · rename_i hnp
                  injection h with h
                  obtain ⟨c, h1, h2⟩ := hp _ hnp
                  exact ⟨c, h1, by rw [← h, h2]⟩
              · injection h with h
                exact ⟨12, by decide, h.symm⟩
            · split at h
              · rename_i e he
                injection h with h
                subst h
                exact ih y (by omega) _ he
              · split at h
                · injection h with h
                  exact ⟨12, by decide, h.symm⟩
                · exact ihS _ _ _ _ _ (by omega) h
      obtain ⟨ad, k, tx, m, l⟩ := x
      rw [typX] at h
      split at h
      · cases h
      · split at h
        · split at h
          · injection h with h
            exact ⟨12, by decide, h.symm⟩
          · split at h
            · exact hl _ _ _ _ _ _ (by have : 1 + sizeXL l ≤ n + 1 := hx; omega) h
            · injection h with h
              exact ⟨12, by decide, h.symm⟩
        · cases h
  exact hh _ x (Nat.le_refl _) u h
end Go.Proofs.Ytniefnjcimempaa
namespace Go.Proofs.Ytniefnjcimempaa
open Go.RowKit
theorem reads4 (w : World) (a b c d : Value) (t : TypeId) : Reads (w.alloc (.cells #[a, b, c, d] t)) (w.heap.size + 1) 4 (some ⟨w.heap.size, 0, none⟩) 1 [a, b, c, d] :=
  ⟨rfl, fun _ => ⟨_, rfl, by simp, fun j u hu => news_alloc w #[a, b, c, d] t j u hu⟩⟩
theorem infoNode : (Try.prog.info? 95).map (fun i => (i.zero, i.size, i.bytes)) = some (some (.agg #[.pointer none, .slice none 0 0, .int .i64 0, .int .i64 0]), 4, 48) := by kernel_rfl
def OfEnd (w : World) (r : Lx) (e : Ending) (w' : World) : Prop := Below w.heap.size w w' ∧
  ((r.all isN = false ∧ e = .returned (.tuple #[.int .i64 0, .iface 37 (.int .i64 4)])) ∨
   (r.all isN = true ∧ ((∃ t, typX r = .ok t ∧ e = .returned (.tuple #[.int .i64 t, .nilIface])) ∨ (∃ u, typX r = .error u ∧ e = .returned (.tuple #[.int .i64 0, u])))))
def TOfRel (w : World) (base mb : Nat) (root : Lx) (f : Nat) (v p : Value) (wr : World) : Prop :=
  ∃ st y, p = .pointer (some y.ad) ∧ Hid (Chain root st y) ∧ y.size + todo st < f ∧ Hid (TyW wr base mb root v st) ∧ Hid (Below w.heap.size w wr)
set_option maxHeartbeats 4000000 in
set_option maxRecDepth 100000 in
theorem tof_any (w : World) (kind num : Int) (text : List UInt8) (A : Option Addr) (c : Nat) (args : List Lx)
    (hl : LxAts w (fun i => i < w.heap.size) A 0 args) (hsz : sizeXL args ≤ 900000)
    (ht : ∀ x, Sub x (.node ⟨w.heap.size, 0, none⟩ kind text num args) → x.text.length ≤ 9223372036854775807) :
    Calls Try.prog 29 #[.agg #[.int .i64 kind, .string ⟨text.toArray⟩, .int .i64 num, .slice A args.length c]] w (OfEnd w (.node ⟨w.heap.size, 0, none⟩ kind text num args)) := by
  obtain ⟨root, hroot⟩ : ∃ r, r = Lx.node ⟨w.heap.size, 0, none⟩ kind text num args := ⟨_, rfl⟩
  rw [← hroot] at ht ⊢
  obtain ⟨w0, hw0⟩ : ∃ w0, w0 = w.alloc (.cells #[.int .i64 kind, .string ⟨text.toArray⟩, .int .i64 num, .slice A args.length c] 31) := ⟨_, rfl⟩
  have hs0 : w0.heap.size = w.heap.size + 1 := by rw [hw0]; simp
  have hb0 : Below w.heap.size w w0 := by rw [hw0]; exact (Below.refl _ _).alloc (Nat.le_refl _) _
  have hr0 : LxAt w0 (fun i => i < w0.heap.size) root := by
    rw [hroot]
    unfold LxAt
    refine ⟨w.heap.size, 0, A, c, 31, _, rfl, by omega, by rw [hw0]; exact Blk.new _ _ _, rfl, rfl, rfl, rfl, ?_⟩
    exact LxAts.keep (F := fun i => i < w.heap.size) (fun i hi _ => hb0.block i hi) (fun i hi _ => by omega) A 0 args hl
  have hra : root.ad = ⟨w.heap.size, 0, none⟩ := by rw [hroot]; rfl
  have hrz : root.size ≤ 1000000 := by rw [hroot]; show 1 + sizeXL args ≤ 1000000; omega
  have hall := allN_any root w0 hr0 hrz
  rw [hra, hw0] at hall
  have HALL := Lib.hid hall
  have HR0 := Lib.hid hr0
  have HT := Lib.hid ht
  have HB0 := Lib.hid hb0
  have HW0 := Lib.hid hw0
  have HS0 := Lib.hid hs0
  have HRA := Lib.hid hra
  have HRT := Lib.hid hroot
  clear hall hr0 ht hb0 hs0 hl hsz hra hroot hw0
  have hmm := @run_makeMap Try.prog
  go_enter Try.func29, Try.ntmps29
  go_wp2_with fail
  refine HALL.out.mono ?_
  rintro e w1 ⟨rfl, hb1⟩
  rw [← HW0.out] at hb1
  have HB1 := Lib.hid hb1
  have hs1 : w0.heap.size ≤ w1.heap.size := hb1.size
  clear hb1
  cases hall : root.all isN with
  | false =>
    have HA := Lib.hid hall
    clear hall
    go_wp2_with fail
    go_ret2
    exact ⟨HB0.out.trans (HB1.out.mono (by have := HS0.out; omega)), .inl ⟨HA.out, rfl⟩⟩
  | true =>
    have HA := Lib.hid hall
    clear hall
    have HM0 := Lib.hid (MapIs.new w1 encA 0)
    have hr1 : LxAt (w1.alloc (.map #[] 0)) (fun i => i < w.heap.size + 1) root := LxAt.keep (F := fun i => i < w0.heap.size) (fun i hi _ => (Below.heap_alloc w1 _ i (by omega)).trans (HB1.out.block i hi)) (fun i hi _ => by have := HS0.out; show i < w.heap.size + 1; omega) root HR0.out
    have HST := Lib.hid (TyW.start (w1.alloc (.map #[] 0)) w1.heap.size (w.heap.size + 1) root HM0.out (by have := HS0.out; omega) hr1 (by have := HS0.out; simp; omega))
    have HBB := Lib.hid ((HB0.out.trans (HB1.out.mono (by have := HS0.out; omega))).alloc (by have := HS0.out; omega) (.map #[] 0))
    clear hr1
    go_wp2_with fail
    go_loopg [4, 6, 7, 8, 9, 10, 11] (root.size + 1) (fun f v p _ _ _ _ _ wr => TOfRel w (w.heap.size + 1) w1.heap.size root f v p wr)
    case atStart => exact ⟨[], root, by rw [HRA.out], Lib.hid rfl, by show root.size + 0 < _; omega, HST, HBB⟩
    case round =>
      obtain ⟨st, y, rfl, HCH, hM, HTW, HBW⟩ := hrel
      obtain ⟨f, rfl⟩ : ∃ f, gk = f + 1 := ⟨gk - 1, by omega⟩
      obtain ⟨xs, s, hown, hfr, hMp, hK, hmb, hL, hbs⟩ := HTW.out
      have hst1 : st.length ≤ 1000000 := by have := chain_len HCH.out; omega
      have HST1 := Lib.hid hst1
      have hy := LxAt.sub (chain_sub HCH.out) hL
      obtain ⟨b, o, A', c', had, hFb, hbl, d0, d1, d2, d3, hA'⟩ := hy.cells
      have hkn := known_val hK hL (chain_sub HCH.out)
      obtain ⟨k, hk⟩ : ∃ k, k = y.kind := ⟨_, rfl⟩
      rw [← hk] at d0
      rw [had]
      rw [had] at hkn
      have hlk := hMp.lookup (keyE wr) Try.underlying65 (fun q hq => by
        obtain ⟨x, t, h1, h2, _⟩ := hK q hq
        rw [← h2]; exact (LxAt.sub h1 hL).plain.1) (z := .int .i64 0) (by kernel_rfl) ⟨b, o, none⟩ (by rw [← had]; exact hy.plain.1) false
      have HAD := Lib.hid had
      have HKK := Lib.hid hk
      have HOWN := Lib.hid hown
      have HFR := Lib.hid hfr
      have HM := Lib.hid hMp
      have HK := Lib.hid hK
      have HLX := Lib.hid hL
      have HA' := Lib.hid hA'
      clear had hk hown hfr hMp hK hL hy hst1 hA' d2 HM0 HST HBB
      by_cases h1 : k = 1
      · subst h1
        clear hlk hkn d1 d3
        have HADV := Lib.hid (show AdvAt root (y.size + todo st) st 1 from .inl ⟨by decide, y, HCH.out, typ_num HKK.out.symm, by have := y.size_pos; omega⟩)
        go_wp2_with fail
        refine (advance_any wr (w.heap.size + 1) w1.heap.size root (y.size + todo st) u4 st 1 HADV.out HTW.out HST1.out HT.out).mono ?_
        rintro e w5 ⟨hb5, h5⟩
        have HB5 := Lib.hid (HBW.out.trans (hb5.mono (by have := HBW.out.size; omega)))
        clear hb5
        rcases h5 with ⟨u, hu, rfl⟩ | ⟨t, ht, rfl⟩ | ⟨v', st', y', hc', hm', hw', rfl⟩
        · obtain ⟨c, hc0, rfl⟩ := typ_err root u hu
          have HU := Lib.hid hu
          clear hu
          go_wp2_with fail
          go_ret2
          exact ⟨HB5.out, .inr ⟨HA.out, .inr ⟨_, HU.out, rfl⟩⟩⟩
        · have HU := Lib.hid ht
          clear ht
          go_wp2_with fail
          go_ret2
          exact ⟨HB5.out, .inr ⟨HA.out, .inl ⟨t, HU.out, rfl⟩⟩⟩
        · have HC' := Lib.hid hc'
          have HW' := Lib.hid hw'
          clear hc' hw'
          go_wp2_with fail
          go_roundg f
          case measure => omega
          case rel => exact ⟨st', y', rfl, HC', by omega, HW', HB5⟩
      · have e1 : (k == 1) = false := by simpa using h1
        by_cases h4 : k = 4
        · subst h4
          clear h1 e1
          rcases hkn with hkn | ⟨t0, hkn, ht0, hty0⟩
          · rw [hkn] at hlk
            have hlk : (Instr.lookup 65 (.map (some w1.heap.size)) (.pointer (some ⟨b, o, none⟩)) false).run Try.prog wr = .ok (.int .i64 0) wr := hlk
            clear hkn
            go_wp2_with fail
            refine (sigX_any y.text _).mono ?_
            rintro e w3 ⟨hb3, h3⟩
            cases hsg : sig y.text with
            | none =>
              rw [hsg] at h3
              have h3 : e = _ := h3
              subst h3
              have HE := Lib.hid (chain_err HCH.out (typ_bad HKK.out.symm (.inl hsg)))
              have HB3 := Lib.hid (HBW.out.trans (hb3.mono HBW.out.size))
              clear hb3 hsg hlk d1 d3
              go_wp2_with fail
              go_ret2
              exact ⟨HB3.out, .inr ⟨HA.out, .inr ⟨_, HE.out, rfl⟩⟩⟩
            | some q =>
              obtain ⟨S, r⟩ := q
              rw [hsg] at h3
              obtain ⟨cs, rfl, hB3⟩ := h3
              have HSG := Lib.hid hsg
              have HBL3 := Lib.hid hb3
              have HS3 := Lib.hid hB3
              have e1 : w3.cell? ⟨b, o, none⟩ = some (.int .i64 4) := (hb3.cell hbl).trans d0
              have e3 : w3.cell? ⟨b, o + 3, none⟩ = some (.slice A' y.args.length c') := (hb3.cell (p := ⟨b, o + 3, none⟩) hbl).trans d3
              have hpos := sig_pos hsg
              clear hsg hb3 hB3 hlk d0 d1 d3
              by_cases hln : S.length = y.args.length
              · have HLN := Lib.hid hln
                rw [← hln] at e3
                clear hln
                obtain ⟨ob, hob⟩ : ∃ ob, ob = Obj.cells #[.pointer (some ⟨b, o, none⟩), .slice (some ⟨wr.heap.size, 0, none⟩) S.length cs, .int .i64 0, .int .i64 0] 95 := ⟨_, rfl⟩
                have hbx : Below wr.heap.size wr (w3.alloc ob) := HBL3.out.alloc HBL3.out.size ob
                have HBX := Lib.hid hbx
                have ho4 := own_below HOWN.out hbx
                have hrr := reads4 w3 (.pointer (some ⟨b, o, none⟩)) (.slice (some ⟨wr.heap.size, 0, none⟩) S.length cs) (.int .i64 0) (.int .i64 0) 95
                have hone : ∀ u ∈ ([.pointer (some ⟨b, o, none⟩), .slice (some ⟨wr.heap.size, 0, none⟩) S.length cs, .int .i64 0, .int .i64 0] : List Value), u.oneCell' = true := by simp [Value.oneCell']
                have hsz3 := HBL3.out.size
                have hxs1 : st.length ≤ 1000000 := HST1.out
                rw [hob] at ho4
                have HOB := Lib.hid hob
                clear hob hbx
                obtain ⟨i0, hinf, hz0, hz1, hz2⟩ := info_parts infoNode
                go_wp2_with (at_builtin; refine wpList_append_any _ rfl (.tmp 65) (.tmp 69) 91 rfl (w.heap.size + 1) 95 i0 (.agg #[.pointer none, .slice none 0 0, .int .i64 0, .int .i64 0]) 4 48 Try.underlying91 hinf hz0 hz1 hz2 rfl (by decide) _ st.length xs rfl ho4 _ _ _ _ [.pointer (some ⟨b, o, none⟩), .slice (some ⟨wr.heap.size, 0, none⟩) S.length cs, .int .i64 0, .int .i64 0] rfl hrr hone (by unfold maxLen; omega) (by omega) (by simp; omega) ?_)
                intro v5 w5 hown5 hg5 hv5
                rw [← HOB.out] at ho4 hg5
                have HTW5 := Lib.hid (TyW.push (fr := ⟨y, S, r, 0, 0⟩) (c0 := cs) ho4 (FrVs.keep (fun a ds h => h.below HBX.out h.lt) HFR.out) (HM.out.keep (HBX.out.block w1.heap.size (map_lt HM.out))) HK.out hmb (LxAt.keep (G := fun i => i < w.heap.size + 1) (fun i _ hl => HBX.out.block i hl) (fun _ h _ => h) root HLX.out) (Nat.le_trans hbs HBX.out.size) hbs (HS3.out.alloc ob) HSG.out HLN.out (chain_sub HCH.out) (by rw [HAD.out]; exact hown5) hg5)
                have HBW5 := Lib.hid ((HBW.out.trans (HBX.out.mono HBW.out.size)).grown hg5 (by have := HBX.out.size; omega) (fun j e => by have := (own_lo ho4 e).1; omega))
                have HADV := Lib.hid (show AdvAt root (y.size + todo st) (⟨y, S, r, 0, 0⟩ :: st) 0 from .inr ⟨rfl, _, st, rfl, rfl, rfl, typ_call HKK.out.symm HSG.out HLN.out, HCH.out, Nat.le_refl _⟩)
                have HST5 : Hid ((⟨y, S, r, 0, 0⟩ :: st : List Fr).length ≤ 1000000) := Lib.hid (by have := chain_len HCH.out; have := y.size_pos; rw [List.length_cons]; omega)
                clear ho4 hown5 hg5 hrr hone hinf hz0 hz1 hz2 hv5 e1 e3 hsz3 hxs1 hpos
                go_wp2_with fail
                refine (advance_any w5 (w.heap.size + 1) w1.heap.size root (y.size + todo st) v5 (⟨y, S, r, 0, 0⟩ :: st) 0 HADV.out HTW5.out HST5.out HT.out).mono ?_
                rintro e w5 ⟨hb5, h5⟩
                have HB5 := Lib.hid (HBW5.out.trans (hb5.mono (by have := HBW5.out.size; omega)))
                clear hb5
                rcases h5 with ⟨u, hu, rfl⟩ | ⟨t, ht, rfl⟩ | ⟨v', st', y', hc', hm', hw', rfl⟩
                · obtain ⟨c, hc0, rfl⟩ := typ_err root u hu
                  have HU := Lib.hid hu
                  clear hu
                  go_wp2_with fail
                  go_ret2
                  exact ⟨HB5.out, .inr ⟨HA.out, .inr ⟨_, HU.out, rfl⟩⟩⟩
                · have HU := Lib.hid ht
                  clear ht
                  go_wp2_with fail
                  go_ret2
                  exact ⟨HB5.out, .inr ⟨HA.out, .inl ⟨t, HU.out, rfl⟩⟩⟩
                · have HC' := Lib.hid hc'
                  have HW' := Lib.hid hw'
                  clear hc' hw'
                  go_wp2_with fail
                  go_roundg f
                  case measure => omega
                  case rel => exact ⟨st', y', rfl, HC', by omega, HW', HB5⟩
              · have HE := Lib.hid (chain_err HCH.out (typ_bad HKK.out.symm (.inr ⟨S, r, HSG.out, hln⟩)))
                have HB3 := Lib.hid (HBW.out.trans (HBL3.out.mono HBW.out.size))
                have f1 : ((S.length : Int) == (y.args.length : Int)) = false := by simp; omega
                have f2 : ((S.length : Int) != (y.args.length : Int)) = true := by simp; omega
                have f3 : (S.length == y.args.length) = false := by simp; omega
                clear hln
                go_wp2_with fail
                go_ret2
                exact ⟨HB3.out, .inr ⟨HA.out, .inr ⟨_, HE.out, rfl⟩⟩⟩
          · rw [hkn] at hlk
            have hlk : (Instr.lookup 65 (.map (some w1.heap.size)) (.pointer (some ⟨b, o, none⟩)) false).run Try.prog wr = .ok (.int .i64 t0) wr := hlk
            have e0 : (t0 == 0) = false := by simpa using ht0
            have e0' : (t0 != 0) = true := by simpa using ht0
            have HADV := Lib.hid (show AdvAt root (y.size + todo st) st t0 from .inl ⟨ht0, y, HCH.out, hty0, by have := y.size_pos; omega⟩)
            clear hkn ht0 hty0 d1 d3
            go_wp2_with fail
            refine (advance_any wr (w.heap.size + 1) w1.heap.size root (y.size + todo st) u4 st t0 HADV.out HTW.out HST1.out HT.out).mono ?_
            rintro e w5 ⟨hb5, h5⟩
            have HB5 := Lib.hid (HBW.out.trans (hb5.mono (by have := HBW.out.size; omega)))
            clear hb5
            rcases h5 with ⟨u, hu, rfl⟩ | ⟨t, ht, rfl⟩ | ⟨v', st', y', hc', hm', hw', rfl⟩
            · obtain ⟨c, hc0, rfl⟩ := typ_err root u hu
              have HU := Lib.hid hu
              clear hu
              go_wp2_with fail
              go_ret2
              exact ⟨HB5.out, .inr ⟨HA.out, .inr ⟨_, HU.out, rfl⟩⟩⟩
            · have HU := Lib.hid ht
              clear ht
              go_wp2_with fail
              go_ret2
              exact ⟨HB5.out, .inr ⟨HA.out, .inl ⟨t, HU.out, rfl⟩⟩⟩
            · have HC' := Lib.hid hc'
              have HW' := Lib.hid hw'
              clear hc' hw'
              go_wp2_with fail
              go_roundg f
              case measure => omega
              case rel => exact ⟨st', y', rfl, HC', by omega, HW', HB5⟩
        · have e4 : (k == 4) = false := by simpa using h4
          clear hlk hkn d1 d3
          have HADV := Lib.hid (show AdvAt root (y.size + todo st) st 3 from .inl ⟨by decide, y, HCH.out, typ_text (by rw [← HKK.out]; exact h1) (by rw [← HKK.out]; exact h4), by have := y.size_pos; omega⟩)
          clear h1 h4
          go_wp2_with fail
          refine (advance_any wr (w.heap.size + 1) w1.heap.size root (y.size + todo st) u4 st 3 HADV.out HTW.out HST1.out HT.out).mono ?_
          rintro e w5 ⟨hb5, h5⟩
          have HB5 := Lib.hid (HBW.out.trans (hb5.mono (by have := HBW.out.size; omega)))
          clear hb5
          rcases h5 with ⟨u, hu, rfl⟩ | ⟨t, ht, rfl⟩ | ⟨v', st', y', hc', hm', hw', rfl⟩
          · obtain ⟨c, hc0, rfl⟩ := typ_err root u hu
            have HU := Lib.hid hu
            clear hu
            go_wp2_with fail
            go_ret2
            exact ⟨HB5.out, .inr ⟨HA.out, .inr ⟨_, HU.out, rfl⟩⟩⟩
          · have HU := Lib.hid ht
            clear ht
            go_wp2_with fail
            go_ret2
            exact ⟨HB5.out, .inr ⟨HA.out, .inl ⟨t, HU.out, rfl⟩⟩⟩
          · have HC' := Lib.hid hc'
            have HW' := Lib.hid hw'
            clear hc' hw'
            go_wp2_with fail
            go_roundg f
            case measure => omega
            case rel => exact ⟨st', y', rfl, HC', by omega, HW', HB5⟩
end Go.Proofs.Ytniefnjcimempaa
