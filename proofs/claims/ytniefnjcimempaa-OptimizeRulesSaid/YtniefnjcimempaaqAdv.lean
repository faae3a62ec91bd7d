/- The walk of types.advance. -/
import Derived.Test.YtniefnjcimempaaqRi
import Derived.Deep.LoopGhost
namespace Go.Proofs.Ytniefnjcimempaa
open Go.RowKit
theorem results_tmp4 {fn : Func} {t u v x : Tmp} (h : fn.results = #[.tmp t, .tmp u, .tmp v, .tmp x]) (tmps : Array Value) (P : Program) (w : World) :
    (results fn tmps).run P w = .ok (.tuple #[tmps.getD t undef, tmps.getD u undef, tmps.getD v undef, tmps.getD x undef]) w := by
  simp [results, h]
/-- What is still to come: the node y, and the arguments behind those that the open calls wait for. -/
def todo : List Fr → Nat
  | [] => 0
  | fr :: st => sizeXL (fr.x.args.drop (fr.ck + 1)) + todo st
/-- The memory of types.Of. -/
def TyW (wr : World) (base mb : Nat) (root : Lx) (v : Value) (st : List Fr) : Prop :=
  ∃ xs s, wr.ownsRow base 95 4 v st.length xs ∧ FrVs wr base root st xs ∧ MapIs wr mb encA s ∧ KnownOk root s ∧ base ≤ mb ∧ LxAt wr (fun i => i < base) root ∧ base ≤ wr.heap.size
/-- Where the loop stands: the type of y is t; or a call was opened. -/
def AdvAt (root : Lx) (M : Nat) (st : List Fr) (t : Int) : Prop :=
  (t ≠ 0 ∧ ∃ y, Chain root st y ∧ typX y = .ok t ∧ todo st < M) ∨ (t = 0 ∧ ∃ fr st', st = fr :: st' ∧ fr.ck = 0 ∧ fr.fs = 0 ∧ typX fr.x = fr.left ∧ Chain root st' fr.x ∧ fr.x.size + todo st' ≤ M)
def AdvRel (w : World) (base mb : Nat) (root : Lx) (M f : Nat) (v t : Value) (wr : World) : Prop :=
  ∃ st k, t = .int .i64 k ∧ st.length < f ∧ st.length ≤ 1000000 ∧ Hid (AdvAt root M st k) ∧ Hid (TyW wr base mb root v st) ∧ Hid (Below base w wr)
def AdvEnd (w : World) (base mb : Nat) (root : Lx) (M : Nat) (e : Ending) (w' : World) : Prop := Below base w w' ∧
  ((∃ u, typX root = .error u ∧ e = .returned (.tuple #[.slice none 0 0, .pointer none, .int .i64 0, u])) ∨
   (∃ t, typX root = .ok t ∧ e = .returned (.tuple #[.slice none 0 0, .pointer none, .int .i64 t, .nilIface])) ∨
   (∃ v st y, Chain root st y ∧ y.size + todo st < M ∧ TyW w' base mb root v st ∧ e = .returned (.tuple #[v, .pointer (some y.ad), .int .i64 0, .nilIface])))
theorem LxAt.drewN {w : World} {F : Nat → Prop} {x : Lx} (h : LxAt w F x) (k : Nat) : LxAt (w.drewN k) F x := LxAt.keep (w := w) (w' := w.drewN k) (F := F) (fun _ _ _ => rfl) (fun _ h _ => h) x h
theorem map_lt {w : World} {mb : Nat} {l : List (Addr × Value)} (h : MapIs w mb encA l) : mb < w.heap.size := by
  obtain ⟨es, clock, hm, _⟩ := h
  exact Nat.lt_of_not_le fun hle => by rw [Array.getElem?_eq_none hle] at hm; cases hm
theorem map_ne {w : World} {mb g : Nat} {l : List (Addr × Value)} {t : TypeId} {cs : Array Value} (h : MapIs w mb encA l) (hb : Blk w g t cs) : mb ≠ g := by
  rintro rfl
  obtain ⟨es, clock, hm, _⟩ := h
  unfold Blk at hb
  rw [hb] at hm
  cases hm
theorem size_drop {l : List Lx} {k : Nat} {y : Lx} (h : l[k]? = some y) : sizeXL (l.drop k) = y.size + sizeXL (l.drop (k + 1)) := by
  obtain ⟨h, h'⟩ := List.getElem?_eq_some_iff.1 h
  rw [List.drop_eq_getElem_cons h, h']
  rfl
theorem size_drop_le (l : List Lx) (k : Nat) : sizeXL (l.drop k) ≤ sizeXL l := by
  have h := sizeXL_append (l.take k) (l.drop k)
  rw [List.take_append_drop] at h
  omega
theorem drop_mono (l : List Lx) {a b : Nat} (h : a ≤ b) : sizeXL (l.drop b) ≤ sizeXL (l.drop a) := by
  have h1 := size_drop_le (l.drop a) (b - a)
  rw [List.drop_drop] at h1
  rwa [show a + (b - a) = b by omega] at h1
theorem known_upd {root x : Lx} {s : List (Addr × Value)} {a : Addr} {r : Int} (h : KnownOk root s) (hx : Sub x root) (ha : x.ad = a) (ht : typX x = .ok r) (h0 : r ≠ 0) : KnownOk root (updL s a (.int .i64 r)) := by
  intro q hq
  induction s with
  | nil =>
    simp only [updL, List.mem_singleton] at hq
    subst hq
    exact ⟨x, r, hx, ha, rfl, ht, h0⟩
  | cons p s ih =>
    obtain ⟨b, v⟩ := p
    simp only [updL] at hq
    split at hq
    · rcases List.mem_cons.1 hq with rfl | hq
      · exact ⟨x, r, hx, by simp_all, rfl, ht, h0⟩
      · exact h q (List.mem_cons_of_mem _ hq)
    · rcases List.mem_cons.1 hq with rfl | hq
      · exact h _ (List.mem_cons_self ..)
      · exact ih (fun q hq => h q (List.mem_cons_of_mem _ hq)) hq
theorem tyW_mk {wr w2 : World} {base mb g a c0 n : Nat} {root : Lx} {v : Value} {fr : Fr} {st' : List Fr} {cur cur2 : Array Value} {xs' : List Value} {s : List (Addr × Value)}
    (hback : ∀ (w' : World) (cur' : Array Value) (ys : List Value), Blk w' g 95 cur' → cur'.size = cur.size → ys.length = (n + 1) * 4 → cur'.toList.take ((n + 1) * 4) = ys → w'.ownsRow base 95 4 v (n + 1) ys)
    (hB : Blk wr g 95 cur) (hB2 : Blk w2 g 95 cur2) (hsz : cur2.size = cur.size) (hn : n = st'.length) (hl : xs'.length = 4 * n)
    (htk : cur2.toList.take ((n + 1) * 4) = xs' ++ [.pointer (some fr.x.ad), .slice (some ⟨a, 0, none⟩) fr.S.length c0, .int .i64 fr.ck, .int .i64 fr.fs])
    (hfr : FrVs wr base root st' xs') (hba : base ≤ a) (hS : Blk wr a 3 (fr.S.map (Value.int .i64)).toArray) (hsig : sig fr.x.text = some (fr.S, fr.r)) (hlen : fr.S.length = fr.x.args.length) (hsub : Sub fr.x root)
    (hM : MapIs wr mb encA s) (hK : KnownOk root s) (hmb : base ≤ mb) (hL : LxAt w2 (fun i => i < base) root) (hbs : base ≤ wr.heap.size) (hg : wr.grownBy w2 (some g)) : TyW w2 base mb root v (fr :: st') := by
  have hkp : ∀ a ds, Blk wr a 3 ds → Blk w2 a 3 ds := fun a ds h => h.grown hg (fun e => by injection e with e; exact Blk.ne_ h hB (by decide) e)
  have ho := hback w2 cur2 _ hB2 hsz (by simp [hl]; omega) htk
  refine ⟨_, s, ?_, ⟨xs', _, rfl, FrVs.keep hkp hfr, a, c0, rfl, hba, hkp a _ hS, hsig, hlen, hsub⟩, hM.keep (hg.block mb (map_lt hM) (fun e => by injection e with e; exact map_ne hM hB e)), hK, hmb, hL, Nat.le_trans hbs hg.size⟩
  rw [List.length_cons, ← hn]
  exact ho
set_option maxHeartbeats 4000000 in
set_option maxRecDepth 100000 in
theorem advance_any (w : World) (base mb : Nat) (root : Lx) (M : Nat) (v : Value) (st : List Fr) (k : Int) (hA : AdvAt root M st k) (hW : TyW w base mb root v st) (hst : st.length ≤ 1000000)
    (ht : ∀ x, Sub x root → x.text.length ≤ 9223372036854775807) :
    Calls Try.prog 47 #[v, .int .i64 k, .map (some mb)] w (AdvEnd w base mb root M) := by
  have HA := Lib.hid hA
  have HW := Lib.hid hW
  have HT := Lib.hid ht
  clear hA hW ht
  go_enter Try.func47, Try.ntmps47
  go_wp2_with fail
  go_loopg [0, 1] (st.length + 1) (fun f v t wr => AdvRel w base mb root M f v t wr)
  case atStart => exact ⟨st, k, rfl, by omega, hst, HA, HW, Lib.hid (Below.refl _ _)⟩
  case round =>
    clear HA HW
    obtain ⟨st, k, rfl, hms, hsl, HA, HW, HB⟩ := hrel
    obtain ⟨f, rfl⟩ : ∃ f, gk = f + 1 := ⟨gk - 1, by omega⟩
    cases st with
    | nil =>
      obtain ⟨xs, s, hown, _⟩ := HW.out
      obtain ⟨A, c, rfl⟩ := own_form hown
      simp only [List.length_nil] at hown ⊢
      clear hown
      go_wp2_with fail
      ((try simp only [Exit.inBlock, Exit.then]); refine bodyPost_ret (results_tmp4 rfl _ _ _) rfl ?_)
      refine ⟨HB.out, .inr (.inl ⟨k, ?_, rfl⟩)⟩
      rcases HA.out with ⟨_, y, h1, h2, _⟩ | ⟨_, fr, st', h1, _⟩
      · have h1 : y = root := h1
        rw [← h1]; exact h2
      · cases h1
    | cons fr st' =>
      obtain ⟨xs, s, hown, hfr, hM, hK, hmb, hL, hbs⟩ := HW.out
      obtain ⟨xs', cs, hxs, hfr', a, c0, hcs, hba, hS, hsig, hlen, hsub⟩ := hfr
      obtain ⟨g, c, cur, rfl, hnc, hbg, hB, hcz, htk, hback⟩ := own_full hown (by simp)
      have hl' := hfr'.length
      subst hcs hxs
      obtain ⟨n, hn⟩ : ∃ n, n = st'.length := ⟨_, rfl⟩
      have hst1 : (fr :: st').length = n + 1 := by rw [hn]; rfl
      have hst2 : st'.length = n := hn.symm
      rw [hst2] at hl'
      rw [hst1] at hnc hms hsl htk hback ⊢
      have HN := Lib.hid hsl
      obtain ⟨e0, e1, e2, e3⟩ := last_cells htk hl'
      have hgl := Blk.lt hB
      have hag : a ≠ g := fun e => Blk.ne_ hS hB (by decide) e
      have hal := Blk.lt hS
      have hsp := sig_pos hsig
      have HSg := Lib.hid hsig
      have hSv : ∀ (j : Nat) (v : Int), fr.S[j]? = some v → wr.cell? ⟨a, 0 + j, none⟩ = some (.int .i64 v) := fun j v hj => by
        rw [Nat.zero_add, hS.cell]
        simp [hj]
      have htx : ∀ y ∈ fr.x.args, y.text.length ≤ 9223372036854775807 := fun y hy => HT.out y (.arg hy hsub)
      have hLx := LxAt.sub hsub hL
      have HNE := Lib.hid hn
      have HST := Lib.hid hst1
      have HBK := Lib.hid hback
      have HTK := Lib.hid htk
      have HFR := Lib.hid hfr'
      have HBC := Lib.hid hB
      have HSB := Lib.hid hS
      have HM := Lib.hid hM
      have HK := Lib.hid hK
      have HLX := Lib.hid hL
      have HL4 := Lib.hid hl'
      clear hn hst1 hst2 hback hfr' hM hK hL hl' hown HW
      have hw1 : IntKind.i64.wrap (((n + 1 : Nat) : Int) - 1) = (n : Int) := by rw [show ((n + 1 : Nat) : Int) - 1 = (n : Int) by omega]; exact IntWalk.i64_in _ (by have := HN.out; omega)
      have t1 : decide ((n : Int) < ((n + 1 : Nat) : Int)) = true := by simp; omega
      have t2 : decide (0 < n + 1) = true := by simp
      by_cases hk : k = 0
      · subst hk
        rcases HA.out with ⟨h0, _⟩ | ⟨_, fr1, st1, hq, hc0, hf0, hty, hch, htd⟩
        · exact absurd rfl h0
        injection hq with hq1 hq2
        subst hq1 hq2
        rw [hc0] at e2
        have hsk := skip_any (fun i => i < base) g (n * 4) c0 0 a 0 95 cur fr.x fr.S wr hB e0 e1 e2 hLx (fun i hi => by omega) hSv hag hal hlen (by omega) (Nat.zero_le _) htx
        have hls := left_skip fr.x fr.S fr.r fr.fs hlen (fr.S.length + 1) 0 (by omega)
        have HSK := Lib.hid hsk
        have HLS := Lib.hid hls
        have HTY := Lib.hid hty
        have HCH := Lib.hid hch
        clear hsk hls e0 e1 e2 e3 hB hS hSv hLx htx htk hty hch
        go_wp2_with fail
        refine HSK.out.mono ?_
        rintro e w2 ⟨hg2, hm⟩
        have hfe : (⟨fr.x, fr.S, fr.r, 0, fr.fs⟩ : Fr) = fr := by rw [← hc0]
        have HB2 := Lib.hid (HB.out.grown hg2 hbs (fun j e => by injection e with e; omega))
        cases hR : skipR fr.S fr.x.args (fr.S.length + 1) 0 with
        | error u =>
          rw [hR] at hm
          have hm : e = .returned u := hm
          subst hm
          rcases skipR_err _ _ hR with hu | hu | hu
          all_goals
            have hls := HLS.out
            rw [hR] at hls
            have hls : fr.left = .error u := by rw [← hfe]; exact hls
            rw [hu] at hls ⊢
            first | unfold errT at hls ⊢ | unfold formE at hls ⊢ | unfold largeE at hls ⊢
            have HE := Lib.hid (chain_err HCH.out (HTY.out.trans hls))
            clear hls
            go_wp2_with fail
            ((try simp only [Exit.inBlock, Exit.then]); refine bodyPost_ret (results_tmp4 rfl _ _ _) rfl ?_)
            exact ⟨HB2.out, .inl ⟨_, HE.out, rfl⟩⟩
        | ok ck =>
          rw [hR] at hm
          obtain ⟨rfl, hB2⟩ := hm
          have hls := HLS.out
          rw [hR] at hls
          obtain ⟨hl1, hl2, hl3, hl4⟩ := hls
          have hckl := hl4 (Nat.zero_le _)
          rw [hfe] at hl1
          have htk2 := last_set HTK.out HL4.out (.int .i64 ck)
          have HTK2 := Lib.hid htk2
          have HBC2 := Lib.hid hB2
          have HG2 := Lib.hid hg2
          have HLEFT := Lib.hid (HTY.out.trans hl1)
          obtain ⟨b0, b1, b2, b3⟩ := last_cells htk2 HL4.out
          rw [← hB2.cell] at b0 b1 b2 b3
          have HLX2 := Lib.hid (LxAt.keep (G := fun i => i < base) (fun i hi hl => hg2.block i hl (fun e => by injection e with e; omega)) (fun _ h _ => h) root HLX.out)
          obtain ⟨xb, xp, A', c', had, hFb, hbl, d0, d1, d2, d3, hXA⟩ := (LxAt.sub hsub HLX2.out).cells
          rw [had] at b0
          have HXA := Lib.hid hXA
          have HAD := Lib.hid had
          have HLen := Lib.hid hlen
          have HTD := Lib.hid htd
          clear hl1 htk2 hB2 hg2 HLS hR hfe hXA had htd hlen hsig
          by_cases hlt : ck < fr.S.length
          · have t3 : decide ((ck : Int) < (fr.S.length : Int)) = true := by simp; omega
            have t4 : decide (ck < fr.S.length) = true := by simp; omega
            obtain ⟨y, hy⟩ : ∃ y, fr.x.args[ck]? = some y := ⟨fr.x.args[ck]'(by have := HLen.out; omega), List.getElem?_eq_getElem _⟩
            obtain ⟨⟨b2', o2, hA, hyad⟩, _⟩ := HXA.out.get ck y hy
            subst hA
            rw [← HLen.out] at d3
            have HY := Lib.hid hy
            have HYA := Lib.hid hyad
            clear hy hyad d0 d1 d2
            go_wp2_with fail
            go_quiet (fail)
            go_wp2_with fail
            go_quiet (fail)
            go_wp2_with fail
            ((try simp only [Exit.inBlock, Exit.then]); refine bodyPost_ret (results_tmp4 rfl _ _ _) rfl ?_)
            have hyo : (Value.pointer (some ⟨b2', o2 + ck * 4, none⟩)) = .pointer (some y.ad) := by rw [HYA.out, Nat.zero_add]
            rw [hyo]
            refine ⟨below_drewN (below_drewN HB2.out _) _, .inr (.inr ⟨_, ⟨fr.x, fr.S, fr.r, ck, fr.fs⟩ :: st', y, ⟨HY.out, ⟨_, List.getElem?_eq_getElem hlt, fun h => hl3 (by rw [List.getElem?_eq_getElem hlt, h])⟩, HLEFT.out, HCH.out⟩, ?_, ?_, rfl⟩)⟩
            · have h1 := size_drop HY.out
              have h2 := size_drop_le fr.x.args ck
              have h3 := fr.x.size_eq
              have h4 := HTD.out
              show y.size + (sizeXL (fr.x.args.drop (ck + 1)) + todo st') < M
              omega
            · exact tyW_mk (fr := ⟨fr.x, fr.S, fr.r, ck, fr.fs⟩) HBK.out HBC.out (Blk.drewN (Blk.drewN HBC2.out _) _) (by simp) HNE.out HL4.out HTK2.out HFR.out hba HSB.out HSg.out HLen.out hsub HM.out HK.out hmb ((HLX2.out.drewN _).drewN _) hbs (only_drewN (only_drewN HG2.out _) _)
          · have t3 : decide ((ck : Int) < (fr.S.length : Int)) = false := by simp; omega
            have t4 : decide (ck < fr.S.length) = false := by simp; omega
            go_wp2_with fail
            go_quiet (fail)
            go_wp2_with fail
            refine (sigX_any fr.x.text _).mono ?_
            rintro e w3 ⟨hb3, hm⟩
            rw [HSg.out] at hm
            obtain ⟨c3, rfl, hB3⟩ := hm
            have hgl2 : g < w2.heap.size := Blk.lt HBC2.out
            have b0' : w3.cell? ⟨g, n * 4, none⟩ = some (.pointer (some ⟨xb, xp, none⟩)) := (hb3.cell hgl2).trans b0
            have hgb : wr.grownBy w3 (some g) := sk_trans HG2.out ⟨hb3.os, hb3.tape, hb3.output, hb3.size, fun i hi _ => hb3.block i hi⟩
            have HM3 := Lib.hid (HM.out.keep (hgb.block mb (map_lt HM.out) (fun e => by injection e with e; exact map_ne HM.out HBC.out e)))
            have HLX3 := Lib.hid (LxAt.keep (G := fun i => i < base) (fun i hi hl => hgb.block i hl (fun e => by injection e with e; omega)) (fun _ h _ => h) root HLX.out)
            have HPL : Hid (∀ x, Sub x root → plainA w3 x.ad) := Lib.hid fun x hx => (LxAt.sub hx HLX3.out).plain.1
            have HKP : Hid (∀ q ∈ s, plainA w3 q.1) := Lib.hid fun q hq => by
              obtain ⟨x, t, h1, h2, _⟩ := HK.out q hq
              rw [← h2]; exact HPL.out x h1
            have HGB := Lib.hid hgb
            have hpx : plainA w3 ⟨xb, xp, none⟩ := by rw [← HAD.out]; exact HPL.out _ hsub
            have HPX := Lib.hid hpx
            clear hgb hpx
            go_wp2_with (at_mapUpdate; refine wpList_update_law rfl _ _ _ 65 rfl mb encA s 64 3 (plainA w3) HM3.out (keyE _) Try.underlying65 HKP.out ⟨xb, xp, none⟩ HPX.out rfl rfl ?_)
            intro w4 hM4 hg4 hs4
            have hB3' : Blk w3 g 95 _ := Blk.below (Blk.drewN HBC2.out _) hb3 hgl2
            have hmg : mb ≠ g := map_ne HM.out HBC.out
            have hB4 := hB3'.grown hg4 (fun e => by injection e with e; exact hmg e.symm)
            have hkp : ∀ a ds, Blk wr a 3 ds → Blk w4 a 3 ds := fun a ds h => (h.grown HGB.out (fun e => by injection e with e; exact Blk.ne_ h HBC.out (by decide) e)).grown hg4 (fun e => by injection e with e; exact map_ne HM.out h e.symm)
            have ho4 := own_cut (HBK.out w4 _ _ hB4 (by simp) (by simp [HL4.out]; omega) HTK2.out) n (by omega) (by omega)
            have hL4' := LxAt.keep (G := fun i => i < base) (fun i hi hl => hg4.block i hl (fun e => by injection e with e; omega)) (fun _ h _ => h) root HLX3.out
            have HU := Lib.hid (And.intro ho4 (And.intro hM4 (And.intro hL4' (And.intro hkp (And.intro hg4 hs4)))))
            clear hB3' hB4 hkp ho4 hL4' hM4
            go_wp2_with fail
            go_roundg f
            case measure => omega
            case rel =>
              obtain ⟨ho4, hM4, hL4', hkp, hg4, hs4⟩ := HU.out
              have hty' : typX fr.x = .ok fr.r := HLEFT.out.trans (left_done ⟨fr.x, fr.S, fr.r, ck, fr.fs⟩ (by show fr.S.length ≤ ck; omega))
              have hn := HNE.out
              have hgs := HGB.out.size
              have hb4 : Below base w w4 := (HB.out.grown HGB.out hbs (fun j e => by injection e with e; omega)).grown hg4 (by omega) (fun j e => by injection e with e; omega)
              refine ⟨st', fr.r, rfl, by omega, by omega, Lib.hid (.inl ⟨by omega, fr.x, HCH.out, hty', by have := HTD.out; have := fr.x.size_eq; omega⟩), Lib.hid ⟨xs', _, ?_, FrVs.keep hkp HFR.out, hM4, ?_, hmb, hL4', by omega⟩, Lib.hid hb4⟩
              · rw [← hn]
                rw [List.take_append_of_le_length (by have := HL4.out; omega), List.take_of_length_le (by have := HL4.out; omega)] at ho4
                exact ho4
              · exact known_upd HK.out hsub HAD.out hty' (by omega)
      · have hk2 : (k == 0) = false := by simp [hk]
        obtain ⟨_, y0, hch0, hty0, htd⟩ := HA.out.resolve_right (fun h => hk h.1)
        obtain ⟨hy0, ⟨s0, hs0, hn0⟩, hty, hch⟩ := hch0
        have hctk := take_blk (fun i => i < base) g (n * 4) c0 fr.ck a 0 95 cur fr.x fr.S fr.fs k s0 wr hB e0 e1 e2 e3 hLx hSv hs0 (by omega)
        have hct : fr.left = fr.cont k := by rw [chain_left hy0 ⟨s0, hs0, hn0⟩, hty0]; rfl
        unfold Fr.cont at hct
        rw [hs0] at hct
        have HCT := Lib.hid hctk
        clear hctk
        go_wp2_with fail
        refine HCT.out.mono ?_
        rintro e w1 ⟨hg1, hm⟩
        cases hR : takeR fr.x.text s0 fr.ck fr.fs k with
        | none =>
          rw [hR] at hm
          have hm : e = .returned (.iface 37 (.int .i64 12)) := hm
          subst hm
          rw [hR] at hct
          have HE := Lib.hid (chain_err hch (hty.trans hct))
          have HB2 := Lib.hid (HB.out.grown hg1 hbs (fun j e => by injection e with e; omega))
          clear hct
          go_wp2_with fail
          ((try simp only [Exit.inBlock, Exit.then]); refine bodyPost_ret (results_tmp4 rfl _ _ _) rfl ?_)
          exact ⟨HB2.out, .inl ⟨_, HE.out, rfl⟩⟩
        | some f0 =>
          rw [hR] at hm hct
          obtain ⟨rfl, hB1⟩ := hm
          obtain ⟨cur1, hcur1⟩ : ∃ cur1, cur1 = (cur.setIfInBounds (n * 4 + 3) (.int .i64 f0)).setIfInBounds (n * 4 + 2) (.int .i64 (fr.ck + 1 : Nat)) := ⟨_, rfl⟩
          have htk1 := last_set2 HTK.out HL4.out (.int .i64 (fr.ck + 1 : Nat)) (.int .i64 f0)
          rw [← hcur1] at htk1 hB1
          have hcs : cur1.size = cur.size := by rw [hcur1]; simp
          have hckS : fr.ck < fr.S.length := (List.getElem?_eq_some_iff.1 hs0).1
          have hs1 := hg1.size
          have hkp1 : ∀ a ds, Blk wr a 3 ds → Blk w1 a 3 ds := fun a ds h => h.grown hg1 (fun e => by injection e with e; exact Blk.ne_ h HBC.out (by decide) e)
          have HFR := Lib.hid (FrVs.keep hkp1 HFR.out)
          have HM := Lib.hid (HM.out.keep (hg1.block mb (map_lt HM.out) (fun e => by injection e with e; exact map_ne HM.out HBC.out e)))
          have HSB := Lib.hid (hkp1 a _ HSB.out)
          have hLr := LxAt.keep (G := fun i => i < base) (fun i hi hl => hg1.block i hl (fun e => by injection e with e; omega)) (fun _ h _ => h) root HLX.out
          have HB := Lib.hid (HB.out.grown hg1 hbs (fun j e => by injection e with e; omega))
          have hbs := Nat.le_trans hbs hs1
          have HLX := Lib.hid hLr
          have hLx := LxAt.sub hsub HLX.out
          have hback1 := HBK.out
          rw [← hcs] at hback1
          have HBK := Lib.hid hback1
          have HBC := Lib.hid hB1
          have hgl := Blk.lt hB1
          have hal := Blk.lt HSB.out
          have HTK := Lib.hid htk1
          have hS := HSB.out
          have hSv : ∀ (j : Nat) (v : Int), fr.S[j]? = some v → w1.cell? ⟨a, 0 + j, none⟩ = some (.int .i64 v) := fun j v hj => by
            rw [Nat.zero_add, hS.cell]
            simp [hj]
          obtain ⟨e0, e1, e2, e3⟩ := last_cells htk1 HL4.out
          have hctl : fr.left = Fr.left ⟨fr.x, fr.S, fr.r, fr.ck + 1, f0⟩ := hct
          have HTD0 := Lib.hid htd
          have hty := hty.trans hctl
          clear hback1 hkp1 hg1 hLr hct hctl hcur1 htk1 hs0 hn0 htd
          have hsk := skip_any (fun i => i < base) g (n * 4) c0 (fr.ck + 1) a 0 95 cur1 fr.x fr.S w1 hB1 e0 e1 e2 hLx (fun i hi => by omega) hSv hag hal hlen (by omega) (by omega) htx
          have hls := left_skip fr.x fr.S fr.r f0 hlen (fr.S.length + 1) (fr.ck + 1) (by omega)
          have HSK := Lib.hid hsk
          have HLS := Lib.hid hls
          have HTY := Lib.hid hty
          have HCH := Lib.hid hch
          clear hsk hls e0 e1 e2 e3 hB hB1 hS hSv hLx htx htk hty hch hcs
          go_wp2_with fail
          refine HSK.out.mono ?_
          rintro e w2 ⟨hg2, hm⟩
          have HB2 := Lib.hid (HB.out.grown hg2 hbs (fun j e => by injection e with e; omega))
          cases hR : skipR fr.S fr.x.args (fr.S.length + 1) (fr.ck + 1) with
          | error u =>
            rw [hR] at hm
            have hm : e = .returned u := hm
            subst hm
            rcases skipR_err _ _ hR with hu | hu | hu
            all_goals
              have hls := HLS.out
              rw [hR] at hls
              have hls : Fr.left ⟨fr.x, fr.S, fr.r, fr.ck + 1, f0⟩ = .error u := hls
              rw [hu] at hls ⊢
              first | unfold errT at hls ⊢ | unfold formE at hls ⊢ | unfold largeE at hls ⊢
              have HE := Lib.hid (chain_err HCH.out (HTY.out.trans hls))
              clear hls
              go_wp2_with fail
              ((try simp only [Exit.inBlock, Exit.then]); refine bodyPost_ret (results_tmp4 rfl _ _ _) rfl ?_)
              exact ⟨HB2.out, .inl ⟨_, HE.out, rfl⟩⟩
          | ok ck =>
            rw [hR] at hm
            obtain ⟨rfl, hB2⟩ := hm
            have hls := HLS.out
            rw [hR] at hls
            obtain ⟨hl1, hl2, hl3, hl4⟩ := hls
            have hckl := hl4 (by omega)
            have htk2 := last_set HTK.out HL4.out (.int .i64 ck)
            have HTK2 := Lib.hid htk2
            have HBC2 := Lib.hid hB2
            have HG2 := Lib.hid hg2
            have HLEFT := Lib.hid (HTY.out.trans hl1)
            obtain ⟨b0, b1, b2, b3⟩ := last_cells htk2 HL4.out
            rw [← hB2.cell] at b0 b1 b2 b3
            have HLX2 := Lib.hid (LxAt.keep (G := fun i => i < base) (fun i hi hl => hg2.block i hl (fun e => by injection e with e; omega)) (fun _ h _ => h) root HLX.out)
            obtain ⟨xb, xp, A', c', had, hFb, hbl, d0, d1, d2, d3, hXA⟩ := (LxAt.sub hsub HLX2.out).cells
            rw [had] at b0
            have HXA := Lib.hid hXA
            have HAD := Lib.hid had
            have HLen := Lib.hid hlen
            clear hl1 htk2 hB2 hg2 HLS hR hXA had hlen hsig
            by_cases hlt : ck < fr.S.length
            · have t3 : decide ((ck : Int) < (fr.S.length : Int)) = true := by simp; omega
              have t4 : decide (ck < fr.S.length) = true := by simp; omega
              obtain ⟨y, hy⟩ : ∃ y, fr.x.args[ck]? = some y := ⟨fr.x.args[ck]'(by have := HLen.out; omega), List.getElem?_eq_getElem _⟩
              obtain ⟨⟨b2', o2, hA, hyad⟩, _⟩ := HXA.out.get ck y hy
              subst hA
              rw [← HLen.out] at d3
              have HY := Lib.hid hy
              have HYA := Lib.hid hyad
              clear hy hyad d0 d1 d2
              go_wp2_with fail
              go_quiet (fail)
              go_wp2_with fail
              go_quiet (fail)
              go_wp2_with fail
              ((try simp only [Exit.inBlock, Exit.then]); refine bodyPost_ret (results_tmp4 rfl _ _ _) rfl ?_)
              have hyo : (Value.pointer (some ⟨b2', o2 + ck * 4, none⟩)) = .pointer (some y.ad) := by rw [HYA.out, Nat.zero_add]
              rw [hyo]
              refine ⟨below_drewN (below_drewN HB2.out _) _, .inr (.inr ⟨_, ⟨fr.x, fr.S, fr.r, ck, f0⟩ :: st', y, ⟨HY.out, ⟨_, List.getElem?_eq_getElem hlt, fun h => hl3 (by rw [List.getElem?_eq_getElem hlt, h])⟩, HLEFT.out, HCH.out⟩, ?_, ?_, rfl⟩)⟩
              · have h1 := size_drop HY.out
                have h2 := drop_mono fr.x.args hl2
                have h4 : sizeXL (fr.x.args.drop (fr.ck + 1)) + todo st' < M := HTD0.out
                show y.size + (sizeXL (fr.x.args.drop (ck + 1)) + todo st') < M
                omega
              · exact tyW_mk (fr := ⟨fr.x, fr.S, fr.r, ck, f0⟩) HBK.out HBC.out (Blk.drewN (Blk.drewN HBC2.out _) _) (by simp) HNE.out HL4.out HTK2.out HFR.out hba HSB.out HSg.out HLen.out hsub HM.out HK.out hmb ((HLX2.out.drewN _).drewN _) hbs (only_drewN (only_drewN HG2.out _) _)
            · have t3 : decide ((ck : Int) < (fr.S.length : Int)) = false := by simp; omega
              have t4 : decide (ck < fr.S.length) = false := by simp; omega
              go_wp2_with fail
              go_quiet (fail)
              go_wp2_with fail
              refine (sigX_any fr.x.text _).mono ?_
              rintro e w3 ⟨hb3, hm⟩
              rw [HSg.out] at hm
              obtain ⟨c3, rfl, hB3⟩ := hm
              have hgl2 : g < w2.heap.size := Blk.lt HBC2.out
              have b0' : w3.cell? ⟨g, n * 4, none⟩ = some (.pointer (some ⟨xb, xp, none⟩)) := (hb3.cell hgl2).trans b0
              have hgb : w1.grownBy w3 (some g) := sk_trans HG2.out ⟨hb3.os, hb3.tape, hb3.output, hb3.size, fun i hi _ => hb3.block i hi⟩
              have HM3 := Lib.hid (HM.out.keep (hgb.block mb (map_lt HM.out) (fun e => by injection e with e; exact map_ne HM.out HBC.out e)))
              have HLX3 := Lib.hid (LxAt.keep (G := fun i => i < base) (fun i hi hl => hgb.block i hl (fun e => by injection e with e; omega)) (fun _ h _ => h) root HLX.out)
              have HPL : Hid (∀ x, Sub x root → plainA w3 x.ad) := Lib.hid fun x hx => (LxAt.sub hx HLX3.out).plain.1
              have HKP : Hid (∀ q ∈ s, plainA w3 q.1) := Lib.hid fun q hq => by
                obtain ⟨x, t, h1, h2, _⟩ := HK.out q hq
                rw [← h2]; exact HPL.out x h1
              have HGB := Lib.hid hgb
              have hpx : plainA w3 ⟨xb, xp, none⟩ := by rw [← HAD.out]; exact HPL.out _ hsub
              have HPX := Lib.hid hpx
              clear hgb hpx
              go_wp2_with (at_mapUpdate; refine wpList_update_law rfl _ _ _ 65 rfl mb encA s 64 3 (plainA w3) HM3.out (keyE _) Try.underlying65 HKP.out ⟨xb, xp, none⟩ HPX.out rfl rfl ?_)
              intro w4 hM4 hg4 hs4
              have hB3' : Blk w3 g 95 _ := Blk.below (Blk.drewN HBC2.out _) hb3 hgl2
              have hmg : mb ≠ g := map_ne HM.out HBC.out
              have hB4 := hB3'.grown hg4 (fun e => by injection e with e; exact hmg e.symm)
              have hkp : ∀ a ds, Blk w1 a 3 ds → Blk w4 a 3 ds := fun a ds h => (h.grown HGB.out (fun e => by injection e with e; exact Blk.ne_ h HBC.out (by decide) e)).grown hg4 (fun e => by injection e with e; exact map_ne HM.out h e.symm)
              have ho4 := own_cut (HBK.out w4 _ _ hB4 (by simp) (by simp [HL4.out]; omega) HTK2.out) n (by omega) (by omega)
              have hL4' := LxAt.keep (G := fun i => i < base) (fun i hi hl => hg4.block i hl (fun e => by injection e with e; omega)) (fun _ h _ => h) root HLX3.out
              have HU := Lib.hid (And.intro ho4 (And.intro hM4 (And.intro hL4' (And.intro hkp (And.intro hg4 hs4)))))
              clear hB3' hB4 hkp ho4 hL4' hM4
              go_wp2_with fail
              go_roundg f
              case measure => omega
              case rel =>
                obtain ⟨ho4, hM4, hL4', hkp, hg4, hs4⟩ := HU.out
                have hty' : typX fr.x = .ok fr.r := HLEFT.out.trans (left_done ⟨fr.x, fr.S, fr.r, ck, f0⟩ (by show fr.S.length ≤ ck; omega))
                have hn := HNE.out
                have hgs := HGB.out.size
                have hb4 : Below base w w4 := (HB.out.grown HGB.out hbs (fun j e => by injection e with e; omega)).grown hg4 (by omega) (fun j e => by injection e with e; omega)
                refine ⟨st', fr.r, rfl, by omega, by omega, Lib.hid (.inl ⟨by omega, fr.x, HCH.out, hty', by have h4 : sizeXL (fr.x.args.drop (fr.ck + 1)) + todo st' < M := HTD0.out; omega⟩), Lib.hid ⟨xs', _, ?_, FrVs.keep hkp HFR.out, hM4, ?_, hmb, hL4', by omega⟩, Lib.hid hb4⟩
                · rw [← hn]
                  rw [List.take_append_of_le_length (by have := HL4.out; omega), List.take_of_length_le (by have := HL4.out; omega)] at ho4
                  exact ho4
                · exact known_upd HK.out hsub HAD.out hty' (by omega)
end Go.Proofs.Ytniefnjcimempaa
