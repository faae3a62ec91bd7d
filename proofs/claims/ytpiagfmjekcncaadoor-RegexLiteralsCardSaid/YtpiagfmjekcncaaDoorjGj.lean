/- The walk of the document's parser of sets. -/
import Derived.Test.YtpiagfmjekcncaaDoorjGi
import Derived.Test.YtpiagfmjekcncaaDoorjGg
import Derived.Test.YtpiagfmjekcncaaDoorjLsP
set_option linter.unusedVariables false
set_option linter.unusedSimpArgs false
set_option linter.unusedSectionVars false
namespace Go.Proofs.YtpiagfmjekcncaaDoor
open Go.RowKit
/-- What the parser of sets answers. -/
def spR (R : Option LS) : LS := match R with
  | some S => S
  | none => noneS
def spC (R : Option LS) : Int := match R with
  | some _ => 0
  | none => 4
theorem glsP_step {f : Nat} {t : List UInt8} {k : Nat} {S : LS} (hk : k < t.length) : lsP (f + 1) (t.drop k) S = match elemP (t.drop k) with
    | none => none
    | some (lo, u) => if t[k + u]? = some 45 then (match elemP (t.drop (k + u + 1)) with
        | none => none
        | some (hi, u') => if hi < lo then none else lsP f (t.drop (k + u + 1 + u')) (orS S (spanS lo.toNat hi.toNat)))
      else lsP f (t.drop (k + u)) (orS S (spanS lo.toNat lo.toNat)) := by
  rw [List.drop_eq_getElem_cons hk, lsP]
  rcases elemP (t[k] :: t.drop (k + 1)) with _ | ⟨lo, u⟩
  · rfl
  · dsimp only
    rw [← List.drop_eq_getElem_cons hk, List.drop_drop]
    rcases h : t[k + u]? with _ | c
    · rw [List.drop_of_length_le (List.getElem?_eq_none_iff.1 h), if_neg (by simp)]
    · have hl := at_lt h
      have hc : t[k + u] = c := by rw [List.getElem?_eq_getElem hl] at h; injection h
      rw [List.drop_eq_getElem_cons hl, hc]
      by_cases h45 : c = 45
      · subst h45
        rw [if_pos rfl]
        show (match elemP (t.drop (k + u + 1)) with
          | none => none
          | some (hi, u') => if hi < lo then none else lsP f ((t.drop (k + u + 1)).drop u') (orS S (spanS lo.toNat hi.toNat))) = _
        rcases elemP (t.drop (k + u + 1)) with _ | ⟨hi, u'⟩
        · rfl
        · dsimp only
          rw [List.drop_drop]
      · rw [if_neg (by intro e; injection e with e; exact h45 e)]
        split
        · rename_i t' e
          injection e with e1 e2
          exact absurd e1 h45
        · rfl
/-- The state of the parser of sets. -/
structure SpSt (w wr : World) (S : LS) : Prop where
  r : Blk wr w.heap.size 95 (setA noneS)
  o : Blk wr (w.heap.size + 1) 95 (setA S)
  b : Below w.heap.size w wr
theorem SpSt.drewN {w wr : World} {S : LS} (h : SpSt w wr S) (n : Nat) : SpSt w (wr.drewN n) S := ⟨h.r, h.o, below_drewN h.b n⟩
/-- A span up to, not with, b. -/
def spUp (S : LS) (lo b : Nat) : LS := orS S (fun n => decide (lo ≤ n) && decide (n < b))
theorem spUp_zero (S : LS) (lo : Nat) : setA (spUp S lo lo) = setA S := setA_congr fun i _ => by
  show (S i || (decide (lo ≤ i) && decide (i < lo))) = S i
  rw [show (decide (lo ≤ i) && decide (i < lo)) = false by simp, Bool.or_false]
theorem spUp_end (S : LS) (lo hi : Nat) : spUp S lo (hi + 1) = orS S (spanS lo hi) := by
  funext n
  show (S n || (decide (lo ≤ n) && decide (n < hi + 1))) = (S n || (decide (lo ≤ n) && decide (n ≤ hi)))
  rw [show decide (n < hi + 1) = decide (n ≤ hi) from decide_eq_decide.2 (by omega)]
theorem spUp_step (S : LS) (lo b : Nat) (hb : b < 256) (hl : lo ≤ b) : (setA (spUp S lo b)).setIfInBounds b (.bool true) = setA (spUp S lo (b + 1)) := by
  rw [setA_set _ _ hb]
  refine setA_congr fun n _ => ?_
  show (if n = b then true else (S n || (decide (lo ≤ n) && decide (n < b)))) = (S n || (decide (lo ≤ n) && decide (n < b + 1)))
  by_cases h : n = b
  · subst h
    rw [if_pos rfl, show (decide (lo ≤ n) && decide (n < n + 1)) = true by simp; omega, Bool.or_true]
  · rw [if_neg h, show decide (n < b + 1) = decide (n < b) from decide_eq_decide.2 (by omega)]
theorem results_two {P : Program} {fn : Func} {p q : Tmp} {ty : TypeId} (h : fn.results = #[.cell p ty, .tmp q]) (tmps : Array Value) (w : World) (g : Nat) (t : TypeId) (cs : Array Value) (fr : Nat × Nat) (d : TypeDesc) (u : Value)
    (hp : tmps.getD p undef = .pointer (some ⟨g, 0, none⟩)) (hq : tmps.getD q undef = u) (hg : w.heap[g]? = some (.cells cs t fr))
    (hu : P.underlying ty = some d) (hd : (match d with | .struct _ | .array _ _ => true | _ => false) = true) (hi : (P.info? ty).map (·.size) = some cs.size) :
    (results fn tmps).run P w = .ok (.tuple #[.agg cs, u]) w := by
  have hp' : tmps[p]?.getD undef = .pointer (some ⟨g, 0, none⟩) := by simpa using hp
  have hq' : tmps[q]?.getD undef = u := by simpa using hq
  simp [results, h, hp', hq', asAddr, run_loadVar_row w g t ty cs fr d hg hu hd hi]
theorem setV_ret2 {fn : Func} {p q : Tmp} (h : fn.results = #[.cell p 95, .tmp q]) (tmps : Array Value) (w : World) (g : Nat) (S : LS) (u : Value) (hp : tmps.getD p undef = .pointer (some ⟨g, 0, none⟩)) (hq : tmps.getD q undef = u) (hg : Blk w g 95 (setA S)) :
    (results fn tmps).run Tryd.prog w = .ok (.tuple #[.agg (setA S), u]) w := results_two h tmps w g 95 (setA S) (0, 0) _ u hp hq hg Tryd.underlying95 rfl (set_info S)
theorem zero_info : ((Tryd.prog).info? 95).map (·.size) = some (Tryd.zeroCells95).size := by rw [zero_set]; exact set_info _
set_option maxRecDepth 100000 in
set_option maxHeartbeats 8000000 in
theorem gset_any (t : List UInt8) (w : World) (hT : t.length ≤ 262144) : Calls Tryd.prog 84 #[.string ⟨t.toArray⟩] w fun e w' => e = .returned (.tuple #[.agg (setA (spR (lsP (t.length + 1) t noneS))), .int .i64 (spC (lsP (t.length + 1) t noneS))]) ∧ Below w.heap.size w w' := by
  have hsz : (ByteArray.mk t.toArray).size = t.length := by simp [ByteArray.size]
  obtain ⟨R, hR⟩ : ∃ R, R = lsP (t.length + 1) t noneS := ⟨_, rfl⟩
  rw [← hR]
  have HR := Lib.hid hR
  clear hR
  go_enter Tryd.func84, Tryd.ntmps84
  go_wp2_with fail
  go_loopg [5] (t.length + 1) (fun f v wr => ∃ (k : Nat) (S : LS), v = .int .i64 k ∧ (k ≤ t.length ∧ t.length - k < f) ∧ Hid (lsP f (t.drop k) S = R) ∧ Hid (SpSt w wr S))
  case atStart =>
    refine ⟨0, noneS, rfl, ⟨by omega, by omega⟩, Lib.hid (by rw [List.drop_zero]; exact HR.out.symm), Lib.hid ⟨?_, ?_, ?_⟩⟩
    · rw [← zero_set]
      exact (Blk.new w _ _).alloc _
    · have := Blk.new (w.alloc (.cells Tryd.zeroCells95 95)) 95 Tryd.zeroCells95
      rw [zero_set] at this ⊢
      simpa using this
    · exact ((Below.refl _ w).alloc (Nat.le_refl _) _).alloc (by simp) _
  case round =>
    obtain ⟨k, S, rfl, ⟨hk, hkf⟩, hP, hst⟩ := hrel
    obtain ⟨f, rfl⟩ : ∃ f, gk = f + 1 := ⟨gk - 1, by omega⟩
    by_cases hlt : k < t.length
    rotate_left
    · obtain rfl : k = t.length := by omega
      have e0 : decide (((t.length : Nat) : Int) < (t.length : Int)) = false := by simp
      have hP2 := hP.out
      rw [List.drop_of_length_le (Nat.le_refl _), lsP] at hP2
      obtain rfl := hP2
      have H1 := Lib.hid hst.out.o
      have H2 := Lib.hid hst.out.r
      have H9 := Lib.hid (Blk.row (cs := setA S) hst.out.r)
      have HB9 := Lib.hid (below_row (cs := setA S) (g := w.heap.size) hst.out.b (Nat.le_refl _))
      clear hst HR
      go_wp2_with (first | refine wpList_load_row rfl 95 _ rfl (w.heap.size + 1) rfl 95 (setA S) (0, 0) _ H1.out Tryd.underlying95 rfl (set_info _) ?_ | refine wpList_store_row rfl 95 _ _ rfl w.heap.size (setA S) rfl rfl 95 (setA noneS) H2.out (set_info _) (by rw [setA_size, setA_size]) (setA_all _) ?_)
      refine bodyPost_ret (setV_ret2 rfl _ _ _ _ _ rfl rfl H9.out) rfl ?_
      exact ⟨rfl, HB9.out⟩
    · have e0 : decide ((k : Int) < (t.length : Int)) = true := by simp; omega
      have HE := Lib.hid (gel_any (t := t) (k := k) wr (by omega) hT)
      unfold GEl at HE
      have hP2 := hP.out
      rw [glsP_step hlt] at hP2
      obtain ⟨wo, hwo⟩ : ∃ wo, wo = wr := ⟨_, rfl⟩
      subst hwo
      rcases hel : elemP (t.drop k) with _ | ⟨lo, u⟩
      · rw [hel] at hP2
        obtain rfl : none = R := hP2
        rw [show elR t k = (-1, k) by unfold elR; rw [hel]] at HE
        have HST := Lib.hid hst.out
        clear hst hel
        go_wp2_with fail
        refine HE.out.mono ?_
        rintro e w1 ⟨rfl, n1, rfl⟩
        have HSB := Lib.hid (HST.out.drewN n1)
        obtain ⟨w1, hw1⟩ : ∃ w1, w1 = wo.drewN n1 := ⟨_, rfl⟩
        rw [← hw1] at HSB ⊢
        clear hw1 HST HE
        clear HR
        have hs := HSB.out
        have H2 := Lib.hid hs.r
        have H9 := Lib.hid (Blk.row (cs := Tryd.zeroCells95) hs.r)
        have HB9 := Lib.hid (below_row (cs := Tryd.zeroCells95) (g := w.heap.size) hs.b (Nat.le_refl _))
        clear hs HSB
        go_wp2_with (first | refine wpList_store_row rfl 95 _ _ rfl w.heap.size Tryd.zeroCells95 rfl rfl 95 (setA noneS) H2.out zero_info (by rw [setA_size, zero_set, setA_size]) (by rw [zero_set]; exact setA_all _) ?_)
        refine bodyPost_ret (results_two rfl _ _ w.heap.size 95 Tryd.zeroCells95 (0, 0) _ (.int .i64 4) rfl rfl H9.out Tryd.underlying95 rfl zero_info) rfl ?_
        exact ⟨by rw [zero_set]; rfl, HB9.out⟩
      · rw [hel] at hP2
        dsimp only at hP2
        have hu := gr_elem_pos hel
        rw [List.length_drop] at hu
        obtain ⟨k1, hk1⟩ : ∃ k1, k1 = k + u := ⟨_, rfl⟩
        rw [show elR t k = ((lo.toNat : Int), k1) by unfold elR; rw [hel, hk1]] at HE
        rw [← hk1] at hP2
        have HST := Lib.hid hst.out
        obtain ⟨ul0, ul1⟩ := u8b lo
        have e8 : decide ((lo.toNat : Int) < 0) = false := by simp
        have hk1k : k < k1 := by omega
        have hk1t : k1 ≤ t.length := by omega
        clear hP hst hel hk1
        go_wp2_with fail
        refine HE.out.mono ?_
        rintro e w1 ⟨rfl, n1, rfl⟩
        have HS1 := Lib.hid (HST.out.drewN n1)
        obtain ⟨w1, hw1⟩ : ∃ w1, w1 = wo.drewN n1 := ⟨_, rfl⟩
        rw [← hw1] at HS1 ⊢
        clear hw1 HST HE
        rcases hn : t[k1]? with _ | c
        · have e1 : decide ((k1 : Int) < (t.length : Int)) = false := by have := List.getElem?_eq_none_iff.1 hn; simp; omega
          have e1' : ¬ (k1 < t.length) := by have := List.getElem?_eq_none_iff.1 hn; omega
          rw [hn, if_neg (by simp)] at hP2
          have HP := Lib.hid hP2
          clear hn hP2
          go_wp2_with fail
          obtain ⟨wx, hwx⟩ : ∃ wx, wx = w1 := ⟨_, rfl⟩
          subst hwx
          have HRP := Lib.hid HS1.out.r
          have HBP := Lib.hid HS1.out.b
          clear HR
          go_loopg [9] (lo.toNat + 2 - lo.toNat) (fun f9 v9 wr => ∃ q : Nat, v9 = .int .i64 q ∧ (q + f9 = lo.toNat + 2 ∧ lo.toNat ≤ q ∧ q ≤ lo.toNat + 1) ∧ Hid (SpSt w wr (spUp S lo.toNat q)))
          case atStart =>
            refine ⟨lo.toNat, rfl, ⟨by omega, by omega, by omega⟩, Lib.hid ⟨HRP.out, ?_, HBP.out⟩⟩
            rw [spUp_zero]
            exact HS1.out.o
          case round =>
            obtain ⟨q, rfl, ⟨hq1, hq2, hq3⟩, hsq⟩ := hrel
            obtain ⟨f9, rfl⟩ : ∃ f9, gk = f9 + 1 := ⟨gk - 1, by omega⟩
            by_cases hqh : q ≤ lo.toNat
            · have e9 : decide ((q : Int) ≤ (lo.toNat : Int)) = true := by simp; omega
              have hq256 : q < 256 := by omega
              have cq := (Blk.cell hsq.out.o q).trans (setA_at _ q hq256)
              have fq := Blk.frozen hsq.out.o q
              have HN := Lib.hid (show SpSt w (wr.setCell ⟨w.heap.size + 1, q, none⟩ (.bool true)) (spUp S lo.toNat (q + 1)) from by
                refine ⟨Blk.far hsq.out.r (p := ⟨w.heap.size + 1, q, none⟩) (by show w.heap.size ≠ w.heap.size + 1; omega) _, ?_, hsq.out.b.setCell (by show w.heap.size ≤ w.heap.size + 1; omega) _⟩
                have := Blk.set_ hsq.out.o q (.bool true)
                rw [spUp_step _ _ _ hq256 hq2] at this
                exact this)
              clear hsq HS1 HRP HBP HP
              go_wp2_with fail
              go_roundg f9
              case measure => omega
              case rel => exact ⟨q + 1, by rw [show ((q + 1 : Nat) : Int) = (q : Int) + 1 by omega], ⟨by omega, by omega, by omega⟩, HN⟩
            · obtain rfl : q = lo.toNat + 1 := by omega
              have e9 : decide (((lo.toNat + 1 : Nat) : Int) ≤ (lo.toNat : Int)) = false := decide_eq_false (by omega)
              have h8 := hsq.out
              rw [spUp_end] at h8
              have HN := Lib.hid h8
              clear h8 hsq HS1 HRP HBP
              go_wp2_with fail
              go_roundg f
              case measure => omega
              case rel => exact ⟨k1, orS S (spanS lo.toNat lo.toNat), rfl, ⟨by omega, by omega⟩, HP, HN⟩
        · have hl1 := at_lt hn
          have e1 : decide ((k1 : Int) < (t.length : Int)) = true := by simp; omega
          have hix := idxT (P := Tryd.prog) Tryd.underlying9 hn
          by_cases h45 : c = 45
          rotate_left
          · have t1 : ((c.toNat : Int) == 45) = false := glit (c := 45) h45
            rw [hn, if_neg (by intro e; injection e with e; exact h45 e)] at hP2
            have HP := Lib.hid hP2
            clear hn hP2 h45
            go_wp2_with fail
            obtain ⟨wx, hwx⟩ : ∃ wx, wx = w1 := ⟨_, rfl⟩
            subst hwx
            have HRP := Lib.hid HS1.out.r
            have HBP := Lib.hid HS1.out.b
            clear HR
            go_loopg [9] (lo.toNat + 2 - lo.toNat) (fun f9 v9 wr => ∃ q : Nat, v9 = .int .i64 q ∧ (q + f9 = lo.toNat + 2 ∧ lo.toNat ≤ q ∧ q ≤ lo.toNat + 1) ∧ Hid (SpSt w wr (spUp S lo.toNat q)))
            case atStart =>
              refine ⟨lo.toNat, rfl, ⟨by omega, by omega, by omega⟩, Lib.hid ⟨HRP.out, ?_, HBP.out⟩⟩
              rw [spUp_zero]
              exact HS1.out.o
            case round =>
              obtain ⟨q, rfl, ⟨hq1, hq2, hq3⟩, hsq⟩ := hrel
              obtain ⟨f9, rfl⟩ : ∃ f9, gk = f9 + 1 := ⟨gk - 1, by omega⟩
              by_cases hqh : q ≤ lo.toNat
              · have e9 : decide ((q : Int) ≤ (lo.toNat : Int)) = true := by simp; omega
                have hq256 : q < 256 := by omega
                have cq := (Blk.cell hsq.out.o q).trans (setA_at _ q hq256)
                have fq := Blk.frozen hsq.out.o q
                have HN := Lib.hid (show SpSt w (wr.setCell ⟨w.heap.size + 1, q, none⟩ (.bool true)) (spUp S lo.toNat (q + 1)) from by
                  refine ⟨Blk.far hsq.out.r (p := ⟨w.heap.size + 1, q, none⟩) (by show w.heap.size ≠ w.heap.size + 1; omega) _, ?_, hsq.out.b.setCell (by show w.heap.size ≤ w.heap.size + 1; omega) _⟩
                  have := Blk.set_ hsq.out.o q (.bool true)
                  rw [spUp_step _ _ _ hq256 hq2] at this
                  exact this)
                clear hsq HS1 HRP HBP HP
                go_wp2_with fail
                go_roundg f9
                case measure => omega
                case rel => exact ⟨q + 1, by rw [show ((q + 1 : Nat) : Int) = (q : Int) + 1 by omega], ⟨by omega, by omega, by omega⟩, HN⟩
              · obtain rfl : q = lo.toNat + 1 := by omega
                have e9 : decide (((lo.toNat + 1 : Nat) : Int) ≤ (lo.toNat : Int)) = false := decide_eq_false (by omega)
                have h8 := hsq.out
                rw [spUp_end] at h8
                have HN := Lib.hid h8
                clear h8 hsq HS1 HRP HBP
                go_wp2_with fail
                go_roundg f
                case measure => omega
                case rel => exact ⟨k1, orS S (spanS lo.toNat lo.toNat), rfl, ⟨by omega, by omega⟩, HP, HN⟩
          · have t1 : ((c.toNat : Int) == 45) = true := by rw [h45]; rfl
            rw [hn, h45, if_pos rfl] at hP2
            have HE := Lib.hid (gel_any (t := t) (k := k1 + 1) w1 (by omega) hT)
            unfold GEl at HE
            rw [show ((k1 + 1 : Nat) : Int) = (k1 : Int) + 1 by omega] at HE
            clear hn h45
            rcases hel : elemP (t.drop (k1 + 1)) with _ | ⟨hi, u'⟩
            · rw [hel] at hP2
              obtain rfl : none = R := hP2
              rw [show elR t (k1 + 1) = (-1, k1 + 1) by unfold elR; rw [hel]] at HE
              have e9 : decide (-1 < (lo.toNat : Int)) = true := by simp; omega
              clear hel
              go_wp2_with fail
              refine HE.out.mono ?_
              rintro e w2 ⟨rfl, n2, rfl⟩
              have HSB := Lib.hid (HS1.out.drewN n2)
              obtain ⟨w2, hw2⟩ : ∃ w2, w2 = w1.drewN n2 := ⟨_, rfl⟩
              rw [← hw2] at HSB ⊢
              clear hw2 HS1 HE
              clear HR
              have hs := HSB.out
              have H2 := Lib.hid hs.r
              have H9 := Lib.hid (Blk.row (cs := Tryd.zeroCells95) hs.r)
              have HB9 := Lib.hid (below_row (cs := Tryd.zeroCells95) (g := w.heap.size) hs.b (Nat.le_refl _))
              clear hs HSB
              go_wp2_with (first | refine wpList_store_row rfl 95 _ _ rfl w.heap.size Tryd.zeroCells95 rfl rfl 95 (setA noneS) H2.out zero_info (by rw [setA_size, zero_set, setA_size]) (by rw [zero_set]; exact setA_all _) ?_)
              refine bodyPost_ret (results_two rfl _ _ w.heap.size 95 Tryd.zeroCells95 (0, 0) _ (.int .i64 4) rfl rfl H9.out Tryd.underlying95 rfl zero_info) rfl ?_
              exact ⟨by rw [zero_set]; rfl, HB9.out⟩
            · rw [hel] at hP2
              dsimp only at hP2
              have hu' := gr_elem_pos hel
              rw [List.length_drop] at hu'
              obtain ⟨k2, hk2⟩ : ∃ k2, k2 = k1 + 1 + u' := ⟨_, rfl⟩
              rw [show elR t (k1 + 1) = ((hi.toNat : Int), k2) by unfold elR; rw [hel, hk2]] at HE
              rw [← hk2] at hP2
              obtain ⟨uh0, uh1⟩ := u8b hi
              have hk2t : k2 ≤ t.length := by omega
              have hk2k : k < k2 := by omega
              clear hel hk2
              by_cases hhl : hi < lo
              · rw [if_pos hhl] at hP2
                obtain rfl : none = R := hP2
                have e9 : decide ((hi.toNat : Int) < (lo.toNat : Int)) = true := by have := UInt8.lt_iff_toNat_lt.1 hhl; simp; omega
                have e9n : hi.toNat < lo.toNat := UInt8.lt_iff_toNat_lt.1 hhl
                clear hhl
                go_wp2_with fail
                refine HE.out.mono ?_
                rintro e w2 ⟨rfl, n2, rfl⟩
                have HSB := Lib.hid (HS1.out.drewN n2)
                obtain ⟨w2, hw2⟩ : ∃ w2, w2 = w1.drewN n2 := ⟨_, rfl⟩
                rw [← hw2] at HSB ⊢
                clear hw2 HS1 HE
                clear HR
                have hs := HSB.out
                have H2 := Lib.hid hs.r
                have H9 := Lib.hid (Blk.row (cs := Tryd.zeroCells95) hs.r)
                have HB9 := Lib.hid (below_row (cs := Tryd.zeroCells95) (g := w.heap.size) hs.b (Nat.le_refl _))
                clear hs HSB
                go_wp2_with (first | refine wpList_store_row rfl 95 _ _ rfl w.heap.size Tryd.zeroCells95 rfl rfl 95 (setA noneS) H2.out zero_info (by rw [setA_size, zero_set, setA_size]) (by rw [zero_set]; exact setA_all _) ?_)
                refine bodyPost_ret (results_two rfl _ _ w.heap.size 95 Tryd.zeroCells95 (0, 0) _ (.int .i64 4) rfl rfl H9.out Tryd.underlying95 rfl zero_info) rfl ?_
                exact ⟨by rw [zero_set]; rfl, HB9.out⟩
              · rw [if_neg hhl] at hP2
                have e9 : decide ((hi.toNat : Int) < (lo.toNat : Int)) = false := by have := mt UInt8.lt_iff_toNat_lt.2 hhl; simp; omega
                have hlh : lo.toNat ≤ hi.toNat := by have := mt UInt8.lt_iff_toNat_lt.2 hhl; omega
                have HP := Lib.hid hP2
                clear hhl hP2
                go_wp2_with fail
                refine HE.out.mono ?_
                rintro e w2 ⟨rfl, n2, rfl⟩
                have HS2 := Lib.hid (HS1.out.drewN n2)
                obtain ⟨w2, hw2⟩ : ∃ w2, w2 = w1.drewN n2 := ⟨_, rfl⟩
                rw [← hw2] at HS2 ⊢
                clear hw2 HS1 HE
                have HS1 := HS2
                clear HS2
                go_wp2_with fail
                obtain ⟨wx, hwx⟩ : ∃ wx, wx = w2 := ⟨_, rfl⟩
                subst hwx
                have HRP := Lib.hid HS1.out.r
                have HBP := Lib.hid HS1.out.b
                clear HR
                go_loopg [9] (hi.toNat + 2 - lo.toNat) (fun f9 v9 wr => ∃ q : Nat, v9 = .int .i64 q ∧ (q + f9 = hi.toNat + 2 ∧ lo.toNat ≤ q ∧ q ≤ hi.toNat + 1) ∧ Hid (SpSt w wr (spUp S lo.toNat q)))
                case atStart =>
                  refine ⟨lo.toNat, rfl, ⟨by omega, by omega, by omega⟩, Lib.hid ⟨HRP.out, ?_, HBP.out⟩⟩
                  rw [spUp_zero]
                  exact HS1.out.o
                case round =>
                  obtain ⟨q, rfl, ⟨hq1, hq2, hq3⟩, hsq⟩ := hrel
                  obtain ⟨f9, rfl⟩ : ∃ f9, gk = f9 + 1 := ⟨gk - 1, by omega⟩
                  by_cases hqh : q ≤ hi.toNat
                  · have e9 : decide ((q : Int) ≤ (hi.toNat : Int)) = true := by simp; omega
                    have hq256 : q < 256 := by omega
                    have cq := (Blk.cell hsq.out.o q).trans (setA_at _ q hq256)
                    have fq := Blk.frozen hsq.out.o q
                    have HN := Lib.hid (show SpSt w (wr.setCell ⟨w.heap.size + 1, q, none⟩ (.bool true)) (spUp S lo.toNat (q + 1)) from by
                      refine ⟨Blk.far hsq.out.r (p := ⟨w.heap.size + 1, q, none⟩) (by show w.heap.size ≠ w.heap.size + 1; omega) _, ?_, hsq.out.b.setCell (by show w.heap.size ≤ w.heap.size + 1; omega) _⟩
                      have := Blk.set_ hsq.out.o q (.bool true)
                      rw [spUp_step _ _ _ hq256 hq2] at this
                      exact this)
                    clear hsq HS1 HRP HBP HP
                    go_wp2_with fail
                    go_roundg f9
                    case measure => omega
                    case rel => exact ⟨q + 1, by rw [show ((q + 1 : Nat) : Int) = (q : Int) + 1 by omega], ⟨by omega, by omega, by omega⟩, HN⟩
                  · obtain rfl : q = hi.toNat + 1 := by omega
                    have e9 : decide (((hi.toNat + 1 : Nat) : Int) ≤ (hi.toNat : Int)) = false := decide_eq_false (by omega)
                    have h8 := hsq.out
                    rw [spUp_end] at h8
                    have HN := Lib.hid h8
                    clear h8 hsq HS1 HRP HBP
                    go_wp2_with fail
                    go_roundg f
                    case measure => omega
                    case rel => exact ⟨k2, orS S (spanS lo.toNat hi.toNat), rfl, ⟨by omega, by omega⟩, HP, HN⟩
end Go.Proofs.YtpiagfmjekcncaaDoor
