/- A region that draws its order and ends in a store that waits for all: what the loads read need not hold behind it. No function of the program is named. -/
import Derived.OrdersHeld
import Derived.Deep.RegionHeld
import Derived.Test.YtpiagfmjekcncaaDoorjHd
import Derived.Test.YtpiagfmjekcncaaDoorjMeas
import Derived.Deep.RegionHeld3
import Derived.Deep.CutRange
import Derived.Deep.Cut
set_option linter.unusedVariables false
set_option linter.unusedSimpArgs false
set_option linter.unusedSectionVars false
namespace Go.Proofs.YtpiagfmjekcncaaDoor
open Go
section
variable {P : Program} {ops : Array Oper} {Q : Exit → Act → World → Prop} {md : Region.Mode} {S : World → Prop}
/-- Whatever order is picked, and S holds behind every operation but number z. -/
def wpAnyZ (P : Program) (md : Region.Mode) (ops : Array Oper) (Q : Exit → Act → World → Prop) (S : World → Prop) (z : Nat) : Nat → Array Bool → Act → World → Prop
  | 0, listed, a, w => Region.ready md ops listed = [] ∧ Q .normal a w
  | fuel + 1, listed, a, w =>
    (Region.ready md ops listed = [] → Q .normal a w) ∧
    ∀ i ∈ Region.ready md ops listed, wpOp P ops Q i (fun a' w' => (i ≠ z → S w') ∧ wpAnyZ P md ops Q S z fuel (listed.setIfInBounds i true) a' w') a w
theorem wpAny_of_Z {z : Nat} : ∀ (fuel : Nat) (listed : Array Bool) (a : Act) (w : World), wpAnyZ P md ops Q S z fuel listed a w → wpAny P md ops Q fuel listed a w
  | 0, _, _, _, h => h
  | fuel + 1, _, _, _, h => ⟨h.1, fun i hi => wpOp_mono (fun a' w' h' => wpAny_of_Z fuel _ a' w' h'.2) (h.2 i hi)⟩
/-- Number z waits for number i. -/
def sinkZ (md : Region.Mode) (ops : Array Oper) (z i : Nat) : Bool := match ops[z]? with
  | some oz => oz.after.any fun e => Region.binds md e && e.on == i
  | none => false
theorem sinkZ_spec {z i : Nat} (h : sinkZ md ops z i = true) : ∃ oz, ops[z]? = some oz ∧ ∃ e ∈ oz.after, Region.binds md e = true ∧ e.on = i := by
  unfold sinkZ at h
  split at h
  · rename_i oz hz
    obtain ⟨e, he, hb⟩ := Array.any_eq_true'.1 h
    simp only [Bool.and_eq_true, beq_iff_eq] at hb
    exact ⟨oz, hz, e, he, hb.1, hb.2⟩
  · cases h
theorem wpAnyZ_first {i z : Nat} {oi : Oper} {v : Value} (hi : ops[i]? = some oi) (hz : sinkZ md ops z i = true) (hsel : ∀ (j : Nat) (o : Oper) cs b, ops[j]? = some o → o.op ≠ .select cs b)
    (hQ : ∀ c a w, Q (.panic c) (a.put oi.dst v) w → Q (.panic c) a w) :
    ∀ (fuel : Nat) (listed : Array Bool) (a : Act) (w : World),
      (∀ j oj, ops[j]? = some oj → j ≠ i → listed.getD j true = false → (∀ e ∈ oj.after, Region.binds md e = true → e.on ≠ i) → oi.apart ops oj = true) →
      i ∈ Region.ready md ops listed → YieldsIf P ops S oi v a → S w →
      wpAnyZ P md ops Q S z fuel (listed.setIfInBounds i true) (a.put oi.dst v) w → wpAnyZ P md ops Q S z (fuel + 1) listed a w := by
  intro fuel
  induction fuel with
  | zero =>
    intro listed a w _ hr hy hS H
    refine ⟨fun h => (by rw [h] at hr; cases hr), fun j hj => ?_⟩
    by_cases hji : j = i
    · subst hji; exact hy.wpOp hi hS ⟨fun _ => hS, H⟩
    · have := ready_mono hj hji
      rw [H.1] at this
      cases this
  | succ fuel ih =>
    intro listed a w hfree hr hy hS H
    refine ⟨fun h => (by rw [h] at hr; cases hr), fun j hj => ?_⟩
    by_cases hji : j = i
    · subst hji; exact hy.wpOp hi hS ⟨fun _ => hS, H⟩
    · have h1 := H.2 j (ready_mono hj hji)
      obtain ⟨hjun, oj, hoj, hall⟩ := mem_ready.1 hj
      have hnot : ∀ e ∈ oj.after, Region.binds md e = true → e.on ≠ i := fun e he hb heq => by
        have h1 := hall e he hb
        have h0 := (mem_ready.1 hr).1
        rw [heq] at h1
        rcases Nat.lt_or_ge i listed.size with h' | h'
        · simp [h'] at h0 h1; rw [h0] at h1; cases h1
        · simp [Array.getElem?_eq_none h'] at h1
      have hjz : j ≠ z := fun e => by
        subst e
        obtain ⟨oz, h2, e, he, hb, heq⟩ := sinkZ_spec hz
        rw [hoj] at h2
        injection h2 with h2
        subst h2
        exact hnot e he hb heq
      have h2 := wpOp_putIf hoj (hfree j oj hoj hji hjun hnot) (fun cs b => hsel i oi cs b hi) (fun cs b => hsel j oj cs b hoj) hQ hy (wpOp_mono (fun a' w' h => (⟨h.1 hjz, h⟩ : S w' ∧ _)) h1)
      have hfree' : ∀ k ok, ops[k]? = some ok → k ≠ i → (listed.setIfInBounds j true).getD k true = false →
          (∀ e ∈ ok.after, Region.binds md e = true → e.on ≠ i) → oi.apart ops ok = true := fun k ok hk hki hun hno => by
        refine hfree k ok hk hki ?_ hno
        by_cases hjk : j = k
        · subst hjk; exact hjun
        · rw [getD_set_ne true hjk] at hun; exact hun
      refine wpOp_mono (fun a' w' h3 => ⟨fun _ => h3.2.1, ih (listed.setIfInBounds j true) a' w' hfree' (ready_mono hr (Ne.symm hji)) h3.1 h3.2.1 ?_⟩) h2
      rw [Array.setIfInBounds_comm _ _ hji]
      exact h3.2.2.2
theorem wpAnyZ_take {i z : Nat} {oi : Oper} {v : Value} {fuel : Nat} {listed : Array Bool} {a : Act} {w : World} (hi : ops[i]? = some oi) (hz : sinkZ md ops z i = true)
    (hs : Region.noSelect ops = true) (hf : Region.free md ops listed i = true) (hr : (Region.ready md ops listed).contains i = true)
    (hQ : ∀ c a w, Q (.panic c) (a.put oi.dst v) w → Q (.panic c) a w) (hy : YieldsIf P ops S oi v a) (hS : S w)
    (h : wpAnyZ P md ops Q S z fuel (listed.setIfInBounds i true) (a.put oi.dst v) w) : wpAnyZ P md ops Q S z (fuel + 1) listed a w :=
  wpAnyZ_first hi hz (Region.noSelect_spec hs) hQ fuel listed a w (Region.free_spec hi hf) (by simpa using hr) hy hS h
/-- One operation alone may come up. -/
theorem wpAnyZ_one {i z : Nat} {o : Oper} {fuel : Nat} {listed : Array Bool} {a : Act} {w : World} (hr : Region.ready md ops listed = [i]) (ho : ops[i]? = some o)
    (h : ∀ K' : Act → World → Prop, Shut (∀ a w, (i ≠ z → S w) → wpAnyZ P md ops Q S z fuel (listed.setIfInBounds i true) a w → K' a w) → if Region.wanted o (yielded ops a.tmps) = true then Oper.wp P o a w K' Q else K' (a.put o.dst undef) w) : wpAnyZ P md ops Q S z (fuel + 1) listed a w :=
  by
  refine ⟨fun h0 => (by rw [hr] at h0; cases h0), fun j hj => ?_⟩
  rw [hr] at hj
  have : j = i := by simpa using hj
  subst this
  exact wpOp_step ho (fun K' hK => h K' (fun a w hS hW => hK a w ⟨hS, hW⟩))
theorem wpAnyZ_done {z : Nat} {listed : Array Bool} {a : Act} {w : World} (hr : Region.ready md ops listed = []) (h : Q .normal a w) : ∀ fuel, wpAnyZ P md ops Q S z fuel listed a w
  | 0 => ⟨hr, h⟩
  | _ + 1 => ⟨fun _ => h, by rw [hr]; simp⟩
theorem wp_region_Z {id z : Nat} {a : Act} {w : World} (hm : P.follows .mixedOrders = true) (hS : S w.drew)
    (h : S w.drew → wpAnyZ P .any ops Q S z ops.size (Array.replicate ops.size false) a w.drew) : (Code.region id ops true).wp P Q a w :=
  wp_region_any hm (wpAny_of_Z _ _ _ _ (h hS))
/-- The like where S holds behind every operation. -/
theorem wpAnyH_one {i : Nat} {o : Oper} {fuel : Nat} {listed : Array Bool} {a : Act} {w : World} (hr : Region.ready md ops listed = [i]) (ho : ops[i]? = some o)
    (h : ∀ K' : Act → World → Prop, Shut (∀ a w, S w → wpAnyH P md ops Q S fuel (listed.setIfInBounds i true) a w → K' a w) → if Region.wanted o (yielded ops a.tmps) = true then Oper.wp P o a w K' Q else K' (a.put o.dst undef) w) : wpAnyH P md ops Q S (fuel + 1) listed a w :=
  wpAnyH_ready hr (by simp) (AllReadyH.cons ho (fun K' hK => h K' (fun a w hS hW => hK a w hS (fun _ => hW))) AllReadyH.nil)
end
end Go.Proofs.YtpiagfmjekcncaaDoor
namespace Go.Proofs.YtpiagfmjekcncaaDoor
open Go.RowKit
theorem build_empty (g b o : Nat) (w : World) (c0 : w.cell? ⟨b, o, none⟩ = some (.int .i64 1)) (hb : b < w.heap.size) :
    Calls Tryd.prog 26 #[.pointer (some ⟨g, 0, none⟩), .pointer (some ⟨b, o, none⟩)] w fun e w' => e = .returned (.agg #[.bool true, .int .u64 0, .int .u64 0]) ∧ Kept (isG g) w w' ∧ Below w.heap.size w w' := by
  have b1 := Blk.new w 71 #[.bool false, .int .u64 0, .int .u64 0]
  have hb1 := (Below.refl w.heap.size w).alloc (Nat.le_refl _) (.cells #[.bool false, .int .u64 0, .int .u64 0] 71)
  have k0 := (hb1.cell (p := ⟨b, o, none⟩) hb).trans c0
  obtain ⟨w1, hw1⟩ : ∃ w1, w1 = w.alloc (.cells #[.bool false, .int .u64 0, .int .u64 0] 71) := ⟨_, rfl⟩
  rw [← hw1] at b1 hb1 k0
  have v0 := Blk.cell b1 0; have v1 := Blk.cell b1 1; have v2 := Blk.cell b1 2
  simp only [List.getElem?_toArray, List.getElem?_cons_zero, List.getElem?_cons_succ] at v0 v1 v2
  have z0 := Blk.frozen b1 0; have z1 := Blk.frozen b1 1; have z2 := Blk.frozen b1 2
  have b5 := Blk.set_ (Blk.set_ (Blk.set_ b1 0 (.bool true)) 1 (.int .u64 0)) 2 (.int .u64 0)
  have HB := Lib.hid (((hb1.setCell (p := ⟨w.heap.size, 0, none⟩) (Nat.le_refl _) (.bool true)).setCell (p := ⟨w.heap.size, 1, none⟩) (Nat.le_refl _) (.int .u64 0)).setCell (p := ⟨w.heap.size, 2, none⟩) (Nat.le_refl _) (.int .u64 0))
  have HD := Lib.hid (And.intro (Blk.cell b5 0) (And.intro (Blk.cell b5 1) (Blk.cell b5 2)))
  have HW1 := Lib.hid hw1
  clear hw1 b1 hb1 b5 c0
  go_enter Tryd.func26, Tryd.ntmps26
  go_upto_region 1 with (fail)
  rw [← HW1.out]
  clear HW1
  go_wp2_with fail
  obtain ⟨d0, d1, d2⟩ := HD.out
  simp at d0 d1 d2
  refine bodyPost_ret (v := .agg #[.bool true, .int .u64 0, .int .u64 0]) (by simp [results, Tryd.results26, go_sem, d0, d1, d2]) rfl ?_
  exact ⟨rfl, Kept.of_below HB.out, HB.out⟩
theorem build_set (g n b o : Nat) (hn : n < 64) (b0 : UInt8) (R H : Nat → Nat) (w : World) (h : AutAt w g n R H) (hR : ∀ b, R b < 18446744073709551616) (hb : b < w.heap.size) (hbg : b ≠ g)
    (c0 : w.cell? ⟨b, o, none⟩ = some (.int .i64 2)) (c1 : w.cell? ⟨b, o + 1, none⟩ = some (.int .u64 (wd (oneS b0.toNat) 0))) (c2 : w.cell? ⟨b, o + 2, none⟩ = some (.int .u64 (wd (oneS b0.toNat) 1))) (c3 : w.cell? ⟨b, o + 3, none⟩ = some (.int .u64 (wd (oneS b0.toNat) 2))) (c4 : w.cell? ⟨b, o + 4, none⟩ = some (.int .u64 (wd (oneS b0.toNat) 3))) :
    Calls Tryd.prog 26 #[.pointer (some ⟨g, 0, none⟩), .pointer (some ⟨b, o, none⟩)] w fun e w' => e = .returned (.agg #[.bool false, .int .u64 ((2 ^ n : Nat) : Int), .int .u64 ((2 ^ n : Nat) : Int)]) ∧ AutAt w' g (n + 1) (updN R b0.toNat (R b0.toNat ||| 2 ^ n)) H ∧ Kept (isG g) w w' := by
  have hg := h.lt
  have b1 := Blk.new w 71 #[.bool false, .int .u64 0, .int .u64 0]
  have hK1 := (Kept.refl (isG g) w).alloc (.cells #[.bool false, .int .u64 0, .int .u64 0] 71)
  have hA1 := h.alloc (.cells #[.bool false, .int .u64 0, .int .u64 0] 71)
  have k0 := (hK1.cell (p := ⟨b, o, none⟩) hb hbg).trans c0
  have k1 := (hK1.cell (p := ⟨b, o + 1, none⟩) hb hbg).trans c1
  have k2 := (hK1.cell (p := ⟨b, o + 2, none⟩) hb hbg).trans c2
  have k3 := (hK1.cell (p := ⟨b, o + 3, none⟩) hb hbg).trans c3
  have k4 := (hK1.cell (p := ⟨b, o + 4, none⟩) hb hbg).trans c4
  obtain ⟨w1, hw1⟩ : ∃ w1, w1 = w.alloc (.cells #[.bool false, .int .u64 0, .int .u64 0] 71) := ⟨_, rfl⟩
  rw [← hw1] at b1 hK1 hA1 k0 k1 k2 k3 k4
  have HL := Lib.hid (letter_any g n hn b0 R H w1 hA1 hR)
  obtain ⟨z, hz⟩ : ∃ z, z = 2 ^ n := ⟨_, rfl⟩
  obtain ⟨R2, hR2⟩ : ∃ R2, R2 = updN R b0.toNat (R b0.toNat ||| 2 ^ n) := ⟨_, rfl⟩
  rw [← hR2, ← hz] at HL
  rw [← hR2, ← hz]
  have HB1 := Lib.hid b1
  have HK1 := Lib.hid hK1
  have HW1 := Lib.hid hw1
  clear hw1 b1 hK1 hA1 c0 c1 c2 c3 c4 hz hR2 hR h
  go_enter Tryd.func26, Tryd.ntmps26
  go_upto_region 1 with (fail)
  rw [← HW1.out]
  clear HW1
  go_wp2_with fail
  refine HL.out.mono ?_
  rintro ee w2 ⟨rfl, hA2, hK2⟩
  have hZ := HB1.out.kept hK2 (fun e => by have e' : w.heap.size = g := e; omega)
  have v0 := Blk.cell hZ 0; have v1 := Blk.cell hZ 1; have v2 := Blk.cell hZ 2
  simp only [List.getElem?_toArray, List.getElem?_cons_zero, List.getElem?_cons_succ] at v0 v1 v2
  have z0 := Blk.frozen hZ 0; have z1 := Blk.frozen hZ 1; have z2 := Blk.frozen hZ 2
  have b5 := Blk.set_ (Blk.set_ (Blk.set_ hZ 0 (.bool false)) 1 (.int .u64 z)) 2 (.int .u64 z)
  have HA := Lib.hid (((hA2.far (p := ⟨w.heap.size, 0, none⟩) (by show g ≠ w.heap.size; omega) (.bool false)).far (p := ⟨w.heap.size, 1, none⟩) (by show g ≠ w.heap.size; omega) (.int .u64 z)).far (p := ⟨w.heap.size, 2, none⟩) (by show g ≠ w.heap.size; omega) (.int .u64 z))
  have HK := Lib.hid ((((HK1.out.then_ hK2).setCell (p := ⟨w.heap.size, 0, none⟩) (.inr (Nat.le_refl _)) (.bool false)).setCell (p := ⟨w.heap.size, 1, none⟩) (.inr (Nat.le_refl _)) (.int .u64 z)).setCell (p := ⟨w.heap.size, 2, none⟩) (.inr (Nat.le_refl _)) (.int .u64 z))
  have HD := Lib.hid (And.intro (Blk.cell b5 0) (And.intro (Blk.cell b5 1) (Blk.cell b5 2)))
  clear hA2 hK2 hZ b5 k0 k1 k2 k3 k4 HL HB1 HK1
  go_wp2_with fail
  obtain ⟨d0, d1, d2⟩ := HD.out
  simp at d0 d1 d2
  refine bodyPost_ret (v := .agg #[.bool false, .int .u64 z, .int .u64 z]) (by simp [results, Tryd.results26, go_sem, d0, d1, d2]) rfl ?_
  exact ⟨rfl, HA.out, HK.out⟩
end Go.Proofs.YtpiagfmjekcncaaDoor
namespace Go.Proofs.YtpiagfmjekcncaaDoor
open Go.RowKit
/-- The positions that read a letter, behind k letters of a text. -/
def rdN (l : List UInt8) : Nat → Nat → Nat
  | 0 => fun _ => 0
  | k + 1 => match l[k]? with
    | some x => updN (rdN l k) x.toNat (rdN l k x.toNat ||| 2 ^ k)
    | none => rdN l k
/-- The position that follows another one. -/
def folN (k : Nat) : Nat → Nat := fun i => if i + 1 < k then 2 ^ (i + 1) else 0
def fxN (k : Nat) : Nat := if k = 0 then 0 else 1
def lxN (k : Nat) : Nat := if k = 0 then 0 else 2 ^ (k - 1)
theorem rdN_lt (l : List UInt8) : ∀ k b, rdN l k b < 2 ^ k
  | 0, b => by unfold rdN; omega
  | k + 1, b => by
    have h2 : 2 ^ k < 2 ^ (k + 1) := Nat.pow_lt_pow_right (by omega) (by omega)
    cases hx : l[k]? with
    | none => rw [rdN, hx]; exact Nat.lt_trans (rdN_lt l k _) h2
    | some x =>
      rw [rdN, hx]
      show updN (rdN l k) x.toNat (rdN l k x.toNat ||| 2 ^ k) b < _
      unfold updN
      split
      · exact Nat.or_lt_two_pow (Nat.lt_trans (rdN_lt l k _) h2) h2
      · exact Nat.lt_trans (rdN_lt l k _) h2
theorem pow_le_64 {k : Nat} (hk : k ≤ 64) : 2 ^ k ≤ 18446744073709551616 := by
  have := Nat.pow_le_pow_right (n := 2) (by omega) hk
  simpa using this
theorem rdN_64 {l : List UInt8} {k : Nat} (hk : k ≤ 64) (b : Nat) : rdN l k b < 18446744073709551616 := Nat.lt_of_lt_of_le (rdN_lt l k b) (pow_le_64 hk)
theorem folN_step {k : Nat} (hk : 1 ≤ k) : updN (folN k) (k - 1) (folN k (k - 1) ||| 2 ^ k) = folN (k + 1) := by
  funext i
  unfold updN folN
  by_cases h : i = k - 1
  · subst h
    rw [if_pos rfl, if_neg (by omega), if_pos (by omega), Nat.zero_or, show k - 1 + 1 = k by omega]
  · rw [if_neg h]
    by_cases h2 : i + 1 < k
    · rw [if_pos h2, if_pos (by omega)]
    · rw [if_neg h2, if_neg (by omega)]
theorem folN_0 : folN 1 = folN 0 := by
  funext i
  unfold folN
  rw [if_neg (by omega), if_neg (by omega)]
theorem folN_lt {k : Nat} (hk : k ≤ 64) (i : Nat) : folN k i < 18446744073709551616 := by
  unfold folN
  split
  · rename_i h
    exact Nat.pow_lt_pow_right (n := 64) (by omega) (by omega)
  · omega
theorem join_lit (k : Nat) (hk : k < 64) (g n : Nat) (R : Nat → Nat) (w : World) (h : AutAt w g n R (folN k)) (hT : TzAt w) (hgt : g ≠ 0) :
    Calls Tryd.prog 45 #[.pointer (some ⟨g, 0, none⟩), .agg #[.bool (decide (k = 0)), .int .u64 (fxN k : Nat), .int .u64 (lxN k : Nat)], .agg #[.bool false, .int .u64 ((2 ^ k : Nat) : Int), .int .u64 ((2 ^ k : Nat) : Int)]] w
      fun e w' => e = .returned (.agg #[.bool false, .int .u64 (fxN (k + 1) : Nat), .int .u64 (lxN (k + 1) : Nat)]) ∧ AutAt w' g n R (folN (k + 1)) ∧ Kept (isG g) w w' := by
  have hp : 2 ^ k < 18446744073709551616 := Nat.pow_lt_pow_right (by omega) hk
  by_cases h0 : k = 0
  · subst h0
    have := join_start 1 1 g n R (folN 0) w h (by omega)
    rw [folN_0]
    exact this
  · have := join_step (k - 1) 1 (by omega) (2 ^ k) (2 ^ k) g n R (folN k) w h hT hgt hp (folN_lt (by omega) _)
    rw [folN_step (by omega)] at this
    have e1 : decide (k = 0) = false := decide_eq_false h0
    have e2 : fxN k = 1 := if_neg h0
    have e3 : lxN k = 2 ^ (k - 1) := if_neg h0
    have e4 : fxN (k + 1) = 1 := rfl
    have e5 : lxN (k + 1) = 2 ^ k := rfl
    rw [e1, e2, e3, e4, e5]
    exact this
/-- The parts of a sequence of single letters, in memory. -/
def LitAt (w : World) (b' o' : Nat) (l : List UInt8) : Prop := b' < w.heap.size ∧ ∀ (i : Nat) (x : UInt8), l[i]? = some x →
  w.cell? ⟨b', o' + i * 8, none⟩ = some (.int .i64 2) ∧ w.cell? ⟨b', o' + i * 8 + 1, none⟩ = some (.int .u64 (wd (oneS x.toNat) 0)) ∧ w.cell? ⟨b', o' + i * 8 + 2, none⟩ = some (.int .u64 (wd (oneS x.toNat) 1)) ∧ w.cell? ⟨b', o' + i * 8 + 3, none⟩ = some (.int .u64 (wd (oneS x.toNat) 2)) ∧ w.cell? ⟨b', o' + i * 8 + 4, none⟩ = some (.int .u64 (wd (oneS x.toNat) 3))
theorem LitAt.kept {F : Nat → Prop} {w w' : World} {b' o' : Nat} {l : List UInt8} (h : LitAt w b' o' l) (k : Kept F w w') (hb : ¬ F b') : LitAt w' b' o' l :=
  ⟨Nat.lt_of_lt_of_le h.1 k.size, fun i x hx => by
    obtain ⟨h0, h1, h2, h3, h4⟩ := h.2 i x hx
    exact ⟨(k.cell (p := ⟨b', _, none⟩) h.1 hb).trans h0, (k.cell (p := ⟨b', _, none⟩) h.1 hb).trans h1, (k.cell (p := ⟨b', _, none⟩) h.1 hb).trans h2, (k.cell (p := ⟨b', _, none⟩) h.1 hb).trans h3, (k.cell (p := ⟨b', _, none⟩) h.1 hb).trans h4⟩⟩
set_option maxRecDepth 100000 in
set_option maxHeartbeats 8000000 in
theorem build_seq (l : List UInt8) (hl : l.length ≤ 64) (g b o b' o' c : Nat) (w : World) (h : AutAt w g 0 (rdN l 0) (folN 0)) (hT : TzAt w) (hgt : g ≠ 0) (hb : b < w.heap.size) (hbg : b ≠ g) (hbg' : b' ≠ g)
    (c0 : w.cell? ⟨b, o, none⟩ = some (.int .i64 3)) (c7 : w.cell? ⟨b, o + 7, none⟩ = some (.slice (some ⟨b', o', none⟩) l.length c)) (hP : LitAt w b' o' l) :
    Calls Tryd.prog 26 #[.pointer (some ⟨g, 0, none⟩), .pointer (some ⟨b, o, none⟩)] w fun e w' => e = .returned (.agg #[.bool (decide (l.length = 0)), .int .u64 (fxN l.length : Nat), .int .u64 (lxN l.length : Nat)]) ∧ AutAt w' g l.length (rdN l l.length) (folN l.length) ∧ Kept (isG g) w w' := by
  have hg := h.lt
  obtain ⟨nl, hnl⟩ : ∃ nl, nl = l.length := ⟨_, rfl⟩
  rw [← hnl] at hl c7 ⊢
  have HNL := Lib.hid hnl
  have b1 : Blk ((w.alloc (.cells #[.bool false, .int .u64 0, .int .u64 0] 71)).alloc (.cells #[.bool true, .int .u64 0, .int .u64 0] 71)) w.heap.size 71 #[.bool false, .int .u64 0, .int .u64 0] := Blk.alloc (Blk.new w _ _) _
  have b2 : Blk ((w.alloc (.cells #[.bool false, .int .u64 0, .int .u64 0] 71)).alloc (.cells #[.bool true, .int .u64 0, .int .u64 0] 71)) (w.heap.size + 1) 71 #[.bool true, .int .u64 0, .int .u64 0] := by
    have := Blk.new (w.alloc (.cells #[.bool false, .int .u64 0, .int .u64 0] 71)) 71 #[.bool true, .int .u64 0, .int .u64 0]
    rw [show (w.alloc (.cells #[.bool false, .int .u64 0, .int .u64 0] 71)).heap.size = w.heap.size + 1 by simp] at this
    exact this
  have hK1 := ((Kept.refl (isG g) w).alloc (.cells #[.bool false, .int .u64 0, .int .u64 0] 71))
  have hK2 := hK1.alloc (.cells #[.bool true, .int .u64 0, .int .u64 0] 71)
  have hA1 := h.alloc (.cells #[.bool false, .int .u64 0, .int .u64 0] 71)
  have hA2 := hA1.alloc (.cells #[.bool true, .int .u64 0, .int .u64 0] 71)
  obtain ⟨w1, hw1⟩ : ∃ w1, w1 = w.alloc (.cells #[.bool false, .int .u64 0, .int .u64 0] 71) := ⟨_, rfl⟩
  rw [← hw1] at b1 b2 hK1 hK2 hA2
  have hs1 : w1.heap.size = w.heap.size + 1 := by rw [hw1]; simp
  have e0 := (hK1.cell (p := ⟨b, o, none⟩) hb hbg).trans c0
  have HW1 := Lib.hid hw1
  clear hw1
  obtain ⟨w2, hw2⟩ : ∃ w2, w2 = w1.alloc (.cells #[.bool true, .int .u64 0, .int .u64 0] 71) := ⟨_, rfl⟩
  rw [← hw2] at b1 b2 hK2 hA2
  have HW2 := Lib.hid hw2
  have HT := Lib.hid hT
  have HP := Lib.hid hP
  have C7 := Lib.hid c7
  have e7 := (hK2.cell (p := ⟨b, o + 7, none⟩) hb hbg).trans c7
  have B1 := Lib.hid b1
  have B2 := Lib.hid b2
  have HK2 := Lib.hid hK2
  have HA2 := Lib.hid hA2
  clear hw2 hT hP c0 c7 b1 b2 hK1 hK2 hA1 hA2 h hnl
  go_enter Tryd.func26, Tryd.ntmps26
  go_upto_region 1 with (fail)
  rw [← HW1.out]
  clear HW1
  go_upto_region 6 with (fail)
  rw [← HW2.out]
  clear HW2
  go_wp2_with fail
  go_loopg [6, 30] (nl + 1) (fun f i6 i wr => ∃ k : Nat, k ≤ nl ∧ nl < k + f ∧ i = .int .i64 k ∧ Hid (AutAt wr g k (rdN l k) (folN k)) ∧ Hid (Blk wr (w.heap.size + 1) 71 #[.bool (decide (k = 0)), .int .u64 (fxN k : Nat), .int .u64 (lxN k : Nat)]) ∧ Hid (Blk wr w.heap.size 71 #[.bool false, .int .u64 0, .int .u64 0]) ∧ Hid (Kept (isG g) w wr))
  case atStart => exact ⟨0, Nat.zero_le _, by omega, rfl, HA2, B2, B1, HK2⟩
  case round =>
    obtain ⟨k, hk, hkf, rfl, HA, HF, HZ, HKr⟩ := hrel
    obtain ⟨f, rfl⟩ : ∃ f, gk = f + 1 := ⟨gk - 1, by omega⟩
    clear e0 e7 HA2 B1 B2 HK2
    obtain ⟨wo, hwo⟩ : ∃ wo, wo = wr := ⟨_, rfl⟩
    subst hwo
    have hwos := HKr.out.size
    by_cases hlt : k < nl
    · obtain ⟨x, hx⟩ : ∃ x, l[k]? = some x := ⟨_, List.getElem?_eq_getElem (by rw [← HNL.out]; exact hlt)⟩
      have hP := HP.out.kept HKr.out hbg'
      obtain ⟨p0, p1, p2, p3, p4⟩ := hP.2 k x hx
      have r7 := (HKr.out.cell (p := ⟨b, o + 7, none⟩) hb hbg).trans C7.out
      have hbd := build_set g k b' (o' + k * 8) (by omega) x (rdN l k) (folN k) wo.drew HA.out.drew (fun b => rdN_64 (by omega) b) hP.1 hbg' p0 p1 p2 p3 p4
      have hrd : rdN l (k + 1) = updN (rdN l k) x.toNat (rdN l k x.toNat ||| 2 ^ k) := by rw [rdN, hx]
      rw [← hrd] at hbd
      have hjn := fun (W : World) (hA : AutAt W g (k + 1) (rdN l (k + 1)) (folN k)) (hK : Kept (isG g) w W) => join_lit k (by omega) g (k + 1) (rdN l (k + 1)) W hA (HT.out.kept hK (fun e => hgt e.symm)) hgt
      have hf1 : fxN (k + 1) = 1 := rfl
      have hdk : decide (k + 1 = 0) = false := rfl
      obtain ⟨ex, hex⟩ : ∃ ex, ex = decide (k = 0) := ⟨_, rfl⟩
      obtain ⟨fx, hfx⟩ : ∃ fx, fx = fxN k := ⟨_, rfl⟩
      obtain ⟨lx, hlx⟩ : ∃ lx, lx = lxN k := ⟨_, rfl⟩
      obtain ⟨fy, hfy⟩ : ∃ fy, fy = fxN (k + 1) := ⟨_, rfl⟩
      obtain ⟨ly, hly⟩ : ∃ ly, ly = lxN (k + 1) := ⟨_, rfl⟩
      obtain ⟨z, hz⟩ : ∃ z, z = 2 ^ k := ⟨_, rfl⟩
      obtain ⟨R2, hR2⟩ : ∃ R2, R2 = rdN l (k + 1) := ⟨_, rfl⟩
      rw [← hz, ← hR2] at hbd
      simp only [← hz, ← hex, ← hfx, ← hlx, ← hfy, ← hly, ← hR2] at hjn
      rw [← hex, ← hfx, ← hlx] at HF
      have v0 := Blk.cell HF.out 0; have v1 := Blk.cell HF.out 1; have v2 := Blk.cell HF.out 2
      simp only [List.getElem?_toArray, List.getElem?_cons_zero, List.getElem?_cons_succ] at v0 v1 v2
      have HBD := Lib.hid hbd
      have HJN := Lib.hid hjn
      have HFY := Lib.hid hfy
      have HLY := Lib.hid hly
      have HR2 := Lib.hid hR2
      have q0 : (k : Int) < (nl : Int) := by omega
      have q1 : (0 : Int) ≤ (k : Int) := by omega
      clear hbd hjn hrd hx hP p0 p1 p2 p3 p4 hex hfx hlx hfy hly hz hR2 hf1 hdk
      go_upto_region 9 with (fail)
      refine wp_region_noPanic ?_
      refine wp_region_Z (z := 11) (S := (fun w' => w'.cell? ⟨b, o + 7, none⟩ = some (.slice (some ⟨b', o', none⟩) nl c) ∧ w'.cell? ⟨w.heap.size + 1, 0, none⟩ = some (.bool ex) ∧ w'.cell? ⟨w.heap.size + 1, 1, none⟩ = some (.int .u64 fx) ∧ w'.cell? ⟨w.heap.size + 1, 2, none⟩ = some (.int .u64 lx))) (by kernel_rfl) ⟨r7, v0, v1, v2⟩ (fun hHeld => ?_)
      refine wpAnyZ_take (i := 0) (v := ?_) rfl (by kernel_rfl) (by kernel_rfl) (by kernel_rfl) (by kernel_rfl) (fun _ _ _ h => h) (Or.inl ⟨by rfl, ?_⟩) hHeld ?_
      rotate_left
      · intro w' hSw
        (try dsimp only at hSw)
        go_simp <;> with_reducible rfl
      try simp only [Act.put, List.setIfInBounds_toArray, List.set_cons_zero, List.set_cons_succ]
      refine wpAnyZ_take (i := 1) (v := ?_) rfl (by kernel_rfl) (by kernel_rfl) (by kernel_rfl) (by kernel_rfl) (fun _ _ _ h => h) (Or.inl ⟨by rfl, ?_⟩) hHeld ?_
      rotate_left
      · intro w' hSw
        (try dsimp only at hSw)
        go_simp <;> with_reducible rfl
      try simp only [Act.put, List.setIfInBounds_toArray, List.set_cons_zero, List.set_cons_succ]
      refine wpAnyZ_take (i := 2) (v := ?_) rfl (by kernel_rfl) (by kernel_rfl) (by kernel_rfl) (by kernel_rfl) (fun _ _ _ h => h) (Or.inl ⟨by rfl, ?_⟩) hHeld ?_
      rotate_left
      · intro w' hSw
        (try dsimp only at hSw)
        go_simp <;> with_reducible rfl
      try simp only [Act.put, List.setIfInBounds_toArray, List.set_cons_zero, List.set_cons_succ]
      refine wpAnyZ_take (i := 3) (v := ?_) rfl (by kernel_rfl) (by kernel_rfl) (by kernel_rfl) (by kernel_rfl) (fun _ _ _ h => h) (Or.inl ⟨by rfl, ?_⟩) hHeld ?_
      rotate_left
      · intro w' hSw
        (try dsimp only at hSw)
        go_simp <;> with_reducible rfl
      try simp only [Act.put, List.setIfInBounds_toArray, List.set_cons_zero, List.set_cons_succ]
      refine wpAnyZ_take (i := 4) (v := ?_) rfl (by kernel_rfl) (by kernel_rfl) (by kernel_rfl) (by kernel_rfl) (fun _ _ _ h => h) (Or.inl ⟨by rfl, ?_⟩) hHeld ?_
      rotate_left
      · intro w' hSw
        (try dsimp only at hSw)
        go_simp <;> with_reducible rfl
      try simp only [Act.put, List.setIfInBounds_toArray, List.set_cons_zero, List.set_cons_succ]
      refine wpAnyZ_take (i := 5) (v := ?_) rfl (by kernel_rfl) (by kernel_rfl) (by kernel_rfl) (by kernel_rfl) (fun _ _ _ h => h) (Or.inl ⟨by rfl, ?_⟩) hHeld ?_
      rotate_left
      · intro w' hSw
        (try dsimp only at hSw)
        go_simp <;> with_reducible rfl
      try simp only [Act.put, List.setIfInBounds_toArray, List.set_cons_zero, List.set_cons_succ]
      refine wpAnyZ_take (i := 6) (v := ?_) rfl (by kernel_rfl) (by kernel_rfl) (by kernel_rfl) (by kernel_rfl) (fun _ _ _ h => h) (Or.inl ⟨by rfl, ?_⟩) hHeld ?_
      rotate_left
      · intro w' hSw
        (try dsimp only at hSw)
        go_simp <;> with_reducible rfl
      try simp only [Act.put, List.setIfInBounds_toArray, List.set_cons_zero, List.set_cons_succ]
      refine wpAnyZ_take (i := 7) (v := ?_) rfl (by kernel_rfl) (by kernel_rfl) (by kernel_rfl) (by kernel_rfl) (fun _ _ _ h => h) (Or.inl ⟨by rfl, ?_⟩) hHeld ?_
      rotate_left
      · intro w' hSw
        (try dsimp only at hSw)
        go_simp <;> with_reducible rfl
      try simp only [Act.put, List.setIfInBounds_toArray, List.set_cons_zero, List.set_cons_succ]
      refine wpAnyZ_take (i := 8) (v := ?_) rfl (by kernel_rfl) (by kernel_rfl) (by kernel_rfl) (by kernel_rfl) (fun _ _ _ h => h) (Or.inl ⟨by rfl, ?_⟩) hHeld ?_
      rotate_left
      · intro w' hSw
        (try dsimp only at hSw)
        go_simp <;> with_reducible rfl
      try simp only [Act.put, List.setIfInBounds_toArray, List.set_cons_zero, List.set_cons_succ]
      refine wpAnyZ_one (i := 9) (by kernel_rfl) rfl (fun K hK => ?_)
      go_simp
      go_at_call 26
      refine HBD.out.mono ?_
      rintro e w6 ⟨rfl, hA6, hK6⟩
      have HA6 := Lib.hid hA6
      have HK6 := Lib.hid ((Kept.refl (isG g) wo).drew.then_ hK6)
      have HF6 := Lib.hid (HF.out.kept HK6.out (fun e => by have e' : w.heap.size + 1 = g := e; omega))
      have HZ6 := Lib.hid (HZ.out.kept HK6.out (fun e => by have e' : w.heap.size = g := e; omega))
      have s0 := Blk.cell HF6.out 0; have s1 := Blk.cell HF6.out 1; have s2 := Blk.cell HF6.out 2
      simp only [List.getElem?_toArray, List.getElem?_cons_zero, List.getElem?_cons_succ] at s0 s1 s2
      have r76 := (HK6.out.cell (p := ⟨b, o + 7, none⟩) (Nat.lt_of_lt_of_le hb hwos) hbg).trans r7
      clear hA6 hK6 hHeld
      refine hK.out _ _ (fun _ => ⟨r76, s0, s1, s2⟩) ?_
      clear hK K
      try simp only [Act.put, List.setIfInBounds_toArray, List.set_cons_zero, List.set_cons_succ]
      refine wpAnyZ_one (i := 10) (by kernel_rfl) rfl (fun K hK => ?_)
      go_simp
      go_at_call 45
      refine (HJN.out w6 HA6.out (HKr.out.then_ HK6.out)).mono ?_
      rintro e w7 ⟨rfl, hA7, hK7⟩
      have hF7 := HF6.out.kept hK7 (fun e => by have e' : w.heap.size + 1 = g := e; omega)
      have hZ7 := HZ6.out.kept hK7 (fun e => by have e' : w.heap.size = g := e; omega)
      have hK7' := (HKr.out.then_ HK6.out).then_ hK7
      have s0 := Blk.cell hF7 0; have s1 := Blk.cell hF7 1; have s2 := Blk.cell hF7 2
      simp only [List.getElem?_toArray, List.getElem?_cons_zero, List.getElem?_cons_succ] at s0 s1 s2
      have j0 := Blk.frozen hF7 0; have j1 := Blk.frozen hF7 1; have j2 := Blk.frozen hF7 2
      have r77 := (hK7.cell (p := ⟨b, o + 7, none⟩) (Nat.lt_of_lt_of_le (Nat.lt_of_lt_of_le hb hwos) HK6.out.size) hbg).trans r76
      have HF8 := Lib.hid (Blk.set_ (Blk.set_ (Blk.set_ hF7 0 (.bool false)) 1 (.int .u64 fy)) 2 (.int .u64 ly))
      have HZ8 := Lib.hid (Blk.far (Blk.far (Blk.far hZ7 (p := ⟨w.heap.size + 1, 0, none⟩) (by show w.heap.size ≠ w.heap.size + 1; omega) (.bool false)) (p := ⟨w.heap.size + 1, 1, none⟩) (by show w.heap.size ≠ w.heap.size + 1; omega) (.int .u64 fy)) (p := ⟨w.heap.size + 1, 2, none⟩) (by show w.heap.size ≠ w.heap.size + 1; omega) (.int .u64 ly))
      have HA8 := Lib.hid (((hA7.far (p := ⟨w.heap.size + 1, 0, none⟩) (by show g ≠ w.heap.size + 1; omega) (.bool false)).far (p := ⟨w.heap.size + 1, 1, none⟩) (by show g ≠ w.heap.size + 1; omega) (.int .u64 fy)).far (p := ⟨w.heap.size + 1, 2, none⟩) (by show g ≠ w.heap.size + 1; omega) (.int .u64 ly))
      have HK8 := Lib.hid (((hK7'.setCell (p := ⟨w.heap.size + 1, 0, none⟩) (.inr (by show w.heap.size ≤ w.heap.size + 1; omega)) (.bool false)).setCell (p := ⟨w.heap.size + 1, 1, none⟩) (.inr (by show w.heap.size ≤ w.heap.size + 1; omega)) (.int .u64 fy)).setCell (p := ⟨w.heap.size + 1, 2, none⟩) (.inr (by show w.heap.size ≤ w.heap.size + 1; omega)) (.int .u64 ly))
      clear hA7 hK7 hF7 hZ7 hK7' HA6 HK6 HF6 HZ6
      refine hK.out _ _ (fun _ => ⟨r77, s0, s1, s2⟩) ?_
      clear hK K
      try simp only [Act.put, List.setIfInBounds_toArray, List.set_cons_zero, List.set_cons_succ]
      refine wpAnyZ_one (i := 11) (by kernel_rfl) rfl (fun K hK => ?_)
      go_simp
      refine hK.out _ _ (fun h => absurd rfl h) ?_
      refine wpAnyZ_done (by kernel_rfl) ?_ _
      refine NoPanic.normal ?_
      clear hK K
      try simp only [Act.put, List.setIfInBounds_toArray, List.set_cons_zero, List.set_cons_succ]
      go_wp2_with fail
      go_roundg f
      case measure => omega
      case rel =>
        refine ⟨k + 1, hlt, by omega, rfl, ?_, ?_, HZ8, HK8⟩
        · rw [← HR2.out]; exact HA8
        · rw [show decide (k + 1 = 0) = false from decide_eq_false (by omega), ← HFY.out, ← HLY.out]; exact HF8
    · obtain rfl : k = nl := by omega
      obtain ⟨ex, hex⟩ : ∃ ex, ex = decide (k = 0) := ⟨_, rfl⟩
      obtain ⟨fx, hfx⟩ : ∃ fx, fx = fxN k := ⟨_, rfl⟩
      obtain ⟨lx, hlx⟩ : ∃ lx, lx = lxN k := ⟨_, rfl⟩
      rw [← hex, ← hfx, ← hlx] at HF
      have HEX := Lib.hid hex
      have HFX := Lib.hid hfx
      have HLX := Lib.hid hlx
      have v0 := Blk.cell HF.out 0; have v1 := Blk.cell HF.out 1; have v2 := Blk.cell HF.out 2
      simp only [List.getElem?_toArray, List.getElem?_cons_zero, List.getElem?_cons_succ] at v0 v1 v2
      have z0 := Blk.frozen HZ.out 0; have z1 := Blk.frozen HZ.out 1; have z2 := Blk.frozen HZ.out 2
      have y0 := Blk.cell HZ.out 0; have y1 := Blk.cell HZ.out 1; have y2 := Blk.cell HZ.out 2
      simp only [List.getElem?_toArray, List.getElem?_cons_zero, List.getElem?_cons_succ] at y0 y1 y2
      have b5 := Blk.set_ (Blk.set_ (Blk.set_ HZ.out 0 (.bool ex)) 1 (.int .u64 fx)) 2 (.int .u64 lx)
      have HA9 := Lib.hid (((HA.out.far (p := ⟨w.heap.size, 0, none⟩) (by show g ≠ w.heap.size; omega) (.bool ex)).far (p := ⟨w.heap.size, 1, none⟩) (by show g ≠ w.heap.size; omega) (.int .u64 fx)).far (p := ⟨w.heap.size, 2, none⟩) (by show g ≠ w.heap.size; omega) (.int .u64 lx))
      have HK9 := Lib.hid (((HKr.out.setCell (p := ⟨w.heap.size, 0, none⟩) (.inr (Nat.le_refl _)) (.bool ex)).setCell (p := ⟨w.heap.size, 1, none⟩) (.inr (Nat.le_refl _)) (.int .u64 fx)).setCell (p := ⟨w.heap.size, 2, none⟩) (.inr (Nat.le_refl _)) (.int .u64 lx))
      have HD := Lib.hid (And.intro (Blk.cell b5 0) (And.intro (Blk.cell b5 1) (Blk.cell b5 2)))
      clear b5 hex hfx hlx
      go_wp2_with fail
      obtain ⟨d0, d1, d2⟩ := HD.out
      simp at d0 d1 d2
      refine bodyPost_ret (v := .agg #[.bool ex, .int .u64 fx, .int .u64 lx]) (by simp [results, Tryd.results26, go_sem, d0, d1, d2]) rfl ?_
      rw [← HEX.out, ← HFX.out, ← HLX.out]
      exact ⟨rfl, HA9.out, HK9.out⟩
end Go.Proofs.YtpiagfmjekcncaaDoor
