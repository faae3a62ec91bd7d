/- The walk of the document's replace. The walk of the document's rule with and insert, where the arguments of the new step are a fresh row (printed by gen_rwu.py). The walk of the document's rule lencut (printed by gen_rwu.py). The walk of the document's rule matches (printed by gen_rwu.py). Texts stay small under the rules (printed by gen_opx.py out of XOpD). -/
import Derived.Test.YtamhdmkolfmmdaaGreatDoorsbi
import Derived.Test.YtamhdmkolfmmdaaGreatDoorsbg
import Derived.Test.YtamhdmkolfmmdaaGreatDoorsbh
import Derived.Test.YtamhdmkolfmmdaaGreatDoorsaa
import Derived.Test.YtamhdmkolfmmdaaGreatDoorsan
import Derived.Test.YtamhdmkolfmmdaaGreatDoorsbn
set_option linter.unusedVariables false
set_option linter.unusedSimpArgs false
namespace Go.Proofs.YtamhdmkolfmmdaaGreatDoor
open Go.RowKit
set_option maxRecDepth 100000
set_option maxHeartbeats 8000000
def XpRel (w : World) (base gs : Nat) (f0 : Int → Int) (l : List St) (vs : List Value) (N f : Nat) (v : Value) (wr : World) : Prop := ∃ p : Nat, v = .int .i64 p ∧ p ≤ N ∧ N - p < f ∧ Hid (CpX wr base gs (kaj f0 0 p l) vs) ∧ Hid (Below w.heap.size w wr)
def XqRel (w : World) (base gs : Nat) (f0 : Int → Int) (l : List St) (p : Nat) (s : St) (vs : List Value) (f : Nat) (v : Value) (wr : World) : Prop := ∃ k : Nat, v = .int .i64 k ∧ k ≤ s.args.length ∧ s.args.length - k < f ∧ Hid (CpX wr base gs ((kaj f0 0 p l).set p { s with args := kau f0 s.args k }) vs) ∧ Hid (Below w.heap.size w wr)
theorem khE (b o c : Nat) (l : List St) (i j : Nat) (w : World) (h : ArgPl w (some ⟨b, o, none⟩) l) (hb : BdL l) (hcap : l.length ≤ c) (hi : i + 1 = l.length) (hji : j < i) :
  Calls Tryz.prog 143 #[.slice (some ⟨b, o, none⟩) l.length c, .int .i64 i, .int .i64 j] w (kal w (Rf.replaceL l i j)) := by
 obtain ⟨R, hR⟩ := xE (Rf.replaceL l i j)
 rw [← hR]
 have HBT := hD (kds (some ⟨b, o, none⟩) c l w h hb.len j i hji (by omega))
 have hlen := hb.len
 have hR2 : R = if Oz.safeB l j i then some (l.take (j + 1)) else none := by
  rw [hR]
  unfold Rf.replaceL
  rw [if_pos hi]
 obtain ⟨z, hz⟩ := xE (Oz.safeB l j i)
 rw [← hz] at HBT hR2
 have HR := hD hR2
 have htl : (l.take (j + 1)).length = j + 1 := by rw [List.length_take]; omega
 have HCY := hD (fun w1 (hb1 : Below w.heap.size w w1) => (show Calls Tryz.prog 44 #[.slice (some ⟨b, o, none⟩) (l.take (j + 1)).length c] w1 (CyEnd w1 (l.take (j + 1))) from kdy (some ⟨b, o, none⟩) c (l.take (j + 1)) w1 ((h.below hb1).take (j + 1)) ⟨by rw [htl]; omega, fun s hs => hb.arg s (List.mem_of_mem_take hs)⟩ (by omega)))
 have HTL := hD htl
 obtain ⟨n, hn⟩ := xE l.length
 rw [← hn] at hcap hi HBT hlen ⊢
 subst hi
 have hw1 := IntWalk.wrap64_in ((i : Int) + 1 - 1) (by omega)
 have hw1' := IntWalk.wrap64_in (i : Int) (by omega)
 have hw2 := IntWalk.wrap64_in ((j : Int) + 1) (by omega)
 have q0 : (j : Int) + 1 ≤ (c : Int) := by omega
 have q1 : (0 : Int) ≤ (j : Int) + 1 := by omega
 have q2 : ¬ (c = 0) := by omega
 clear h hb hR hR2 hz htl hn hlen hji
 go_enter Tryz.func143, Tryz.ntmps143
 go_wp2_with fail
 refine HBT.out.mono ?_
 rintro e w1 ⟨rfl, hb1⟩
 have HB1 := hD hb1
 have HC1 := hD (HCY.out w1 hb1)
 rw [HTL.out] at HC1
 clear hb1 HBT HCY
 cases z with
 | false =>
  have HRN : Hid (R = none) := hD (by rw [HR.out]; rfl)
  go_wp2_with fail
  go_ret2
  unfold kal
  rw [HRN.out]
  exact ⟨HB1.out, rfl⟩
 | true =>
  have HRN : Hid (R = some (l.take (j + 1))) := hD (by rw [HR.out]; rfl)
  go_wp2_with fail
  refine HC1.out.mono ?_
  rintro e w2 ⟨hb2, gs, cap, vs, he2, hcap2, hx2⟩
  rw [HTL.out] at he2
  subst he2
  have HB2 := hD (HB1.out.trans (hb2.mono HB1.out.size))
  have HX2 := hD hx2
  have HCP := hD hcap2
  clear hb2 hx2 HC1 hcap2
  go_wp2_with fail
  go_ret2
  unfold kal
  rw [HRN.out]
  exact ⟨HB2.out, some ⟨gs, 0, none⟩, cap, by rw [HTL.out]; rfl, HCP.out, HX2.out.arg⟩
theorem kiH (A : Option Addr) (c : Nat) (l : List St) (i j : Nat) (w : World) (h : ArgPl w A l) (hb : BdL l) (hi : i + 1 < l.length) (hji : j < i) :
  Calls Tryz.prog 143 #[.slice A l.length c, .int .i64 i, .int .i64 j] w (kal w (Rf.replaceL l i j)) := by
 obtain ⟨R, hR⟩ := xE (Rf.replaceL l i j)
 rw [← hR]
 have hlen := hb.len
 have hR2 : R = some (Rf.removeL (l.map (Oz.mapA (fRp i j))) i) := by
  rw [hR]
  unfold Rf.replaceL
  rw [if_neg (by omega)]
 have HR := hD hR2
 have HCY := hD (kdy A c l w h hb (by omega))
 have HBB := hD hb.arg
 have hbm : BdL (l.map (Oz.mapA (fRp i j))) := ⟨by rw [List.length_map]; exact hlen, fun s hs => by
  obtain ⟨t, ht, rfl⟩ := List.mem_map.1 hs
  have := hb.arg t ht
  unfold Oz.mapA
  refine ⟨by rw [List.length_map]; exact this.1, fun a ha => ?_⟩
  obtain ⟨x, hx, rfl⟩ := List.mem_map.1 ha
  have := this.2 x hx
  unfold fRp
  split <;> omega⟩
 have HBM := hD hbm
 have HALL : Hid (kaj (fRp i j) 0 l.length l = l.map (Oz.mapA (fRp i j))) := hD (by rw [kcU (by omega)]; simp)
 obtain ⟨n, hn⟩ := xE l.length
 have HN := hD hn
 rw [← hn] at hi HCY hlen HALL ⊢
 have he : ((i : Int) == (n : Int) - 1) = false := beq_eq_false_iff_ne.2 (by omega)
 have he' : ¬ ((i : Int) = (n : Int) - 1) := by omega
 have hw1 := IntWalk.wrap64_in ((n : Int) - 1) (by omega)
 clear h hb hR hR2 hbm hn
 go_enter Tryz.func143, Tryz.ntmps143
 go_wp2_with fail
 refine HCY.out.mono ?_
 rintro e w1 ⟨hb1, gs, cap, vs, he1, hcap1, hx1⟩
 rw [← HN.out] at he1 hcap1
 subst he1
 have HB1 := hD hb1
 have HX1 : Hid (CpX w1 w.heap.size gs (kaj (fRp i j) 0 0 l) vs) := hD (by rw [kcv]; exact hx1)
 clear hb1 hx1 HCY
 go_wp2_with fail
 go_loopg [9, 10, 30] (n + 1) (fun f _ _ v wr => XpRel w w.heap.size gs (fRp i j) l vs n f v wr)
 case atStart => exact ⟨0, rfl, by omega, by omega, HX1, HB1⟩
 case round =>
  clear HX1 HB1
  obtain ⟨p, rfl, hp, hpf, HE, HB⟩ := hrel
  obtain ⟨f, rfl⟩ : ∃ f, gk = f + 1 := ⟨gk - 1, by omega⟩
  by_cases hlt : p < n
  ·
   obtain ⟨s, hs⟩ : ∃ s, l[p]? = some s := ⟨l[p]'(by rw [← HN.out]; exact hlt), List.getElem?_eq_getElem _⟩
   have hs' : (kaj (fRp i j) 0 p l)[p]? = some s := by have := mapFrom_get (f := fRp i j) (i := 0) (p := p) (l := l); rw [Nat.zero_add] at this; exact this.trans hs
   have hsb := HBB.out s (List.mem_of_getElem? hs)
   obtain ⟨v, hv, ⟨x0, x1, x2, x3, x4⟩, ho⟩ := HE.out.at_ hs'
   obtain ⟨Av, cv, rfl⟩ := kak ho
   have HMS : Hid (kaj (fRp i j) 0 (p + 1) l = (kaj (fRp i j) 0 p l).set p (Oz.mapA (fRp i j) s)) := hD (by have := kcw (f := fRp i j) (i := 0) (p := p) (l := l) (s := s) (by rw [Nat.zero_add]; exact hs); rwa [Nat.zero_add] at this)
   have HV := hD hv
   have HSB := hD hsb.2
   have hal := hsb.1
   have q0 : (p : Int) < (n : Int) := by omega
   have q1 : (0 : Int) ≤ (p : Int) := by omega
   have q2 : (n : Int) ≤ (cap : Int) := by omega
   have HLEN := hD (show p < (kaj (fRp i j) 0 p l).length from (List.getElem?_eq_some_iff.1 hs').1)
   have HSET : Hid (CpX wr w.heap.size gs ((kaj (fRp i j) 0 p l).set p { s with args := kau (fRp i j) s.args 0 }) vs) := hD (by
    rw [kcX]
    have : (kaj (fRp i j) 0 p l).set p s = kaj (fRp i j) 0 p l := by
     apply List.ext_getElem?
     intro q
     by_cases hq : p = q
     ·
      subst hq
      rw [List.getElem?_set_self (List.getElem?_eq_some_iff.1 hs').1, hs']
     ·
      rw [List.getElem?_set_ne hq]
    rw [show ({ s with args := s.args } : St) = s from rfl, this]
    exact HE.out)
   clear hs hs' hv hsb ho HE x0 x2 x3 x4
   go_wp2_with fail
   clear x1
   go_loopg [10, 39] (s.args.length + 1) (fun f _ v wi => XqRel w w.heap.size gs (fRp i j) l p s vs f v wi)
   case atStart => exact ⟨0, rfl, by omega, by omega, HSET, HB⟩
   case round =>
    clear HSET HB
    obtain ⟨k, rfl, hk, hkf, HE, HB⟩ := hrel
    obtain ⟨f2, rfl⟩ : ∃ f2, gk = f2 + 1 := ⟨gk - 1, by omega⟩
    by_cases hkl : k < s.args.length
    ·
     obtain ⟨a, ha⟩ : ∃ a, s.args[k]? = some a := ⟨s.args[k], List.getElem?_eq_getElem hkl⟩
     have hab := HSB.out a (List.mem_of_getElem? ha)
     obtain ⟨q, c2, hv2, hca, hfz, hbq, hset⟩ := HE.out.setArg (i := p) (k := k) (List.getElem?_set_self HLEN.out) HV.out (show k < (kau (fRp i j) s.args k).length by rw [kcC]; exact hkl) (j : Int)
     injection hv2 with hA hlen2 hcc
     clear hlen2
     subst hA hcc
     have y5 := hca a (argsTo_get.trans ha)
     have k1 := (HE.out.cells p _ _ (List.getElem?_set_self HLEN.out) HV.out).2.1
     have p0 : (k : Int) < (s.args.length : Int) := by omega
     have p1 : (0 : Int) ≤ (k : Int) := by omega
     by_cases hia : a = (i : Int)
     ·
      have hfa : fRp i j a = (j : Int) := if_pos hia
      have e0 : (a == (i : Int)) = true := beq_iff_eq.2 hia
      have HES : Hid (CpX (wr.setCell ⟨q, k, none⟩ (.int .i64 j)) w.heap.size gs ((kaj (fRp i j) 0 p l).set p { s with args := kau (fRp i j) s.args (k + 1) }) vs) := hD (by
       have h := hset
       rw [List.set_set] at h
       rw [kcl ha, hfa]
       exact h)
      have HBS := hD (HB.out.setCell (p := ⟨q, k, none⟩) hbq (.int .i64 j))
      clear ha hab hca hset
      go_wp2_with fail
      go_roundg f2
      case measure => omega
      case rel => exact ⟨k + 1, by go_num, by omega, by omega, HES, HBS⟩
     ·
      have hfa : fRp i j a = a := if_neg hia
      have e0 : (a == (i : Int)) = false := beq_eq_false_iff_ne.2 hia
      have HES : Hid (CpX wr w.heap.size gs ((kaj (fRp i j) 0 p l).set p { s with args := kau (fRp i j) s.args (k + 1) }) vs) := hD (by rw [kcY ha hfa]; exact HE.out)
      clear ha hab hca hset
      go_wp2_with fail
      go_roundg f2
      case measure => omega
      case rel => exact ⟨k + 1, by go_num, by omega, by omega, HES, HB⟩
    ·
     have hkk : k = s.args.length := by omega
     subst hkk
     have p0 : ¬ ((s.args.length : Int) < (s.args.length : Int)) := by omega
     have HEE : Hid (CpX wr w.heap.size gs (kaj (fRp i j) 0 (p + 1) l) vs) := hD (by
      have h := HE.out
      rw [kdl] at h
      rw [HMS.out]
      exact h)
     go_wp2_with fail
     go_roundg f
     case measure => omega
     case rel => exact ⟨p + 1, by go_num, by omega, by omega, HEE, HB⟩
  ·
   have hpd : p = n := by omega
   subst hpd
   have q0 : ¬ ((p : Int) < (p : Int)) := by omega
   have hRM := kcR (some ⟨gs, 0, none⟩) cap (l.map (Oz.mapA (fRp i j))) wr (by have := HE.out.arg; rwa [HALL.out] at this) HBM.out i (by rw [List.length_map, ← HN.out]; omega)
   rw [List.length_map, ← HN.out] at hRM
   have HRM := hD hRM
   clear hRM
   go_wp2_with fail
   refine HRM.out.mono ?_
   rintro e w2 ⟨hb2, A2, c2, he2, hc2, hp2⟩
   obtain ⟨L, hL⟩ := xE (Rf.removeL (l.map (Oz.mapA (fRp i j))) i)
   rw [← hL] at he2 hc2 hp2
   subst he2
   have HB2 := hD (HB.out.trans (hb2.mono HB.out.size))
   have HP2 := hD hp2
   have HC2 := hD hc2
   have HLL := hD hL
   obtain ⟨m, hm⟩ := xE L.length
   rw [← hm]
   have HM := hD hm
   clear hb2 hp2 hc2 hL hm HRM
   go_wp2_with fail
   go_ret2
   unfold kal
   rw [HR.out, ← HLL.out]
   exact ⟨HB2.out, A2, c2, by rw [HM.out]; rfl, HC2.out, HP2.out⟩
theorem kbN (A : Option Addr) (c : Nat) (l : List St) (i j : Nat) (w : World) (h : ArgPl w A l) (hb : BdL l) (hcap : l.length ≤ c) (hi : i < l.length) (hji : j < i) :
  Calls Tryz.prog 143 #[.slice A l.length c, .int .i64 i, .int .i64 j] w (kal w (Rf.replaceL l i j)) := by
 by_cases h1 : i + 1 = l.length
 ·
  obtain ⟨b, o, _, _, hA, _⟩ := h i _ (List.getElem?_eq_getElem hi)
  subst hA
  exact khE b o c l i j w h hb hcap h1 hji
 ·
  exact kiH A c l i j w h hb (by omega) hji
theorem kd9 (b o c : Nat) (l : List St) (i : Nat) (op : List UInt8) (xs : List Int) (num : Int) (text : List UInt8) (ty : Int) (w : World) (h : ArgPl w (some ⟨b, o, none⟩) l) (hb : BdL l) (hi : i < l.length) (cells : Array Value) (hc : cells.toList = xs.map (Value.int .i64)) (m : Nat) (hm : m = xs.length) :
  Calls Tryz.prog 144 #[.slice (some ⟨b, o, none⟩) l.length c, .int .i64 i, .agg #[.string ⟨op.toArray⟩, .slice (some ⟨w.heap.size, 0, none⟩) m m, .int .i64 num, .string ⟨text.toArray⟩, .int .i64 ty]] (w.alloc (.cells cells 3)) (kbd (w.alloc (.cells cells 3)) (l.set i ⟨op, xs, num, text, ty⟩)) := by
 subst hm
 have hz : cells.size = xs.length := by rw [← Array.length_toList, hc, List.length_map]
 have hr := Reads.of_alloc w cells 3 (B := (w.alloc (.cells cells 3)).heap.size) (by simp) hz
 rw [hc] at hr
 exact kb3 (some ⟨b, o, none⟩) c l i ⟨op, xs, num, text, ty⟩ _ _ _ (h.below (kaa w _)) hb hi hr
theorem kdx (A : Option Addr) (c : Nat) (l : List St) (i : Nat) (op : List UInt8) (xs : List Int) (num : Int) (text : List UInt8) (ty : Int) (w : World) (h : ArgPl w A l) (hb : BdL l) (hi : i < l.length) (cells : Array Value) (hc : cells.toList = xs.map (Value.int .i64)) (m : Nat) (hm : m = xs.length) :
  Calls Tryz.prog 151 #[.slice A l.length c, .int .i64 i, .agg #[.string ⟨op.toArray⟩, .slice (some ⟨w.heap.size, 0, none⟩) m m, .int .i64 num, .string ⟨text.toArray⟩, .int .i64 ty]] (w.alloc (.cells cells 3)) (kbd (w.alloc (.cells cells 3)) (Rf.insertL l i ⟨op, xs, num, text, ty⟩)) := by
 subst hm
 have hz : cells.size = xs.length := by rw [← Array.length_toList, hc, List.length_map]
 have hr := Reads.of_alloc w cells 3 (B := (w.alloc (.cells cells 3)).heap.size) (by simp) hz
 rw [hc] at hr
 exact kiE A c l i ⟨op, xs, num, text, ty⟩ _ _ _ (h.below (kaa w _)) hb hi hr
theorem kdT (l : List St) (j : Nat) (x : St) : (Rf.insertL l j x).length = l.length + 1 := by
 unfold Rf.insertL
 rw [List.length_append, List.length_cons, List.length_map, List.length_map, List.length_take, List.length_drop]
 omega
theorem kiD (A : Option Addr) (c : Nat) (l : List St) (i : Nat) (s : St) (w : World) (h : ArgPl w A l) (hcap : l.length ≤ c) (hc : kac l = 0) (hs : l[i]? = some s) :
  Calls Tryz.prog 106 #[.slice A l.length c, .int .i64 i] w (kal w (Rf.lenCutL l i)) := by
 have t18q1 := True.intro
 exact y6
theorem khD (A : Option Addr) (c : Nat) (l : List St) (i : Nat) (s : St) (w : World) (h : ArgPl w A l) (hcap : l.length ≤ c) (hc : kac l = 0) (hs : l[i]? = some s) :
  Calls Tryz.prog 104 #[.slice A l.length c, .int .i64 i] w (kal w (Rf.matchesL l i)) := by
 have hil := (gH hs).1
 have _ := hcap
 obtain ⟨b, o, rfl⟩ := h.base (by omega)
 have hbn := kc6 hc
 have hlen := hbn.1
 have hne : s.op = Oz.oSize → 0 < s.args.length := fun e => by
  obtain ⟨o', f⟩ := ka2 hc hs
  have h1 := f.op
  rw [e] at h1
  have h2 : o'.args.length ≠ 0 := by
   have h3 : (opR Oz.oSize).map (fun o => decide (o.args.length = 0)) = some false := by show (_ : Option Bool) = _; kernel_rfl
   rw [h1] at h3
   exact of_decide_eq_false (Option.some.inj h3)
  rw [f.len]
  omega
 obtain ⟨R, hR⟩ := xE (Rf.matchesL l i)
 rw [← hR]
 unfold Rf.matchesL at hR
 have hov := kdt b o c l i s Oz.oSize Oz.oFind w h hc hs hne
 obtain ⟨O, hO⟩ := xE (Rf.overL l i Oz.oSize Oz.oFind)
 rw [← hO] at hov hR
 obtain ⟨n, hn⟩ := xE l.length
 have HN := hD hn
 have HB0 := hD (Below.refl w.heap.size w)
 cases O with
 | none =>
  have HRN : Hid (R = none) := hD hR
  have HOV := hD (show Calls Tryz.prog 149 #[.slice (some ⟨b, o, none⟩) l.length c, .int .i64 i, .string ⟨#[115, 105, 122, 101]⟩, .string ⟨#[102, 105, 110, 100]⟩] w fun e w' => e = .returned (.int .i64 (-1)) ∧ Below w.heap.size w w' from hov)
  rw [← hn] at HOV ⊢
  clear h hcap hc hs hil hbn hne hR hov hO hn
  go_enter Tryz.func104, Tryz.ntmps104
  exact z8
 | some j =>
  obtain ⟨h0, t, ht, hji, htb, hj, ha, hat⟩ := keH hc hs hne hO.symm
  dsimp only at hR
  rw [hat] at hR
  have HOV := hD (show Calls Tryz.prog 149 #[.slice (some ⟨b, o, none⟩) l.length c, .int .i64 i, .string ⟨#[115, 105, 122, 101]⟩, .string ⟨#[102, 105, 110, 100]⟩] w fun e w' => e = .returned (.int .i64 (j : Int)) ∧ Below w.heap.size w w' from hov)
  have t521q1 := True.intro
  exact y78
def TxB (l : List St) : Prop := ∀ s ∈ l, s.text.length ≤ 4611686018427387903
theorem kf2 {f : Int → Int} {l : List St} (h : TxB l) : TxB (l.map (Oz.mapA f)) := fun s hs => by
 obtain ⟨t, ht, rfl⟩ := List.mem_map.1 hs
 exact h t ht
theorem kf3 {a b : List St} (h : TxB a) (k : TxB b) : TxB (a ++ b) := fun s hs => (List.mem_append.1 hs).elim (h s) (k s)
theorem kea {l : List St} (h : TxB l) (k : Nat) : TxB (l.take k) := fun s hs => h s (List.mem_of_mem_take hs)
theorem kfn {l : List St} (h : TxB l) (k : Nat) : TxB (l.drop k) := fun s hs => h s (List.mem_of_mem_drop hs)
theorem kdb {l : List St} (h : TxB l) (i : Nat) : TxB (Oz.removeR l i) := kf3 (kea h i) (kf2 (kfn h (i + 1)))
theorem keb {l : List St} (h : TxB l) (i : Nat) {s : St} (hs : s.text.length ≤ 4611686018427387903) : TxB (Oz.insertR l i s) := kf3 (kea h i) (fun t ht => by
 rcases List.mem_cons.1 ht with rfl | ht
 ·
  exact hs
 ·
  exact kf2 (kfn h i) t ht)
theorem kb9 {l : List St} (h : TxB l) (i : Nat) {s : St} (hs : s.text.length ≤ 4611686018427387903) : TxB (l.set i s) := fun t ht => by
 rcases List.mem_or_eq_of_mem_set ht with h1 | rfl
 ·
  exact h t h1
 ·
  exact hs
theorem kaJ {l l' : List St} (h : TxB l) {i j : Nat} (hr : Oz.replaceR l i j = some l') : TxB l' := by
 unfold Oz.replaceR at hr
 split at hr
 ·
  cases hr
 split at hr
 ·
  injection hr with hr
  subst hr
  exact kea h _
 ·
  injection hr with hr
  subst hr
  exact kdb (kf3 (kea h _) (kf2 (kfn h _))) i
theorem txb_at {l : List St} (h : TxB l) (a : Int) : (Oz.at_ l a).text.length ≤ 4611686018427387903 := by
 unfold Oz.at_
 cases e : l[a.toNat]? with
 | none => show (0 : Nat) ≤ _; omega
 | some s => exact h s (List.mem_of_getElem? e)
section
variable {l l' : List St} (h : TxB l) {i : Nat}
include h
theorem kk9 (hr : Oz.shareAt l i = some l') : TxB l' := by
 unfold Oz.shareAt at hr
 split at hr
 ·
  cases hr
 ·
  exact kaJ h hr
theorem txb_fold (hr : Oz.foldR l i = some l') : TxB l' := by
 have t208q0 := True.intro
 exact y38
theorem kis (hr : Oz.neutralR l i = some l') : TxB l' := by
 unfold Oz.neutralR at hr
 dsimp only at hr
 split at hr
 ·
  rcases kbi hr with hr | hr <;> exact kaJ h (kas hr).2
 split at hr
 ·
  exact kaJ h (kas hr).2
 split at hr
 ·
  rcases kbi hr with hr | hr <;> exact kaJ h (kas hr).2
 split at hr
 ·
  exact kaJ h (kbE hr).2
 split at hr
 ·
  rcases kbi hr with hr | hr <;> exact kaJ h (kas hr).2
 split at hr
 ·
  exact kaJ h (kas hr).2
 split at hr
 ·
  exact kaJ h (kas hr).2
 split at hr
 ·
  exact kaJ h (kbE hr).2
 ·
  cases hr
theorem kjY (hr : Oz.negateR l i = some l') : TxB l' := by
 have t219q0 := True.intro
 exact y39
theorem kj2 (hr : Oz.commonR l i = some l') : TxB l' := by
 unfold Oz.commonR at hr
 dsimp only at hr
 obtain ⟨_, hr⟩ := kbE hr
 injection hr with hr
 subst hr
 exact kb9 h i (Nat.zero_le _)
theorem kit (hr : Oz.matchesR l i = some l') : TxB l' := by
 unfold Oz.matchesR at hr
 split at hr
 ·
  cases hr
 split at hr
 ·
  cases hr
 split at hr
 ·
  cases hr
 ·
  exact kaJ (kb9 h _ (by exact txb_at h _)) hr
theorem kgS (hr : Oz.firstFindR l i = some l') : TxB l' := by
 unfold Oz.firstFindR at hr
 split at hr
 ·
  cases hr
 split at hr
 ·
  cases hr
 split at hr
 ·
  cases hr
 ·
  injection hr with hr
  subst hr
  exact kdb (kb9 h _ (by exact txb_at h _)) _
theorem kj1 (hr : Oz.lenCutR l i = some l') : TxB l' := by
 unfold Oz.lenCutR at hr
 split at hr
 ·
  cases hr
 split at hr
 ·
  cases hr
 split at hr
 ·
  cases hr
 ·
  exact kaJ (kb9 h _ (Nat.zero_le _)) hr
theorem kjZ (hr : Oz.lenSumR l i = some l') : TxB l' := by
 unfold Oz.lenSumR at hr
 split at hr
 ·
  cases hr
 split at hr
 ·
  cases hr
 split at hr
 ·
  cases hr
 ·
  exact kaJ (kb9 (keb (keb h _ (Nat.zero_le _)) _ (Nat.zero_le _)) _ (Nat.zero_le _)) hr
theorem kj0 (hr : Oz.lenRepR l i = some l') : TxB l' := by
 unfold Oz.lenRepR at hr
 split at hr
 ·
  cases hr
 split at hr
 ·
  cases hr
 split at hr
 ·
  cases hr
 ·
  exact kaJ (kb9 (keb h _ (Nat.zero_le _)) _ (Nat.zero_le _)) hr
theorem kjX (hr : Oz.unusedR l i = some l') : TxB l' := by
 unfold Oz.unusedR at hr
 split at hr
 ·
  cases hr
 ·
  injection hr with hr
  subst hr
  exact kdb h _
end
theorem kaW {f : List St → Nat → Option (List St)} {l l' : List St} (hf : ∀ i, f l i = some l' → TxB l') (h : Oz.firstOf f l = some l') : TxB l' := by
 unfold Oz.firstOf at h
 obtain ⟨i, _, hfi⟩ := List.exists_of_findSome?_eq_some h
 exact hf i hfi
theorem kk1 {l l' : List St} (ht : TxB l) {k : Nat} (h : Oz.applyR k l = some l') : TxB l' := by
 unfold Oz.applyR at h
 cases hk : Oz.rulesR[k]? with
 | none => rw [hk] at h; cases h
 | some f =>
  rw [hk] at h
  have hk11 : k < 11 := (gH hk).1
  have hcs : k = 0 ∨ k = 1 ∨ k = 2 ∨ k = 3 ∨ k = 4 ∨ k = 5 ∨ k = 6 ∨ k = 7 ∨ k = 8 ∨ k = 9 ∨ k = 10 := by omega
  rcases hcs with rfl | rfl | rfl | rfl | rfl | rfl | rfl | rfl | rfl | rfl | rfl <;> (injection hk with hk; subst hk)
  ·
   exact kaW (fun i hr => kk9 ht hr) h
  ·
   exact kaW (fun i hr => txb_fold ht hr) h
  ·
   exact kaW (fun i hr => kis ht hr) h
  ·
   exact kaW (fun i hr => kjY ht hr) h
  ·
   exact kaW (fun i hr => kj2 ht hr) h
  ·
   exact kaW (fun i hr => kit ht hr) h
  ·
   exact kaW (fun i hr => kgS ht hr) h
  ·
   exact kaW (fun i hr => kj1 ht hr) h
  ·
   exact kaW (fun i hr => kjZ ht hr) h
  ·
   exact kaW (fun i hr => kj0 ht hr) h
  ·
   exact kaW (fun i hr => kjX ht hr) h
theorem TxB.ok {l : List St} (h : TxB l) : TxOk l := fun s hs => Nat.le_trans (h s hs) (by decide)
end Go.Proofs.YtamhdmkolfmmdaaGreatDoor
