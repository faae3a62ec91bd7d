/- The walk of plan.typed. -/
import Derived.Test.YtoegklpomlhneaaDoorqOpOf
namespace Go.Proofs.YtoegklpomlhneaaDoor
open Go.RowKit
theorem natInt {a : Int} (h : 0 ≤ a) : ∃ m : Nat, a = m := ⟨a.toNat, by omega⟩
theorem isCmp_cases {s : List UInt8} (h : isCmpT s = true) : s = [61, 61] ∨ s = [33, 61] ∨ s = [60] ∨ s = [60, 61] := by
  unfold isCmpT at h
  simpa using h
theorem tyAt_eq {l : List St} {m : Nat} {s : St} (h : l[m]? = some s) : tyAt l (m : Int) = s.ty := by
  unfold tyAt
  rw [Int.toNat_natCast, h]
/-- The operands of typed. -/
structure TypIn (w : World) (A : Option Addr) (l : List St) (s : St) (As : Option Addr) (o : OpI) (Ao : Option Addr) : Prop where
  pl : PlAt w (fun i => i < w.heap.size) A l
  ar : RdF w (fun i => i < w.heap.size) 1 As s.args.length (s.args.map (Value.int .i64))
  oa : RdF w (fun i => i < w.heap.size) 1 Ao o.args.length (o.args.map (Value.int .i64))
  len : s.args.length = o.args.length
  back : ∀ a ∈ s.args, 0 ≤ a ∧ a < (l.length : Int)
  small : l.length ≤ 100000
set_option maxRecDepth 100000 in
set_option maxHeartbeats 4000000 in
theorem typed_cmp (A : Option Addr) (c : Nat) (l : List St) (s : St) (As : Option Addr) (cs : Nat) (o : OpI) (Ao : Option Addr) (co : Nat) (w : World) (h : TypIn w A l s As o Ao) (hc : isCmpT s.op = true) (h2 : s.args.length = 2) :
    Calls Tryd.prog 73 #[.slice A l.length c, .agg #[.string ⟨s.op.toArray⟩, .slice As s.args.length cs, .int .i64 s.num, .string ⟨s.text.toArray⟩, .int .i64 s.ty], .agg #[.slice Ao o.args.length co, .int .i64 o.res, .bool o.text, .bool o.regex]] w fun e w' => e = .returned (.bool (typedR l s o)) ∧ Below w.heap.size w w' := by
  obtain ⟨op, args, num, text, ty⟩ := s
  obtain ⟨a0, a1, rfl⟩ : ∃ a0 a1, args = [a0, a1] := by
    match args, h2 with
    | [a0, a1], _ => exact ⟨a0, a1, rfl⟩
  obtain ⟨m0, rfl⟩ := natInt (h.back a0 (by simp)).1
  obtain ⟨m1, rfl⟩ := natInt (h.back a1 (by simp)).1
  have hm0 : m0 < l.length := by have := (h.back m0 (by simp)).2; omega
  have hm1 : m1 < l.length := by have := (h.back m1 (by simp)).2; omega
  have hs0 : l[m0]? = some l[m0] := List.getElem?_eq_getElem _
  have hs1 : l[m1]? = some l[m1] := List.getElem?_eq_getElem _
  have hR : typedR l ⟨op, [(m0 : Int), (m1 : Int)], num, text, ty⟩ o = (if l[m0].ty ≠ l[m1].ty then false else if l[m0].ty = 2 then isEqT op else decide (l[m0].ty = 1 ∨ l[m0].ty = 3)) := by
    unfold typedR
    rw [if_pos hc]
    show (if tyAt l (m0 : Int) ≠ tyAt l (m1 : Int) then false else if tyAt l (m0 : Int) = 2 then isEqT op else decide (tyAt l (m0 : Int) = 1 ∨ tyAt l (m0 : Int) = 3)) = _
    rw [tyAt_eq hs0, tyAt_eq hs1]
  obtain ⟨ba, oa, rfl, _, hba, hca0⟩ := RdF.int (zs := [(m0 : Int), (m1 : Int)]) h.ar (k := 0) rfl
  obtain ⟨ba', oa', hae, _, _, hca1⟩ := RdF.int (zs := [(m0 : Int), (m1 : Int)]) h.ar (k := 1) rfl
  injection hae with hae
  injection hae with hae1 hae2
  subst hae1 hae2
  obtain ⟨b, ob, _, _, rfl, _, hb, _, _, _, _, ht0, _⟩ := h.pl.step hs0
  obtain ⟨b', ob', _, _, hpe, _, _, _, _, _, _, ht1, _⟩ := h.pl.step hs1
  injection hpe with hpe
  injection hpe with hpe1 hpe2
  subst hpe1 hpe2
  have hop := isCmp_cases hc
  generalize l[m0].ty = t0 at *
  generalize l[m1].ty = t1 at *
  have hn : (l.length : Int) ≤ 100000 := by have := h.small; omega
  have q0 : (m0 : Int) < (l.length : Int) := by omega
  have q1 : (m1 : Int) < (l.length : Int) := by omega
  have q2 : (0 : Int) ≤ (m0 : Int) := by omega
  have q3 : (0 : Int) ≤ (m1 : Int) := by omega
  have HR := Lib.hid hR
  rw [Nat.add_zero] at hca0
  clear hR h hc h2 hs0 hs1
  rcases hop with rfl | rfl | rfl | rfl
  all_goals
    by_cases e01 : t0 = t1
    · subst e01
      by_cases e2 : t0 = 2
      · subst e2
        go_enter Tryd.func73, Tryd.ntmps73
        go_wp2_with fail
        go_ret
        exact ⟨by rw [HR.out]; rfl, ((Below.refl _ _).alloc (Nat.le_refl _) _).alloc (by simp) _⟩
      · have e3 : (t0 == 2) = false := by simpa using e2
        have HE := Lib.hid e2
        clear e2
        by_cases e1 : t0 = 1
        · subst e1
          go_enter Tryd.func73, Tryd.ntmps73
          go_wp2_with fail
          go_ret
          exact ⟨by rw [HR.out]; rfl, ((Below.refl _ _).alloc (Nat.le_refl _) _).alloc (by simp) _⟩
        · have e4 : (t0 == 1) = false := by simpa using e1
          have HE1 := Lib.hid e1
          clear e1
          go_enter Tryd.func73, Tryd.ntmps73
          go_wp2_with fail
          go_ret
          refine ⟨?_, ((Below.refl _ _).alloc (Nat.le_refl _) _).alloc (by simp) _⟩
          rw [HR.out, if_neg (by simp), if_neg HE.out]
          have := HE1.out
          simp [this]
          try rfl
    · have e3 : (t0 == t1) = false := by simpa using e01
      have e4 : (t0 != t1) = true := by simpa using e01
      have HE := Lib.hid e01
      clear e01
      go_enter Tryd.func73, Tryd.ntmps73
      go_wp2_with fail
      go_ret
      exact ⟨by rw [HR.out, if_pos HE.out]; rfl, ((Below.refl _ _).alloc (Nat.le_refl _) _).alloc (by simp) _⟩
def TypRel (w : World) (stC opC : Array Value) (l : List St) (s : St) (o : OpI) (f : Nat) (i : Value) (wr : World) : Prop := ∃ k : Nat, i = .int .i64 k ∧ k ≤ s.args.length ∧ s.args.length - k < f ∧ Hid (∀ j : Nat, j < k → (s.args.map (tyAt l))[j]? = o.args[j]?) ∧
  Hid (Blk wr w.heap.size 99 stC) ∧ Hid (Blk wr (w.heap.size + 1) 111 opC) ∧ Hid (Below w.heap.size w wr)
theorem typedR_map {l : List St} {s : St} {o : OpI} (hc : isCmpT s.op = false) : typedR l s o = decide (s.args.map (tyAt l) = o.args) := by
  unfold typedR
  rw [if_neg (by rw [hc]; decide)]
theorem isCmp_not {s : List UInt8} (h : isCmpT s = false) : (s == [61, 61]) = false ∧ (s == [33, 61]) = false ∧ (s == [60]) = false ∧ (s == [60, 61]) = false := by
  unfold isCmpT at h
  simp at h
  simpa using h
set_option maxRecDepth 100000 in
set_option maxHeartbeats 4000000 in
theorem typed_map (A : Option Addr) (c : Nat) (l : List St) (s : St) (As : Option Addr) (cs : Nat) (o : OpI) (Ao : Option Addr) (co : Nat) (w : World) (h : TypIn w A l s As o Ao) (hc : isCmpT s.op = false) (hsm : s.args.length ≤ 100000) :
    Calls Tryd.prog 73 #[.slice A l.length c, .agg #[.string ⟨s.op.toArray⟩, .slice As s.args.length cs, .int .i64 s.num, .string ⟨s.text.toArray⟩, .int .i64 s.ty], .agg #[.slice Ao o.args.length co, .int .i64 o.res, .bool o.text, .bool o.regex]] w fun e w' => e = .returned (.bool (typedR l s o)) ∧ Below w.heap.size w w' := by
  obtain ⟨n1, n2, n3, n4⟩ := isCmp_not hc
  have HR := Lib.hid (typedR_map (l := l) (o := o) hc)
  have HH := Lib.hid h
  have hn : (l.length : Int) ≤ 100000 := by have := h.small; omega
  have HLN := Lib.hid h.len
  obtain ⟨nm, hnm⟩ : ∃ nm, nm = s.op := ⟨_, rfl⟩
  obtain ⟨tx, htx⟩ : ∃ tx, tx = s.text := ⟨_, rfl⟩
  rw [← hnm, ← htx]
  rw [← hnm] at n1 n2 n3 n4
  obtain ⟨stC, hst⟩ : ∃ stC : Array Value, stC = #[.string ⟨nm.toArray⟩, .slice As s.args.length cs, .int .i64 s.num, .string ⟨tx.toArray⟩, .int .i64 s.ty] := ⟨_, rfl⟩
  obtain ⟨opC, hopc⟩ : ∃ opC : Array Value, opC = #[.slice Ao o.args.length co, .int .i64 o.res, .bool o.text, .bool o.regex] := ⟨_, rfl⟩
  have HSC := Lib.hid hst
  have HOC := Lib.hid hopc
  have HB1 := Lib.hid (show Blk ((w.alloc (.cells #[.string ⟨nm.toArray⟩, .slice As s.args.length cs, .int .i64 s.num, .string ⟨tx.toArray⟩, .int .i64 s.ty] 99)).alloc (.cells #[.slice Ao o.args.length co, .int .i64 o.res, .bool o.text, .bool o.regex] 111)) w.heap.size 99 stC by rw [hst]; exact (Blk.new _ _ _).alloc _)
  have HB2 := Lib.hid (show Blk ((w.alloc (.cells #[.string ⟨nm.toArray⟩, .slice As s.args.length cs, .int .i64 s.num, .string ⟨tx.toArray⟩, .int .i64 s.ty] 99)).alloc (.cells #[.slice Ao o.args.length co, .int .i64 o.res, .bool o.text, .bool o.regex] 111)) (w.heap.size + 1) 111 opC by
    rw [hopc]
    have := Blk.new (w.alloc (.cells #[.string ⟨nm.toArray⟩, .slice As s.args.length cs, .int .i64 s.num, .string ⟨tx.toArray⟩, .int .i64 s.ty] 99)) 111 #[.slice Ao o.args.length co, .int .i64 o.res, .bool o.text, .bool o.regex]
    simpa using this)
  clear hnm htx hc h hst hopc
  go_enter Tryd.func73, Tryd.ntmps73
  go_wp2_with fail
  go_loopg [54, 8, 9] (s.args.length + 1) (fun f i _ _ wr => TypRel w stC opC l s o f i wr)
  case atStart => exact ⟨0, rfl, by omega, by omega, Lib.hid (fun j hj => absurd hj (by omega)), HB1, HB2, Lib.hid (((Below.refl _ _).alloc (Nat.le_refl _) _).alloc (by simp) _)⟩
  case round =>
    obtain ⟨k, rfl, hk, hkf, HEQ, HX1, HX2, HBW⟩ := hrel
    obtain ⟨f, rfl⟩ : ∃ f, gk = f + 1 := ⟨gk - 1, by omega⟩
    by_cases hlt : k < s.args.length
    · obtain ⟨a, ha⟩ : ∃ a, s.args[k]? = some a := ⟨s.args[k], List.getElem?_eq_getElem hlt⟩
      obtain ⟨ot, hot⟩ : ∃ ot, o.args[k]? = some ot := ⟨o.args[k]'(by rw [← HLN.out]; exact hlt), List.getElem?_eq_getElem _⟩
      have hbk := HH.out.back a (List.mem_of_getElem? ha)
      obtain ⟨m, rfl⟩ := natInt hbk.1
      have hm : m < l.length := by omega
      have hs0 : l[m]? = some l[m] := List.getElem?_eq_getElem _
      obtain ⟨ba, oa, rfl, hba', hba, hca⟩ := RdF.int HH.out.ar ha
      obtain ⟨bo, oo, rfl, hbo', hbo, hco⟩ := RdF.int HH.out.oa hot
      obtain ⟨b, ob, _, _, rfl, hb', hb, _, _, _, _, ht0, _⟩ := HH.out.pl.step hs0
      have x1 := (HBW.out.cell (p := ⟨ba, oa + k, none⟩) hba').trans hca
      have x2 := (HBW.out.cell (p := ⟨bo, oo + k, none⟩) hbo').trans hco
      have x3 := (HBW.out.cell (p := ⟨b, ob + m * 5 + 4, none⟩) hb').trans ht0
      have x4 : wr.cell? ⟨w.heap.size + 1, 0, none⟩ = some (.slice (some ⟨bo, oo, none⟩) o.args.length co) := by rw [HX2.out.cell, HOC.out]; rfl
      have hty : (s.args.map (tyAt l))[k]? = some l[m].ty := by rw [List.getElem?_map, ha]; show some (tyAt l (m : Int)) = _; rw [tyAt_eq hs0]
      generalize l[m].ty = t0 at *
      have q0 : (k : Int) < (s.args.length : Int) := by omega
      have q1 : (m : Int) < (l.length : Int) := by omega
      have q2 : (0 : Int) ≤ (m : Int) := by omega
      have q3 : (k : Int) < (o.args.length : Int) := by rw [← HLN.out]; exact q0
      have q4 : (0 : Int) ≤ (k : Int) := by omega
      have HTY := Lib.hid hty
      have HOT := Lib.hid hot
      clear ha hot hbk hs0 hca hco ht0 hty
      by_cases e0 : t0 = ot
      · subst e0
        go_wp2_with fail
        go_quiet (fail)
        go_wp2_with fail
        go_roundg f
        case measure => omega
        case rel =>
          refine ⟨k + 1, by go_num, by omega, by omega, Lib.hid (fun j hj => ?_), Lib.hid (Blk.drewN HX1.out _), Lib.hid (Blk.drewN HX2.out _), Lib.hid (below_drewN HBW.out _)⟩
          by_cases hjk : j < k
          · exact HEQ.out j hjk
          · obtain rfl : j = k := by omega
            rw [HTY.out, HOT.out]
      · have e1 : (t0 == ot) = false := by simpa using e0
        have e2 : (t0 != ot) = true := by simpa using e0
        have HE := Lib.hid e0
        clear e0
        go_wp2_with fail
        go_quiet (fail)
        go_wp2_with fail
        go_ret
        refine ⟨?_, below_drewN HBW.out _⟩
        rw [HR.out, decide_eq_false (fun e => HE.out (by have h1 := HTY.out; rw [e, HOT.out] at h1; injection h1 with h1; exact h1.symm))]
        rfl
    · have hks : k = s.args.length := by omega
      go_wp2_with fail
      go_ret
      refine ⟨?_, HBW.out⟩
      rw [HR.out, decide_eq_true]
      · rfl
      · apply List.ext_getElem?
        intro j
        by_cases hj : j < k
        · exact HEQ.out j hj
        · rw [List.getElem?_eq_none (by simp; omega), List.getElem?_eq_none (by rw [← HLN.out]; omega)]
theorem typed_any (A : Option Addr) (c : Nat) (l : List St) (s : St) (As : Option Addr) (cs : Nat) (o : OpI) (Ao : Option Addr) (co : Nat) (w : World) (h : TypIn w A l s As o Ao) (hsm : s.args.length ≤ 100000) (h2 : isCmpT s.op = true → s.args.length = 2) :
    Calls Tryd.prog 73 #[.slice A l.length c, .agg #[.string ⟨s.op.toArray⟩, .slice As s.args.length cs, .int .i64 s.num, .string ⟨s.text.toArray⟩, .int .i64 s.ty], .agg #[.slice Ao o.args.length co, .int .i64 o.res, .bool o.text, .bool o.regex]] w fun e w' => e = .returned (.bool (typedR l s o)) ∧ Below w.heap.size w w' := by
  rcases hc : isCmpT s.op with _ | _
  · exact typed_map A c l s As cs o Ao co w h hc hsm
  · exact typed_cmp A c l s As cs o Ao co w h hc (h2 hc)
end Go.Proofs.YtoegklpomlhneaaDoor
