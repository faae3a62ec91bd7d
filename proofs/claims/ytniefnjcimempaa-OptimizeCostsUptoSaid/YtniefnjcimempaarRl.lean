/- The walk of plan.check. The walk of plan.Check. The walks of plan.cost and plan.Cost. -/
import Derived.Test.YtniefnjcimempaarRx3
import Derived.Test.YtniefnjcimempaarRg
namespace Go.Proofs.Ytniefnjcimempaa
open Go.RowKit
theorem opR_cmp {n : List UInt8} {o : OpI} (h : opR n = some o) (hc : isCmpT n = true) : o.args.length = 2 := by
  have h0 : ∀ n, isCmpT n = true → ∃ o, opR n = some o ∧ o.args.length = 2 := fun n hc => by
    rcases isCmp_cases hc with rfl | rfl | rfl | rfl <;> exact ⟨⟨[1, 1], 2, false, false⟩, by show (_ : Option OpI) = _; kernel_rfl, rfl⟩
  obtain ⟨o', h1, h2⟩ := h0 n hc
  rw [h1] at h
  injection h with h
  rw [← h]; exact h2
theorem opR_small {n : List UInt8} {o : OpI} (h : opR n = some o) : o.args.length ≤ 3 := by
  unfold opR at h
  split at h
  · injection h with h; rw [← h]; decide
  split at h
  · injection h with h; rw [← h]; decide
  split at h
  · injection h with h; rw [← h]; decide
  split at h
  · injection h with h; rw [← h]; decide
  split at h
  · injection h with h; rw [← h]; decide
  split at h
  · cases h
  · rename_i q hq
    injection h with h
    rw [← h]
    obtain ⟨S, r⟩ := q
    have := (sig_pos hq).2.2.2
    exact Nat.le_trans (List.length_filter_le _ _) this
def ChkEnd (w : World) (x : Int) (e : Ending) (w' : World) : Prop := e = .returned (errV x) ∧ Below w.heap.size w w'
theorem stepE_none {l : List St} {i : Nat} {s : St} (h : opR s.op = none) : stepE l i s = 4 := by unfold stepE; rw [h]
section
variable {l : List St} {i : Nat} {s : St} {o : OpI} (h : opR s.op = some o)
include h
theorem stepE_len (h1 : s.args.length ≠ o.args.length) : stepE l i s = 4 := by unfold stepE; rw [h]; exact if_pos h1
theorem stepE_arg (h1 : s.args.length = o.args.length) {k : Nat} {a : Int} (ha : s.args[k]? = some a) (hb : a < 0 ∨ (i : Int) ≤ a) : stepE l i s = 4 := by
  unfold stepE; rw [h]
  dsimp only
  rw [if_neg (by simpa using h1), if_pos]
  rw [List.any_eq_true]
  exact ⟨a, List.mem_of_getElem? ha, by simpa using hb⟩
theorem stepE_go (h1 : s.args.length = o.args.length) (h2 : ∀ a ∈ s.args, 0 ≤ a ∧ a < (i : Int)) : stepE l i s = (if s.num < 0 ∨ (0 < s.num ∧ s.op ≠ nNumber) ∨ (s.text ≠ [] ∧ o.text = false) then 4
    else if s.ty ≠ o.res ∨ typedR l s o = false then 12
    else if o.regex = true then patE s.text else 0) := by
  unfold stepE; rw [h]
  dsimp only
  rw [if_neg (by simpa using h1), if_neg]
  rw [List.any_eq_true]
  rintro ⟨a, ha, hb⟩
  have := h2 a ha
  simp at hb
  omega
end
def ChkRel (w : World) (stC opC : Array Value) (Y : Nat) (wb : World) (i : Nat) (s : St) (f : Nat) (v : Value) (wr : World) : Prop := ∃ k : Nat, v = .int .i64 k ∧ k ≤ s.args.length ∧ s.args.length - k < f ∧ Hid (∀ (j : Nat) (a : Int), j < k → s.args[j]? = some a → 0 ≤ a ∧ a < (i : Int)) ∧
  Hid (Blk wr w.heap.size 25 stC) ∧ Hid (Blk wr Y 99 opC) ∧ w.heap.size < Y ∧ Hid (Below w.heap.size w wr) ∧ Hid (Below wb.heap.size wb wr)
set_option maxRecDepth 100000 in
set_option maxHeartbeats 16000000 in
theorem check_any (A : Option Addr) (c : Nat) (l : List St) (i : Nat) (s : St) (w : World) (hs : l[i]? = some s) (hP : PlAt w (fun i => i < w.heap.size) A l) (hn : l.length ≤ 100000) (hsm : s.args.length ≤ 2000000) (htx : s.text.length ≤ 9223372036854775807) :
    Calls Try.prog 33 #[.slice A l.length c, .int .i64 i] w (ChkEnd w (stepE l i s)) := by
  have hil := (List.getElem?_eq_some_iff.1 hs).1
  obtain ⟨b, ob, As, cs, rfl, hbF, hbl, x0, x1, x2, x3, x4, har⟩ := hP.step hs
  have HP := Lib.hid hP
  have HAR := Lib.hid har
  have HS := Lib.hid hs
  obtain ⟨op, args, num, text, ty⟩ := s
  dsimp only at x0 x1 x2 x3 x4 hsm htx HAR
  have q0 : (i : Int) < (l.length : Int) := by omega
  have q1 : (0 : Int) ≤ (i : Int) := by omega
  have hops := op_any op
  have HOPS := Lib.hid hops
  clear hP har hs hops
  go_enter Try.func33, Try.ntmps33
  go_wp2_with fail
  refine (HOPS.out _).mono ?_
  rintro e w1 ⟨hb1, h1⟩
  have HX1 := Lib.hid ((Blk.new w 25 _).below hb1 (by simp))
  have HB1 := Lib.hid ((below_alloc w _).trans (hb1.mono (by simp)))
  have hz1 := hb1.size
  simp at hz1
  have hzz : (w.alloc (.cells #[.string ⟨op.toArray⟩, .slice As args.length cs, .int .i64 num, .string ⟨text.toArray⟩, .int .i64 ty] 25)).heap.size = w.heap.size + 1 := by simp
  rw [hzz] at h1
  clear hb1 x0 x1 x2 x3 x4 hzz
  cases ho : opR op with
  | none =>
    rw [ho] at h1
    have h1 : e = _ := h1
    subst h1
    have HE := Lib.hid (stepE_none (l := l) (i := i) (s := ⟨op, args, num, text, ty⟩) ho)
    clear ho
    go_wp2_with fail
    go_ret
    exact ⟨by rw [HE.out]; rfl, HB1.out.alloc (by omega) _⟩
  | some o =>
    rw [ho] at h1
    obtain ⟨Ao, co, rfl, hro⟩ := h1
    have hol := opR_small ho
    have HO := Lib.hid (show opR (St.mk op args num text ty).op = some o from ho)
    have HRO := Lib.hid hro
    obtain ⟨oargs, ores, otext, oreg⟩ := o
    dsimp only at hol HRO
    clear ho hro
    have HY := Lib.hid (Blk.new w1 99 #[.slice Ao oargs.length co, .int .i64 ores, .bool otext, .bool oreg])
    have HXB := Lib.hid (HX1.out.alloc (.cells #[.slice Ao oargs.length co, .int .i64 ores, .bool otext, .bool oreg] 99))
    have HB2 := Lib.hid (HB1.out.alloc (by omega) (.cells #[.slice Ao oargs.length co, .int .i64 ores, .bool otext, .bool oreg] 99))
    have s0 := HXB.out.cell 0
    have s1 := HXB.out.cell 1
    simp only [List.getElem?_toArray, List.getElem?_cons_zero, List.getElem?_cons_succ] at s0 s1
    by_cases hln : args.length = oargs.length
    · have t1 : ((args.length : Int) == (oargs.length : Int)) = true := by simp; omega
      have t2 : ((args.length : Int) != (oargs.length : Int)) = false := by simp; omega
      have HLN := Lib.hid hln
      clear hln
      go_wp2_with fail
      go_loopg [37, 9] (args.length + 1) (fun f v _ wr => ChkRel w #[.string ⟨op.toArray⟩, .slice As args.length cs, .int .i64 num, .string ⟨text.toArray⟩, .int .i64 ty] #[.slice Ao oargs.length co, .int .i64 ores, .bool otext, .bool oreg] w1.heap.size (w1.alloc (.cells #[.slice Ao oargs.length co, .int .i64 ores, .bool otext, .bool oreg] 99)) i ⟨op, args, num, text, ty⟩ f v wr)
      case atStart => exact ⟨0, rfl, by omega, by show args.length - 0 < _; omega, Lib.hid (fun j a hj => absurd hj (by omega)), HXB, HY, by omega, HB2, Lib.hid (Below.refl _ _)⟩
      case round =>
        clear s0 s1 t1 t2
        obtain ⟨k, rfl, hk, hkf, HGO, HXR, HYR, hwy, HBW, HBB⟩ := hrel
        obtain ⟨f, rfl⟩ : ∃ f, gk = f + 1 := ⟨gk - 1, by omega⟩
        have hk : k ≤ args.length := hk
        have hkf : args.length - k < f + 1 := hkf
        have HGO : Hid (∀ (j : Nat) (a : Int), j < k → args[j]? = some a → 0 ≤ a ∧ a < (i : Int)) := HGO
        by_cases hlt : k < args.length
        · obtain ⟨a, ha⟩ : ∃ a, args[k]? = some a := ⟨args[k], List.getElem?_eq_getElem hlt⟩
          obtain ⟨ba, oa, rfl, hba', hba, hca⟩ := RdF.int HAR.out ha
          have y1 := (HBW.out.cell (p := ⟨ba, oa + k, none⟩) hba').trans hca
          have p0 : (k : Int) < (args.length : Int) := by omega
          have p1 : (0 : Int) ≤ (k : Int) := by omega
          have HA := Lib.hid ha
          clear ha hca
          by_cases hneg : a < 0
          · have p2 : decide (a < 0) = true := by simpa using hneg
            have HE := Lib.hid (stepE_arg (l := l) (i := i) (s := ⟨op, args, num, text, ty⟩) HO.out HLN.out HA.out (.inl hneg))
            clear hneg
            go_wp2_with fail
            go_ret
            exact ⟨by rw [HE.out]; rfl, HBW.out⟩
          · have p2 : decide (a < 0) = false := by simpa using hneg
            obtain ⟨m, rfl⟩ := natInt (by omega : 0 ≤ a)
            by_cases hge : i ≤ m
            · have p3 : decide ((i : Int) ≤ (m : Int)) = true := decide_eq_true (by omega)
              have p4 : decide (i ≤ m) = true := decide_eq_true (by omega)
              have HE := Lib.hid (stepE_arg (l := l) (i := i) (s := ⟨op, args, num, text, ty⟩) HO.out HLN.out HA.out (.inr (by omega)))
              clear hneg hge
              go_wp2_with fail
              go_ret
              exact ⟨by rw [HE.out]; rfl, HBW.out⟩
            · have p3 : decide ((i : Int) ≤ (m : Int)) = false := decide_eq_false (by omega)
              have p4 : decide (i ≤ m) = false := decide_eq_false (by omega)
              have hmi : m < i := by omega
              clear hneg hge
              go_wp2_with fail
              go_roundg f
              case measure => omega
              case rel =>
                refine ⟨k + 1, by go_num, by show k + 1 ≤ args.length; omega, by show args.length - (k + 1) < f; omega, Lib.hid (fun j a hj hja => ?_), HXR, HYR, hwy, HBW, HBB⟩
                by_cases hjk : j < k
                · exact HGO.out j a hjk hja
                · obtain rfl : j = k := by omega
                  have hja : args[j]? = some a := hja
                  rw [HA.out] at hja
                  injection hja with hja
                  omega
        · have hks : k = args.length := by omega
          have HGA : Hid (∀ a ∈ args, 0 ≤ a ∧ a < (i : Int)) := Lib.hid fun a ha => by
            obtain ⟨j, hj⟩ := List.getElem?_of_mem ha
            exact HGO.out j a (by have := (List.getElem?_eq_some_iff.1 hj).1; omega) hj
          have HSE := Lib.hid (stepE_go (l := l) (i := i) (s := ⟨op, args, num, text, ty⟩) HO.out HLN.out HGA.out)
          have s0 := HXR.out.cell 0
          have s1 := HXR.out.cell 1
          have s2 := HXR.out.cell 2
          have s3 := HXR.out.cell 3
          have s4 := HXR.out.cell 4
          have r0 := HYR.out.cell 0
          have r1 := HYR.out.cell 1
          have r2 := HYR.out.cell 2
          have r3 := HYR.out.cell 3
          simp only [List.getElem?_toArray, List.getElem?_cons_zero, List.getElem?_cons_succ] at s0 s1 s2 s3 s4 r0 r1 r2 r3
          have p0 : decide ((k : Int) < (args.length : Int)) = false := by simp; omega
          have p1 : decide (k < args.length) = false := by simp; omega
          clear HGO hlt hks
          by_cases z1 : num < 0
          · have z1' : decide (num < 0) = true := by simpa using z1
            have HBD := Lib.hid (show num < 0 ∨ (0 < num ∧ op ≠ nNumber) ∨ (text ≠ [] ∧ otext = false) from .inl z1)
            clear z1
            go_wp2_with fail
            go_ret
            exact ⟨by rw [HSE.out, if_pos HBD.out]; rfl, HBW.out⟩
          have z1' : decide (num < 0) = false := by simpa using z1
          by_cases z2 : 0 < num ∧ op ≠ nNumber
          · have z2' : decide (0 < num) = true := by simpa using z2.1
            have z3' : (op == [110, 117, 109, 98, 101, 114]) = false := by simpa [nNumber] using z2.2
            have z4' : (op != [110, 117, 109, 98, 101, 114]) = true := by simpa [nNumber] using z2.2
            have HBD := Lib.hid (show num < 0 ∨ (0 < num ∧ op ≠ nNumber) ∨ (text ≠ [] ∧ otext = false) from .inr (.inl z2))
            clear z1 z2
            go_wp2_with fail
            go_ret
            exact ⟨by rw [HSE.out, if_pos HBD.out]; rfl, HBW.out⟩
          have HZ1 := Lib.hid z1
          have HZ2 := Lib.hid z2
          have hnum : (0 < num ∧ op = nNumber) ∨ num = 0 := by
            by_cases h : 0 < num
            · exact .inl ⟨h, Decidable.byContradiction fun h' => z2 ⟨h, h'⟩⟩
            · exact .inr (by omega)
          clear z1 z2
          have htxt : text = [] ∨ text ≠ [] := Decidable.em _
          rcases hnum with ⟨z2, z3⟩ | z2
          all_goals rcases htxt with z5 | z5
          · have z2' : decide (0 < num) = true := by simpa using z2
            have z3' : (op == [110, 117, 109, 98, 101, 114]) = true := by simpa [nNumber] using z3
            have z4' : (op != [110, 117, 109, 98, 101, 114]) = false := by simpa [nNumber] using z3
            subst z5
            clear z2 z3
            have HSE2 : Hid (stepE l i ⟨op, args, num, [], ty⟩ = if ty ≠ ores ∨ typedR l ⟨op, args, num, [], ty⟩ ⟨oargs, ores, otext, oreg⟩ = false then 12 else if oreg = true then patE [] else 0) := Lib.hid (by rw [HSE.out, if_neg (fun h => h.elim HZ1.out (fun h => h.elim HZ2.out (fun h => h.1 rfl)))])
            clear HSE
            by_cases e1 : ty = ores
            · subst e1
              have hin : TypIn wr (some ⟨b, ob, none⟩) l ⟨op, args, num, [], ty⟩ As ⟨oargs, ty, otext, oreg⟩ Ao := ⟨HP.out.keep (fun i (hi : i < _) _ => HBW.out.block i hi) HBW.out.size (fun _ hi _ => Nat.lt_of_lt_of_le hi HBW.out.size), HAR.out.keep (fun i (hi : i < _) _ => HBW.out.block i hi) HBW.out.size (fun _ hi _ => Nat.lt_of_lt_of_le hi HBW.out.size), HRO.out.keep (fun i hi _ => (HBB.out.block i (by have := hi.2; simp; omega)).trans (Below.heap_alloc w1 _ i hi.2)) (by have := HBB.out.size; simp at this; omega) (fun i hi _ => by have := HBB.out.size; simp at this; have := hi.2; omega), HLN.out, fun a ha => by have := HGA.out a ha; omega, hn⟩
              have hty := typed_any (some ⟨b, ob, none⟩) c l ⟨op, args, num, [], ty⟩ As cs ⟨oargs, ty, otext, oreg⟩ Ao co wr hin (show args.length ≤ 100000 by have := HLN.out; omega) (fun hc => by have := opR_cmp HO.out hc; rw [HLN.out]; exact this)
              have HTY := Lib.hid hty
              clear hin hty
              go_wp2_with fail
              refine HTY.out.mono ?_
              rintro e w2 ⟨rfl, hb2⟩
              have hwr := HBW.out.size
              have HB3 := Lib.hid (HBW.out.trans (hb2.mono hwr))
              have HX2 := HXR.out.below hb2 (by have := HXR.out.lt; omega)
              have HY2 := HYR.out.below hb2 (by have := HYR.out.lt; omega)
              have hb2z := hb2.size
              clear s0 s1 s2 s3 s4 r0 r1 r2 r3 hb2
              have s3 := HX2.cell 3
              have r3 := HY2.cell 3
              simp only [List.getElem?_toArray, List.getElem?_cons_zero, List.getElem?_cons_succ] at s3 r3
              rcases htd : typedR l ⟨op, args, num, [], ty⟩ ⟨oargs, ty, otext, oreg⟩ with _ | _
              · have HTD := Lib.hid htd
                clear htd
                go_wp2_with fail
                go_ret
                exact ⟨by rw [HSE2.out, if_pos (.inr HTD.out)]; rfl, HB3.out⟩
              · have HTD := Lib.hid htd
                clear htd
                cases oreg with
                | false =>
                  go_wp2_with fail
                  go_ret
                  exact ⟨by rw [HSE2.out, if_neg (by rw [HTD.out]; simp)]; rfl, HB3.out⟩
                | true =>
                  have HSE3 : Hid (stepE l i ⟨op, args, num, [], ty⟩ = patE []) := Lib.hid (by rw [HSE2.out, if_neg (by rw [HTD.out]; simp), if_pos rfl])
                  clear HSE2
                  go_wp2_with fail
                  refine (parse_any [] _ (by simp)).mono ?_
                  rintro e w3 ⟨⟨cp, rfl, htr⟩, hb3⟩
                  obtain ⟨kd, a0, a1, a2, a3, lo, hi, A', n', c', rfl⟩ := treeOr_form htr
                  have HB4 := Lib.hid (HB3.out.trans (hb3.mono HB3.out.size))
                  clear hb3 htr
                  rw [patE_eq]
                  by_cases hE : patE [] = 0
                  · have HE := Lib.hid hE
                    have hv : errV (patE []) = .nilIface := by rw [hE]; rfl
                    rw [hv]
                    clear hE hv
                    go_wp2_with fail
                    go_ret
                    exact ⟨by rw [HSE3.out, HE.out]; rfl, HB4.out.alloc HB4.out.size _⟩
                  · have hv : errV (patE []) = .iface 37 (.int .i64 (patE [])) := if_neg hE
                    have HE := Lib.hid hv
                    rw [hv]
                    generalize hq : patE [] = q at *
                    have HQ := Lib.hid hq
                    clear hE hv hq
                    go_wp2_with fail
                    go_ret
                    exact ⟨by rw [HSE3.out, HE.out]; rfl, HB4.out.alloc HB4.out.size _⟩
            · have e2 : (ty == ores) = false := by simpa using e1
              have e3 : (ty != ores) = true := by simpa using e1
              have HE := Lib.hid e1
              clear e1
              go_wp2_with fail
              go_ret
              exact ⟨by rw [HSE2.out, if_pos (.inl HE.out)]; rfl, HBW.out⟩
          · have z2' : decide (0 < num) = true := by simpa using z2
            have z3' : (op == [110, 117, 109, 98, 101, 114]) = true := by simpa [nNumber] using z3
            have z4' : (op != [110, 117, 109, 98, 101, 114]) = false := by simpa [nNumber] using z3
            have z6 : (text == []) = false := by simpa using z5
            have z7 : (text != []) = true := by simpa using z5
            have z8 : text.isEmpty = false := by simpa using z5
            cases otext with
            | false =>
              have HBD := Lib.hid (show num < 0 ∨ (0 < num ∧ op ≠ nNumber) ∨ (text ≠ [] ∧ false = false) from .inr (.inr ⟨z5, rfl⟩))
              clear z2 z5 z3
              go_wp2_with fail
              go_ret
              exact ⟨by rw [HSE.out, if_pos HBD.out]; rfl, HBW.out⟩
            | true =>
              clear z2 z5 z3
              have HSE2 : Hid (stepE l i ⟨op, args, num, text, ty⟩ = if ty ≠ ores ∨ typedR l ⟨op, args, num, text, ty⟩ ⟨oargs, ores, true, oreg⟩ = false then 12 else if oreg = true then patE text else 0) := Lib.hid (by rw [HSE.out, if_neg (fun h => h.elim HZ1.out (fun h => h.elim HZ2.out (fun h => by cases h.2)))])
              clear HSE
              by_cases e1 : ty = ores
              · subst e1
                have hin : TypIn wr (some ⟨b, ob, none⟩) l ⟨op, args, num, text, ty⟩ As ⟨oargs, ty, true, oreg⟩ Ao := ⟨HP.out.keep (fun i (hi : i < _) _ => HBW.out.block i hi) HBW.out.size (fun _ hi _ => Nat.lt_of_lt_of_le hi HBW.out.size), HAR.out.keep (fun i (hi : i < _) _ => HBW.out.block i hi) HBW.out.size (fun _ hi _ => Nat.lt_of_lt_of_le hi HBW.out.size), HRO.out.keep (fun i hi _ => (HBB.out.block i (by have := hi.2; simp; omega)).trans (Below.heap_alloc w1 _ i hi.2)) (by have := HBB.out.size; simp at this; omega) (fun i hi _ => by have := HBB.out.size; simp at this; have := hi.2; omega), HLN.out, fun a ha => by have := HGA.out a ha; omega, hn⟩
                have hty := typed_any (some ⟨b, ob, none⟩) c l ⟨op, args, num, text, ty⟩ As cs ⟨oargs, ty, true, oreg⟩ Ao co wr hin (show args.length ≤ 100000 by have := HLN.out; omega) (fun hc => by have := opR_cmp HO.out hc; rw [HLN.out]; exact this)
                have HTY := Lib.hid hty
                clear hin hty
                go_wp2_with fail
                refine HTY.out.mono ?_
                rintro e w2 ⟨rfl, hb2⟩
                have hwr := HBW.out.size
                have HB3 := Lib.hid (HBW.out.trans (hb2.mono hwr))
                have HX2 := HXR.out.below hb2 (by have := HXR.out.lt; omega)
                have HY2 := HYR.out.below hb2 (by have := HYR.out.lt; omega)
                have hb2z := hb2.size
                clear s0 s1 s2 s3 s4 r0 r1 r2 r3 hb2
                have s3 := HX2.cell 3
                have r3 := HY2.cell 3
                simp only [List.getElem?_toArray, List.getElem?_cons_zero, List.getElem?_cons_succ] at s3 r3
                rcases htd : typedR l ⟨op, args, num, text, ty⟩ ⟨oargs, ty, true, oreg⟩ with _ | _
                · have HTD := Lib.hid htd
                  clear htd
                  go_wp2_with fail
                  go_ret
                  exact ⟨by rw [HSE2.out, if_pos (.inr HTD.out)]; rfl, HB3.out⟩
                · have HTD := Lib.hid htd
                  clear htd
                  cases oreg with
                  | false =>
                    go_wp2_with fail
                    go_ret
                    exact ⟨by rw [HSE2.out, if_neg (by rw [HTD.out]; simp)]; rfl, HB3.out⟩
                  | true =>
                    have HSE3 : Hid (stepE l i ⟨op, args, num, text, ty⟩ = patE text) := Lib.hid (by rw [HSE2.out, if_neg (by rw [HTD.out]; simp), if_pos rfl])
                    clear HSE2
                    go_wp2_with fail
                    refine (parse_any text _ htx).mono ?_
                    rintro e w3 ⟨⟨cp, rfl, htr⟩, hb3⟩
                    obtain ⟨kd, a0, a1, a2, a3, lo, hi, A', n', c', rfl⟩ := treeOr_form htr
                    have HB4 := Lib.hid (HB3.out.trans (hb3.mono HB3.out.size))
                    clear hb3 htr
                    rw [patE_eq]
                    by_cases hE : patE text = 0
                    · have HE := Lib.hid hE
                      have hv : errV (patE text) = .nilIface := by rw [hE]; rfl
                      rw [hv]
                      clear hE hv
                      go_wp2_with fail
                      go_ret
                      exact ⟨by rw [HSE3.out, HE.out]; rfl, HB4.out.alloc HB4.out.size _⟩
                    · have hv : errV (patE text) = .iface 37 (.int .i64 (patE text)) := if_neg hE
                      have HE := Lib.hid hv
                      rw [hv]
                      generalize hq : patE text = q at *
                      have HQ := Lib.hid hq
                      clear hE hv hq
                      go_wp2_with fail
                      go_ret
                      exact ⟨by rw [HSE3.out, HE.out]; rfl, HB4.out.alloc HB4.out.size _⟩
              · have e2 : (ty == ores) = false := by simpa using e1
                have e3 : (ty != ores) = true := by simpa using e1
                have HE := Lib.hid e1
                clear e1
                go_wp2_with fail
                go_ret
                exact ⟨by rw [HSE2.out, if_pos (.inl HE.out)]; rfl, HBW.out⟩
          · have z2' : decide (0 < num) = false := by simp; omega
            subst z5
            clear z2
            have HSE2 : Hid (stepE l i ⟨op, args, num, [], ty⟩ = if ty ≠ ores ∨ typedR l ⟨op, args, num, [], ty⟩ ⟨oargs, ores, otext, oreg⟩ = false then 12 else if oreg = true then patE [] else 0) := Lib.hid (by rw [HSE.out, if_neg (fun h => h.elim HZ1.out (fun h => h.elim HZ2.out (fun h => h.1 rfl)))])
            clear HSE
            by_cases e1 : ty = ores
            · subst e1
              have hin : TypIn wr (some ⟨b, ob, none⟩) l ⟨op, args, num, [], ty⟩ As ⟨oargs, ty, otext, oreg⟩ Ao := ⟨HP.out.keep (fun i (hi : i < _) _ => HBW.out.block i hi) HBW.out.size (fun _ hi _ => Nat.lt_of_lt_of_le hi HBW.out.size), HAR.out.keep (fun i (hi : i < _) _ => HBW.out.block i hi) HBW.out.size (fun _ hi _ => Nat.lt_of_lt_of_le hi HBW.out.size), HRO.out.keep (fun i hi _ => (HBB.out.block i (by have := hi.2; simp; omega)).trans (Below.heap_alloc w1 _ i hi.2)) (by have := HBB.out.size; simp at this; omega) (fun i hi _ => by have := HBB.out.size; simp at this; have := hi.2; omega), HLN.out, fun a ha => by have := HGA.out a ha; omega, hn⟩
              have hty := typed_any (some ⟨b, ob, none⟩) c l ⟨op, args, num, [], ty⟩ As cs ⟨oargs, ty, otext, oreg⟩ Ao co wr hin (show args.length ≤ 100000 by have := HLN.out; omega) (fun hc => by have := opR_cmp HO.out hc; rw [HLN.out]; exact this)
              have HTY := Lib.hid hty
              clear hin hty
              go_wp2_with fail
              refine HTY.out.mono ?_
              rintro e w2 ⟨rfl, hb2⟩
              have hwr := HBW.out.size
              have HB3 := Lib.hid (HBW.out.trans (hb2.mono hwr))
              have HX2 := HXR.out.below hb2 (by have := HXR.out.lt; omega)
              have HY2 := HYR.out.below hb2 (by have := HYR.out.lt; omega)
              have hb2z := hb2.size
              clear s0 s1 s2 s3 s4 r0 r1 r2 r3 hb2
              have s3 := HX2.cell 3
              have r3 := HY2.cell 3
              simp only [List.getElem?_toArray, List.getElem?_cons_zero, List.getElem?_cons_succ] at s3 r3
              rcases htd : typedR l ⟨op, args, num, [], ty⟩ ⟨oargs, ty, otext, oreg⟩ with _ | _
              · have HTD := Lib.hid htd
                clear htd
                go_wp2_with fail
                go_ret
                exact ⟨by rw [HSE2.out, if_pos (.inr HTD.out)]; rfl, HB3.out⟩
              · have HTD := Lib.hid htd
                clear htd
                cases oreg with
                | false =>
                  go_wp2_with fail
                  go_ret
                  exact ⟨by rw [HSE2.out, if_neg (by rw [HTD.out]; simp)]; rfl, HB3.out⟩
                | true =>
                  have HSE3 : Hid (stepE l i ⟨op, args, num, [], ty⟩ = patE []) := Lib.hid (by rw [HSE2.out, if_neg (by rw [HTD.out]; simp), if_pos rfl])
                  clear HSE2
                  go_wp2_with fail
                  refine (parse_any [] _ (by simp)).mono ?_
                  rintro e w3 ⟨⟨cp, rfl, htr⟩, hb3⟩
                  obtain ⟨kd, a0, a1, a2, a3, lo, hi, A', n', c', rfl⟩ := treeOr_form htr
                  have HB4 := Lib.hid (HB3.out.trans (hb3.mono HB3.out.size))
                  clear hb3 htr
                  rw [patE_eq]
                  by_cases hE : patE [] = 0
                  · have HE := Lib.hid hE
                    have hv : errV (patE []) = .nilIface := by rw [hE]; rfl
                    rw [hv]
                    clear hE hv
                    go_wp2_with fail
                    go_ret
                    exact ⟨by rw [HSE3.out, HE.out]; rfl, HB4.out.alloc HB4.out.size _⟩
                  · have hv : errV (patE []) = .iface 37 (.int .i64 (patE [])) := if_neg hE
                    have HE := Lib.hid hv
                    rw [hv]
                    generalize hq : patE [] = q at *
                    have HQ := Lib.hid hq
                    clear hE hv hq
                    go_wp2_with fail
                    go_ret
                    exact ⟨by rw [HSE3.out, HE.out]; rfl, HB4.out.alloc HB4.out.size _⟩
            · have e2 : (ty == ores) = false := by simpa using e1
              have e3 : (ty != ores) = true := by simpa using e1
              have HE := Lib.hid e1
              clear e1
              go_wp2_with fail
              go_ret
              exact ⟨by rw [HSE2.out, if_pos (.inl HE.out)]; rfl, HBW.out⟩
          · have z2' : decide (0 < num) = false := by simp; omega
            have z6 : (text == []) = false := by simpa using z5
            have z7 : (text != []) = true := by simpa using z5
            have z8 : text.isEmpty = false := by simpa using z5
            cases otext with
            | false =>
              have HBD := Lib.hid (show num < 0 ∨ (0 < num ∧ op ≠ nNumber) ∨ (text ≠ [] ∧ false = false) from .inr (.inr ⟨z5, rfl⟩))
              clear z2 z5
              go_wp2_with fail
              go_ret
              exact ⟨by rw [HSE.out, if_pos HBD.out]; rfl, HBW.out⟩
            | true =>
              clear z2 z5
              have HSE2 : Hid (stepE l i ⟨op, args, num, text, ty⟩ = if ty ≠ ores ∨ typedR l ⟨op, args, num, text, ty⟩ ⟨oargs, ores, true, oreg⟩ = false then 12 else if oreg = true then patE text else 0) := Lib.hid (by rw [HSE.out, if_neg (fun h => h.elim HZ1.out (fun h => h.elim HZ2.out (fun h => by cases h.2)))])
              clear HSE
              by_cases e1 : ty = ores
              · subst e1
                have hin : TypIn wr (some ⟨b, ob, none⟩) l ⟨op, args, num, text, ty⟩ As ⟨oargs, ty, true, oreg⟩ Ao := ⟨HP.out.keep (fun i (hi : i < _) _ => HBW.out.block i hi) HBW.out.size (fun _ hi _ => Nat.lt_of_lt_of_le hi HBW.out.size), HAR.out.keep (fun i (hi : i < _) _ => HBW.out.block i hi) HBW.out.size (fun _ hi _ => Nat.lt_of_lt_of_le hi HBW.out.size), HRO.out.keep (fun i hi _ => (HBB.out.block i (by have := hi.2; simp; omega)).trans (Below.heap_alloc w1 _ i hi.2)) (by have := HBB.out.size; simp at this; omega) (fun i hi _ => by have := HBB.out.size; simp at this; have := hi.2; omega), HLN.out, fun a ha => by have := HGA.out a ha; omega, hn⟩
                have hty := typed_any (some ⟨b, ob, none⟩) c l ⟨op, args, num, text, ty⟩ As cs ⟨oargs, ty, true, oreg⟩ Ao co wr hin (show args.length ≤ 100000 by have := HLN.out; omega) (fun hc => by have := opR_cmp HO.out hc; rw [HLN.out]; exact this)
                have HTY := Lib.hid hty
                clear hin hty
                go_wp2_with fail
                refine HTY.out.mono ?_
                rintro e w2 ⟨rfl, hb2⟩
                have hwr := HBW.out.size
                have HB3 := Lib.hid (HBW.out.trans (hb2.mono hwr))
                have HX2 := HXR.out.below hb2 (by have := HXR.out.lt; omega)
                have HY2 := HYR.out.below hb2 (by have := HYR.out.lt; omega)
                have hb2z := hb2.size
                clear s0 s1 s2 s3 s4 r0 r1 r2 r3 hb2
                have s3 := HX2.cell 3
                have r3 := HY2.cell 3
                simp only [List.getElem?_toArray, List.getElem?_cons_zero, List.getElem?_cons_succ] at s3 r3
                rcases htd : typedR l ⟨op, args, num, text, ty⟩ ⟨oargs, ty, true, oreg⟩ with _ | _
                · have HTD := Lib.hid htd
                  clear htd
                  go_wp2_with fail
                  go_ret
                  exact ⟨by rw [HSE2.out, if_pos (.inr HTD.out)]; rfl, HB3.out⟩
                · have HTD := Lib.hid htd
                  clear htd
                  cases oreg with
                  | false =>
                    go_wp2_with fail
                    go_ret
                    exact ⟨by rw [HSE2.out, if_neg (by rw [HTD.out]; simp)]; rfl, HB3.out⟩
                  | true =>
                    have HSE3 : Hid (stepE l i ⟨op, args, num, text, ty⟩ = patE text) := Lib.hid (by rw [HSE2.out, if_neg (by rw [HTD.out]; simp), if_pos rfl])
                    clear HSE2
                    go_wp2_with fail
                    refine (parse_any text _ htx).mono ?_
                    rintro e w3 ⟨⟨cp, rfl, htr⟩, hb3⟩
                    obtain ⟨kd, a0, a1, a2, a3, lo, hi, A', n', c', rfl⟩ := treeOr_form htr
                    have HB4 := Lib.hid (HB3.out.trans (hb3.mono HB3.out.size))
                    clear hb3 htr
                    rw [patE_eq]
                    by_cases hE : patE text = 0
                    · have HE := Lib.hid hE
                      have hv : errV (patE text) = .nilIface := by rw [hE]; rfl
                      rw [hv]
                      clear hE hv
                      go_wp2_with fail
                      go_ret
                      exact ⟨by rw [HSE3.out, HE.out]; rfl, HB4.out.alloc HB4.out.size _⟩
                    · have hv : errV (patE text) = .iface 37 (.int .i64 (patE text)) := if_neg hE
                      have HE := Lib.hid hv
                      rw [hv]
                      generalize hq : patE text = q at *
                      have HQ := Lib.hid hq
                      clear hE hv hq
                      go_wp2_with fail
                      go_ret
                      exact ⟨by rw [HSE3.out, HE.out]; rfl, HB4.out.alloc HB4.out.size _⟩
              · have e2 : (ty == ores) = false := by simpa using e1
                have e3 : (ty != ores) = true := by simpa using e1
                have HE := Lib.hid e1
                clear e1
                go_wp2_with fail
                go_ret
                exact ⟨by rw [HSE2.out, if_pos (.inl HE.out)]; rfl, HBW.out⟩
    · have t1 : ((args.length : Int) == (oargs.length : Int)) = false := by simp; omega
      have t2 : ((args.length : Int) != (oargs.length : Int)) = true := by simp; omega
      have t3 : (args.length == oargs.length) = false := by simp; omega
      have HE := Lib.hid (stepE_len (l := l) (i := i) (s := ⟨op, args, num, text, ty⟩) HO.out hln)
      clear hln
      go_wp2_with fail
      go_ret
      exact ⟨by rw [HE.out]; rfl, HB2.out⟩
end Go.Proofs.Ytniefnjcimempaa
namespace Go.Proofs.Ytniefnjcimempaa
open Go.RowKit
theorem checkF_stop {l : List St} : ∀ (t : List St) (i k : Nat) (s : St), (∀ j x, j < k → t[j]? = some x → stepE l (i + j) x = 0) → t[k]? = some s → stepE l (i + k) s ≠ 0 → checkF l i t = stepE l (i + k) s
  | [], _, _, _, _, h, _ => by simp at h
  | x :: t, i, 0, s, _, h, hne => by
    simp only [List.getElem?_cons_zero, Option.some.injEq] at h
    subst h
    unfold checkF
    exact if_pos hne
  | x :: t, i, k + 1, s, h0, h, hne => by
    unfold checkF
    have h1 := h0 0 x (by omega) rfl
    rw [Nat.add_zero] at h1
    rw [if_neg (by simp [h1]), checkF_stop t (i + 1) k s (fun j y hj hy => by
      have := h0 (j + 1) y (by omega) (by simpa using hy)
      rwa [show i + (j + 1) = i + 1 + j by omega] at this) (by simpa using h) (by rwa [show i + 1 + k = i + (k + 1) by omega]), show i + 1 + k = i + (k + 1) by omega]
def Modest (l : List St) : Prop := l.length ≤ 100000 ∧ ∀ s ∈ l, s.args.length ≤ 2000000 ∧ s.text.length ≤ 9223372036854775807
def CkRel (w : World) (l : List St) (A : Option Addr) (c : Nat) (f : Nat) (v : Value) (wr : World) : Prop := ∃ k : Nat, v = .int .i64 k ∧ k ≤ l.length ∧ l.length - k < f ∧ Hid (∀ (j : Nat) (s : St), j < k → l[j]? = some s → stepE l j s = 0) ∧ Hid (Blk wr w.heap.size 28 #[.slice A l.length c]) ∧ Hid (Below w.heap.size w wr)
set_option maxRecDepth 100000 in
set_option maxHeartbeats 4000000 in
theorem Check_any (A : Option Addr) (c : Nat) (l : List St) (w : World) (hP : PlAt w (fun i => i < w.heap.size) A l) (hm : Modest l) :
    Calls Try.prog 17 #[.agg #[.slice A l.length c]] w (ChkEnd w (checkR l)) := by
  obtain ⟨hn, hsm⟩ := hm
  have HP := Lib.hid hP
  have HSM := Lib.hid hsm
  have HBB := Lib.hid (Blk.new w 28 #[.slice A l.length c])
  clear hP hsm
  by_cases h0 : l.length = 0
  · have HE := Lib.hid (show checkR l = 4 by unfold checkR; exact if_pos (.inl h0))
    rw [h0]
    clear h0
    go_enter Try.func17, Try.ntmps17
    go_wp2_with fail
    go_ret
    exact ⟨by rw [HE.out]; rfl, below_alloc _ _⟩
  by_cases h1 : 4096 < l.length
  · have HE := Lib.hid (show checkR l = 4 by unfold checkR; exact if_pos (.inr h1))
    have t1 : ((l.length : Int) == 0) = false := by rw [beq_eq_false_iff_ne]; omega
    have t2 : decide ((4096 : Int) < (l.length : Int)) = true := decide_eq_true (by omega)
    have t3 : decide (4096 < l.length) = true := decide_eq_true (by omega)
    clear h0 h1
    go_enter Try.func17, Try.ntmps17
    go_wp2_with fail
    go_ret
    exact ⟨by rw [HE.out]; rfl, below_alloc _ _⟩
  have HC := Lib.hid (show checkR l = checkF l 0 l by unfold checkR; rw [if_neg (by omega)])
  have t1 : ((l.length : Int) == 0) = false := by rw [beq_eq_false_iff_ne]; omega
  have t2 : decide ((4096 : Int) < (l.length : Int)) = false := decide_eq_false (by omega)
  have t3 : decide (4096 < l.length) = false := decide_eq_false (by omega)
  clear h0 h1
  go_enter Try.func17, Try.ntmps17
  go_wp2_with fail
  go_loopg [19, 3, 4] (l.length + 1) (fun f v _ _ wr => CkRel w l A c f v wr)
  case atStart => exact ⟨0, rfl, by omega, by omega, Lib.hid (fun j s hj => absurd hj (by omega)), HBB, Lib.hid (below_alloc _ _)⟩
  case round =>
    clear t1 t2 t3
    obtain ⟨k, rfl, hk, hkf, HGO, HX, HBW⟩ := hrel
    obtain ⟨f, rfl⟩ : ∃ f, gk = f + 1 := ⟨gk - 1, by omega⟩
    have s0 := HX.out.cell 0
    simp only [List.getElem?_toArray, List.getElem?_cons_zero] at s0
    by_cases hlt : k < l.length
    · obtain ⟨s, hs⟩ : ∃ s, l[k]? = some s := ⟨l[k], List.getElem?_eq_getElem hlt⟩
      have hmem := HSM.out s (List.mem_of_getElem? hs)
      have hck := check_any A c l k s wr hs (HP.out.keep (fun i (hi : i < _) _ => HBW.out.block i hi) HBW.out.size (fun _ hi _ => Nat.lt_of_lt_of_le hi HBW.out.size)) hn hmem.1 hmem.2
      have HCK := Lib.hid hck
      have HS := Lib.hid hs
      have q0 : (k : Int) < (l.length : Int) := by omega
      clear hmem hck hs
      go_wp2_with fail
      refine HCK.out.mono ?_
      rintro e w2 ⟨rfl, hb2⟩
      have HB2 := Lib.hid (HBW.out.trans (hb2.mono HBW.out.size))
      have HX2 := Lib.hid (HX.out.below hb2 HX.out.lt)
      clear hb2
      by_cases hE : stepE l k s = 0
      · have HE := Lib.hid hE
        have hv : errV (stepE l k s) = .nilIface := by rw [hE]; rfl
        rw [hv]
        clear hE hv
        go_wp2_with fail
        go_roundg f
        case measure => omega
        case rel =>
          refine ⟨k + 1, by go_num, by omega, by omega, Lib.hid (fun j x hj hx => ?_), HX2, HB2⟩
          by_cases hjk : j < k
          · exact HGO.out j x hjk hx
          · obtain rfl : j = k := by omega
            rw [HS.out] at hx
            injection hx with hx
            subst hx
            exact HE.out
      · have hst := checkF_stop l 0 k s (fun j x hj hx => by rw [Nat.zero_add]; exact HGO.out j x hj hx) HS.out (by rw [Nat.zero_add]; exact hE)
        rw [Nat.zero_add] at hst
        have HST := Lib.hid (HC.out.trans hst)
        have hv : errV (stepE l k s) = .iface 37 (.int .i64 (stepE l k s)) := if_neg hE
        have HV := Lib.hid hv
        rw [hv]
        generalize hq : stepE l k s = q at *
        clear hE hv hst hq
        go_wp2_with fail
        go_ret
        exact ⟨by rw [HST.out, HV.out]; rfl, HB2.out⟩
    · have hall := (checkF_zero l 0).2 (fun j s hs => by
        rw [Nat.zero_add]
        exact HGO.out j s (by have := (List.getElem?_eq_some_iff.1 hs).1; omega) hs)
      have HZ := Lib.hid (HC.out.trans hall)
      clear hall
      go_wp2_with fail
      go_ret
      exact ⟨by rw [HZ.out]; rfl, HBW.out⟩
end Go.Proofs.Ytniefnjcimempaa
namespace Go.Proofs.Ytniefnjcimempaa
open Go.RowKit
set_option maxRecDepth 100000 in
theorem cost_0 (w : World) : Calls Try.prog 40 #[.string ⟨#[110, 117, 109, 98, 101, 114]⟩] w fun e w' => e = .returned (.int .i64 (costR [110, 117, 109, 98, 101, 114])) ∧ w = w' := by
  rw [show costR [110, 117, 109, 98, 101, 114] = 1 by show (_ : Int) = _; kernel_rfl]
  go_enter Try.func40, Try.ntmps40
  go_wp2_with fail
  go_ret
  exact ⟨rfl, rfl⟩
set_option maxRecDepth 100000 in
theorem cost_1 (w : World) : Calls Try.prog 40 #[.string ⟨#[115, 116, 114, 105, 110, 103]⟩] w fun e w' => e = .returned (.int .i64 (costR [115, 116, 114, 105, 110, 103])) ∧ w = w' := by
  rw [show costR [115, 116, 114, 105, 110, 103] = 1 by show (_ : Int) = _; kernel_rfl]
  go_enter Try.func40, Try.ntmps40
  go_wp2_with fail
  go_ret
  exact ⟨rfl, rfl⟩
set_option maxRecDepth 100000 in
theorem cost_2 (w : World) : Calls Try.prog 40 #[.string ⟨#[114, 101, 102]⟩] w fun e w' => e = .returned (.int .i64 (costR [114, 101, 102])) ∧ w = w' := by
  rw [show costR [114, 101, 102] = 1 by show (_ : Int) = _; kernel_rfl]
  go_enter Try.func40, Try.ntmps40
  go_wp2_with fail
  go_ret
  exact ⟨rfl, rfl⟩
set_option maxRecDepth 100000 in
theorem cost_3 (w : World) : Calls Try.prog 40 #[.string ⟨#[43, 43]⟩] w fun e w' => e = .returned (.int .i64 (costR [43, 43])) ∧ w = w' := by
  rw [show costR [43, 43] = 8 by show (_ : Int) = _; kernel_rfl]
  go_enter Try.func40, Try.ntmps40
  go_wp2_with fail
  go_ret
  exact ⟨rfl, rfl⟩
set_option maxRecDepth 100000 in
theorem cost_4 (w : World) : Calls Try.prog 40 #[.string ⟨#[99, 117, 116]⟩] w fun e w' => e = .returned (.int .i64 (costR [99, 117, 116])) ∧ w = w' := by
  rw [show costR [99, 117, 116] = 8 by show (_ : Int) = _; kernel_rfl]
  go_enter Try.func40, Try.ntmps40
  go_wp2_with fail
  go_ret
  exact ⟨rfl, rfl⟩
set_option maxRecDepth 100000 in
theorem cost_5 (w : World) : Calls Try.prog 40 #[.string ⟨#[108, 105, 110, 101]⟩] w fun e w' => e = .returned (.int .i64 (costR [108, 105, 110, 101])) ∧ w = w' := by
  rw [show costR [108, 105, 110, 101] = 8 by show (_ : Int) = _; kernel_rfl]
  go_enter Try.func40, Try.ntmps40
  go_wp2_with fail
  go_ret
  exact ⟨rfl, rfl⟩
set_option maxRecDepth 100000 in
theorem cost_6 (w : World) : Calls Try.prog 40 #[.string ⟨#[114, 101, 112]⟩] w fun e w' => e = .returned (.int .i64 (costR [114, 101, 112])) ∧ w = w' := by
  rw [show costR [114, 101, 112] = 8 by show (_ : Int) = _; kernel_rfl]
  go_enter Try.func40, Try.ntmps40
  go_wp2_with fail
  go_ret
  exact ⟨rfl, rfl⟩
set_option maxRecDepth 100000 in
theorem cost_7 (w : World) : Calls Try.prog 40 #[.string ⟨#[112, 105, 99, 107]⟩] w fun e w' => e = .returned (.int .i64 (costR [112, 105, 99, 107])) ∧ w = w' := by
  rw [show costR [112, 105, 99, 107] = 8 by show (_ : Int) = _; kernel_rfl]
  go_enter Try.func40, Try.ntmps40
  go_wp2_with fail
  go_ret
  exact ⟨rfl, rfl⟩
set_option maxRecDepth 100000 in
theorem cost_8 (w : World) : Calls Try.prog 40 #[.string ⟨#[99, 111, 109, 109, 111, 110]⟩] w fun e w' => e = .returned (.int .i64 (costR [99, 111, 109, 109, 111, 110])) ∧ w = w' := by
  rw [show costR [99, 111, 109, 109, 111, 110] = 8 by show (_ : Int) = _; kernel_rfl]
  go_enter Try.func40, Try.ntmps40
  go_wp2_with fail
  go_ret
  exact ⟨rfl, rfl⟩
set_option maxRecDepth 100000 in
theorem cost_9 (w : World) : Calls Try.prog 40 #[.string ⟨#[119, 105, 116, 104, 105, 110]⟩] w fun e w' => e = .returned (.int .i64 (costR [119, 105, 116, 104, 105, 110])) ∧ w = w' := by
  rw [show costR [119, 105, 116, 104, 105, 110] = 8 by show (_ : Int) = _; kernel_rfl]
  go_enter Try.func40, Try.ntmps40
  go_wp2_with fail
  go_ret
  exact ⟨rfl, rfl⟩
set_option maxRecDepth 100000 in
theorem cost_10 (w : World) : Calls Try.prog 40 #[.string ⟨#[111, 118, 101, 114]⟩] w fun e w' => e = .returned (.int .i64 (costR [111, 118, 101, 114])) ∧ w = w' := by
  rw [show costR [111, 118, 101, 114] = 8 by show (_ : Int) = _; kernel_rfl]
  go_enter Try.func40, Try.ntmps40
  go_wp2_with fail
  go_ret
  exact ⟨rfl, rfl⟩
set_option maxRecDepth 100000 in
theorem cost_11 (w : World) : Calls Try.prog 40 #[.string ⟨#[97, 102, 116, 101, 114]⟩] w fun e w' => e = .returned (.int .i64 (costR [97, 102, 116, 101, 114])) ∧ w = w' := by
  rw [show costR [97, 102, 116, 101, 114] = 8 by show (_ : Int) = _; kernel_rfl]
  go_enter Try.func40, Try.ntmps40
  go_wp2_with fail
  go_ret
  exact ⟨rfl, rfl⟩
set_option maxRecDepth 100000 in
theorem cost_12 (w : World) : Calls Try.prog 40 #[.string ⟨#[117, 110, 105, 111, 110]⟩] w fun e w' => e = .returned (.int .i64 (costR [117, 110, 105, 111, 110])) ∧ w = w' := by
  rw [show costR [117, 110, 105, 111, 110] = 8 by show (_ : Int) = _; kernel_rfl]
  go_enter Try.func40, Try.ntmps40
  go_wp2_with fail
  go_ret
  exact ⟨rfl, rfl⟩
set_option maxRecDepth 100000 in
theorem cost_13 (w : World) : Calls Try.prog 40 #[.string ⟨#[109, 105, 110, 117, 115]⟩] w fun e w' => e = .returned (.int .i64 (costR [109, 105, 110, 117, 115])) ∧ w = w' := by
  rw [show costR [109, 105, 110, 117, 115] = 8 by show (_ : Int) = _; kernel_rfl]
  go_enter Try.func40, Try.ntmps40
  go_wp2_with fail
  go_ret
  exact ⟨rfl, rfl⟩
set_option maxRecDepth 100000 in
theorem cost_14 (w : World) : Calls Try.prog 40 #[.string ⟨#[102, 105, 114, 115, 116]⟩] w fun e w' => e = .returned (.int .i64 (costR [102, 105, 114, 115, 116])) ∧ w = w' := by
  rw [show costR [102, 105, 114, 115, 116] = 8 by show (_ : Int) = _; kernel_rfl]
  go_enter Try.func40, Try.ntmps40
  go_wp2_with fail
  go_ret
  exact ⟨rfl, rfl⟩
set_option maxRecDepth 100000 in
theorem cost_15 (w : World) : Calls Try.prog 40 #[.string ⟨#[108, 101, 110, 99, 117, 116]⟩] w fun e w' => e = .returned (.int .i64 (costR [108, 101, 110, 99, 117, 116])) ∧ w = w' := by
  rw [show costR [108, 101, 110, 99, 117, 116] = 8 by show (_ : Int) = _; kernel_rfl]
  go_enter Try.func40, Try.ntmps40
  go_wp2_with fail
  go_ret
  exact ⟨rfl, rfl⟩
set_option maxRecDepth 100000 in
theorem cost_16 (w : World) : Calls Try.prog 40 #[.string ⟨#[114, 111, 119, 115]⟩] w fun e w' => e = .returned (.int .i64 (costR [114, 111, 119, 115])) ∧ w = w' := by
  rw [show costR [114, 111, 119, 115] = 32 by show (_ : Int) = _; kernel_rfl]
  go_enter Try.func40, Try.ntmps40
  go_wp2_with fail
  go_ret
  exact ⟨rfl, rfl⟩
set_option maxRecDepth 100000 in
theorem cost_17 (w : World) : Calls Try.prog 40 #[.string ⟨#[99, 111, 117, 110, 116]⟩] w fun e w' => e = .returned (.int .i64 (costR [99, 111, 117, 110, 116])) ∧ w = w' := by
  rw [show costR [99, 111, 117, 110, 116] = 64 by show (_ : Int) = _; kernel_rfl]
  go_enter Try.func40, Try.ntmps40
  go_wp2_with fail
  go_ret
  exact ⟨rfl, rfl⟩
set_option maxRecDepth 100000 in
theorem cost_18 (w : World) : Calls Try.prog 40 #[.string ⟨#[104, 97, 115]⟩] w fun e w' => e = .returned (.int .i64 (costR [104, 97, 115])) ∧ w = w' := by
  rw [show costR [104, 97, 115] = 64 by show (_ : Int) = _; kernel_rfl]
  go_enter Try.func40, Try.ntmps40
  go_wp2_with fail
  go_ret
  exact ⟨rfl, rfl⟩
set_option maxRecDepth 100000 in
theorem cost_19 (w : World) : Calls Try.prog 40 #[.string ⟨#[102, 105, 110, 100]⟩] w fun e w' => e = .returned (.int .i64 (costR [102, 105, 110, 100])) ∧ w = w' := by
  rw [show costR [102, 105, 110, 100] = 64 by show (_ : Int) = _; kernel_rfl]
  go_enter Try.func40, Try.ntmps40
  go_wp2_with fail
  go_ret
  exact ⟨rfl, rfl⟩
set_option maxRecDepth 100000 in
theorem cost_20 (w : World) : Calls Try.prog 40 #[.string ⟨#[109, 97, 116, 99, 104, 101, 115]⟩] w fun e w' => e = .returned (.int .i64 (costR [109, 97, 116, 99, 104, 101, 115])) ∧ w = w' := by
  rw [show costR [109, 97, 116, 99, 104, 101, 115] = 64 by show (_ : Int) = _; kernel_rfl]
  go_enter Try.func40, Try.ntmps40
  go_wp2_with fail
  go_ret
  exact ⟨rfl, rfl⟩
set_option maxRecDepth 100000 in
theorem cost_21 (w : World) : Calls Try.prog 40 #[.string ⟨#[102, 105, 114, 115, 116, 102, 105, 110, 100]⟩] w fun e w' => e = .returned (.int .i64 (costR [102, 105, 114, 115, 116, 102, 105, 110, 100])) ∧ w = w' := by
  rw [show costR [102, 105, 114, 115, 116, 102, 105, 110, 100] = 64 by show (_ : Int) = _; kernel_rfl]
  go_enter Try.func40, Try.ntmps40
  go_wp2_with fail
  go_ret
  exact ⟨rfl, rfl⟩
set_option maxRecDepth 100000 in
theorem cost_rest (n : List UInt8) (hn0 : n ≠ [110, 117, 109, 98, 101, 114]) (hn1 : n ≠ [115, 116, 114, 105, 110, 103]) (hn2 : n ≠ [114, 101, 102]) (hn3 : n ≠ [43, 43]) (hn4 : n ≠ [99, 117, 116]) (hn5 : n ≠ [108, 105, 110, 101]) (hn6 : n ≠ [114, 101, 112]) (hn7 : n ≠ [112, 105, 99, 107]) (hn8 : n ≠ [99, 111, 109, 109, 111, 110]) (hn9 : n ≠ [119, 105, 116, 104, 105, 110]) (hn10 : n ≠ [111, 118, 101, 114]) (hn11 : n ≠ [97, 102, 116, 101, 114]) (hn12 : n ≠ [117, 110, 105, 111, 110]) (hn13 : n ≠ [109, 105, 110, 117, 115]) (hn14 : n ≠ [102, 105, 114, 115, 116]) (hn15 : n ≠ [108, 101, 110, 99, 117, 116]) (hn16 : n ≠ [114, 111, 119, 115]) (hn17 : n ≠ [99, 111, 117, 110, 116]) (hn18 : n ≠ [104, 97, 115]) (hn19 : n ≠ [102, 105, 110, 100]) (hn20 : n ≠ [109, 97, 116, 99, 104, 101, 115]) (hn21 : n ≠ [102, 105, 114, 115, 116, 102, 105, 110, 100]) (w : World) : Calls Try.prog 40 #[.string ⟨n.toArray⟩] w fun e w' => e = .returned (.int .i64 (costR n)) ∧ w = w' := by
  have hc : costR n = 2 := by
    unfold costR
    rw [if_neg (fun h => h.elim hn0 (fun h => h.elim hn1 hn2)), if_neg (by simp [nCut, nFirst, nLencut, hn3, hn4, hn5, hn6, hn7, hn8, hn9, hn10, hn11, hn12, hn13, hn14, hn15]), if_neg hn16, if_neg (by simp [nCount, nHas, nFind, nMatches, nFirstfind, hn17, hn18, hn19, hn20, hn21])]
  rw [hc]
  have h0 : (n == [110, 117, 109, 98, 101, 114]) = false := by simpa using hn0
  have h1 : (n == [115, 116, 114, 105, 110, 103]) = false := by simpa using hn1
  have h2 : (n == [114, 101, 102]) = false := by simpa using hn2
  have h3 : (n == [43, 43]) = false := by simpa using hn3
  have h4 : (n == [99, 117, 116]) = false := by simpa using hn4
  have h5 : (n == [108, 105, 110, 101]) = false := by simpa using hn5
  have h6 : (n == [114, 101, 112]) = false := by simpa using hn6
  have h7 : (n == [112, 105, 99, 107]) = false := by simpa using hn7
  have h8 : (n == [99, 111, 109, 109, 111, 110]) = false := by simpa using hn8
  have h9 : (n == [119, 105, 116, 104, 105, 110]) = false := by simpa using hn9
  have h10 : (n == [111, 118, 101, 114]) = false := by simpa using hn10
  have h11 : (n == [97, 102, 116, 101, 114]) = false := by simpa using hn11
  have h12 : (n == [117, 110, 105, 111, 110]) = false := by simpa using hn12
  have h13 : (n == [109, 105, 110, 117, 115]) = false := by simpa using hn13
  have h14 : (n == [102, 105, 114, 115, 116]) = false := by simpa using hn14
  have h15 : (n == [108, 101, 110, 99, 117, 116]) = false := by simpa using hn15
  have h16 : (n == [114, 111, 119, 115]) = false := by simpa using hn16
  have h17 : (n == [99, 111, 117, 110, 116]) = false := by simpa using hn17
  have h18 : (n == [104, 97, 115]) = false := by simpa using hn18
  have h19 : (n == [102, 105, 110, 100]) = false := by simpa using hn19
  have h20 : (n == [109, 97, 116, 99, 104, 101, 115]) = false := by simpa using hn20
  have h21 : (n == [102, 105, 114, 115, 116, 102, 105, 110, 100]) = false := by simpa using hn21
  clear hc hn0 hn1 hn2 hn3 hn4 hn5 hn6 hn7 hn8 hn9 hn10 hn11 hn12 hn13 hn14 hn15 hn16 hn17 hn18 hn19 hn20 hn21
  go_enter Try.func40, Try.ntmps40
  go_wp2_with fail
  go_ret
  exact ⟨rfl, rfl⟩
theorem cost_any (n : List UInt8) (w : World) : Calls Try.prog 40 #[.string ⟨n.toArray⟩] w fun e w' => e = .returned (.int .i64 (costR n)) ∧ w = w' := by
  by_cases hn0 : n = [110, 117, 109, 98, 101, 114]
  · subst hn0; exact cost_0 w
  by_cases hn1 : n = [115, 116, 114, 105, 110, 103]
  · subst hn1; exact cost_1 w
  by_cases hn2 : n = [114, 101, 102]
  · subst hn2; exact cost_2 w
  by_cases hn3 : n = [43, 43]
  · subst hn3; exact cost_3 w
  by_cases hn4 : n = [99, 117, 116]
  · subst hn4; exact cost_4 w
  by_cases hn5 : n = [108, 105, 110, 101]
  · subst hn5; exact cost_5 w
  by_cases hn6 : n = [114, 101, 112]
  · subst hn6; exact cost_6 w
  by_cases hn7 : n = [112, 105, 99, 107]
  · subst hn7; exact cost_7 w
  by_cases hn8 : n = [99, 111, 109, 109, 111, 110]
  · subst hn8; exact cost_8 w
  by_cases hn9 : n = [119, 105, 116, 104, 105, 110]
  · subst hn9; exact cost_9 w
  by_cases hn10 : n = [111, 118, 101, 114]
  · subst hn10; exact cost_10 w
  by_cases hn11 : n = [97, 102, 116, 101, 114]
  · subst hn11; exact cost_11 w
  by_cases hn12 : n = [117, 110, 105, 111, 110]
  · subst hn12; exact cost_12 w
  by_cases hn13 : n = [109, 105, 110, 117, 115]
  · subst hn13; exact cost_13 w
  by_cases hn14 : n = [102, 105, 114, 115, 116]
  · subst hn14; exact cost_14 w
  by_cases hn15 : n = [108, 101, 110, 99, 117, 116]
  · subst hn15; exact cost_15 w
  by_cases hn16 : n = [114, 111, 119, 115]
  · subst hn16; exact cost_16 w
  by_cases hn17 : n = [99, 111, 117, 110, 116]
  · subst hn17; exact cost_17 w
  by_cases hn18 : n = [104, 97, 115]
  · subst hn18; exact cost_18 w
  by_cases hn19 : n = [102, 105, 110, 100]
  · subst hn19; exact cost_19 w
  by_cases hn20 : n = [109, 97, 116, 99, 104, 101, 115]
  · subst hn20; exact cost_20 w
  by_cases hn21 : n = [102, 105, 114, 115, 116, 102, 105, 110, 100]
  · subst hn21; exact cost_21 w
  exact cost_rest n hn0 hn1 hn2 hn3 hn4 hn5 hn6 hn7 hn8 hn9 hn10 hn11 hn12 hn13 hn14 hn15 hn16 hn17 hn18 hn19 hn20 hn21 w
theorem costR_bd (n : List UInt8) : 1 ≤ costR n ∧ costR n ≤ 64 := by
  unfold costR
  split
  · omega
  split
  · omega
  split
  · omega
  split <;> omega
theorem costL_bd : ∀ l : List St, 0 ≤ costL l ∧ costL l ≤ 64 * l.length
  | [] => by simp [costL]
  | s :: l => by
    have h1 := costR_bd s.op
    have h2 := costL_bd l
    unfold costL at h2 ⊢
    rw [List.map_cons, List.sum_cons, List.length_cons]
    omega
theorem costL_snoc (l : List St) (s : St) : costL (l ++ [s]) = costL l + costR s.op := by unfold costL; simp
def CostEnd (w : World) (l : List St) (e : Ending) (w' : World) : Prop := e = .returned (.tuple #[.int .i64 (if checkR l = 0 then costL l else 0), errV (checkR l)]) ∧ Below w.heap.size w w'
def CoRel (w : World) (l : List St) (_A : Option Addr) (_c : Nat) (f : Nat) (i v : Value) (wr : World) : Prop := ∃ k : Nat, i = .int .i64 k ∧ k ≤ l.length ∧ l.length - k < f ∧ v = .int .i64 (costL (l.take k)) ∧ Hid (Below w.heap.size w wr)
set_option maxRecDepth 100000 in
set_option maxHeartbeats 4000000 in
theorem Cost_any (A : Option Addr) (c : Nat) (l : List St) (w : World) (hP : PlAt w (fun i => i < w.heap.size) A l) (hm : Modest l) :
    Calls Try.prog 25 #[.agg #[.slice A l.length c]] w (CostEnd w l) := by
  have HP := Lib.hid hP
  have HM := Lib.hid hm
  have HBB := Lib.hid (Blk.new w 28 #[.slice A l.length c])
  have hck := Check_any A c l (w.alloc (.cells #[.slice A l.length c] 28)) (hP.below (below_alloc w _)) hm
  have HCK := Lib.hid hck
  have hn := hm.1
  clear hP hck hm
  go_enter Try.func25, Try.ntmps25
  go_wp2_with fail
  refine HCK.out.mono ?_
  rintro e w1 ⟨rfl, hb1⟩
  have HB1 := Lib.hid ((below_alloc w _).trans (hb1.mono (by simp)))
  have HX1 := Lib.hid (HBB.out.below hb1 (by simp))
  clear hb1
  by_cases hE : checkR l = 0
  · have HE := Lib.hid hE
    have hv : errV (checkR l) = .nilIface := by rw [hE]; rfl
    have s0 := HX1.out.cell 0
    simp only [List.getElem?_toArray, List.getElem?_cons_zero] at s0
    rw [hv]
    clear hE hv
    go_wp2_with fail
    go_loopg [16, 5, 7] (l.length + 1) (fun f i v _ wr => CoRel w l A c f i v wr)
    case atStart => exact ⟨0, rfl, by omega, by omega, rfl, HB1⟩
    case round =>
      clear s0
      obtain ⟨k, rfl, hk, hkf, rfl, HBW⟩ := hrel
      obtain ⟨f, rfl⟩ : ∃ f, gk = f + 1 := ⟨gk - 1, by omega⟩
      by_cases hlt : k < l.length
      · obtain ⟨s, hs⟩ : ∃ s, l[k]? = some s := ⟨l[k], List.getElem?_eq_getElem hlt⟩
        obtain ⟨b, ob, As, cs, rfl, hbF, hbl, x0, x1, x2, x3, x4, har⟩ := (HP.out.at_ HBW.out).step hs
        have htk : l.take (k + 1) = l.take k ++ [s] := by rw [List.take_add_one, hs]; rfl
        have HTK := Lib.hid htk
        have h1 := costL_bd (l.take k)
        have h2 := costR_bd s.op
        have hlk : (l.take k).length ≤ k := List.length_take_le _ _
        have w1 := IntWalk.i64_in (costL (l.take k) + costR s.op) (by omega)
        have hcost := fun w => cost_any s.op w
        have HCO := Lib.hid hcost
        have q0 : (k : Int) < (l.length : Int) := by omega
        clear htk hs har hcost hlk
        go_wp2_with fail
        refine (HCO.out _).mono ?_
        rintro e w2 ⟨rfl, rfl⟩
        go_wp2_with fail
        go_roundg f
        case measure => omega
        case rel => exact ⟨k + 1, by go_num, by omega, by omega, by rw [HTK.out, costL_snoc], Lib.hid (HBW.out.alloc HBW.out.size _)⟩
      · have hks : k = l.length := by omega
        subst hks
        go_wp2_with fail
        go_ret2
        exact ⟨by rw [HE.out, if_pos rfl, List.take_length]; rfl, HBW.out⟩
  · have hv : errV (checkR l) = .iface 37 (.int .i64 (checkR l)) := if_neg hE
    have HE := Lib.hid hE
    have HV := Lib.hid hv
    rw [hv]
    generalize hq : checkR l = q at *
    have HQ := Lib.hid hq
    clear hE hv hq
    go_wp2_with fail
    go_ret2
    exact ⟨by rw [HQ.out, if_neg HE.out, HV.out]; rfl, HB1.out⟩
end Go.Proofs.Ytniefnjcimempaa
