/- The walk of plan.check. -/
import Derived.Test.YtamhdmkolfmmdaaGreatDoorsap
import Derived.Test.YtamhdmkolfmmdaaGreatDoorsak
import Derived.Test.YtamhdmkolfmmdaaGreatDoorsaa
set_option linter.unusedVariables false
set_option linter.unusedSimpArgs false
namespace Go.Proofs.YtamhdmkolfmmdaaGreatDoor
open Go.RowKit
set_option maxRecDepth 100000
set_option maxHeartbeats 16000000
theorem z31 {P : Prop} (h : P := by
 have e2 : (ty == ores) = false := by simpa using e1
 have e3 : (ty != ores) = true := by simpa using e1
 have HE := hD e1
 clear e1
 go_wp2_with fail
 go_ret
 exact ⟨by rw [HSE2.out, if_pos (.inl HE.out)]; rfl, HBW.out⟩) : P := h
theorem y83 {P : Prop} (h : P := by
 have HTY := hD hty
 clear hin hty
 go_wp2_with fail
 refine HTY.out.mono ?_
 rintro e w2 ⟨rfl, hb2⟩
 have hwr := HBW.out.size
 have HB3 := hD (HBW.out.trans (hb2.mono hwr))
 have HX2 := HXR.out.below hb2 (by have := HXR.out.lt; omega)
 have HY2 := HYR.out.below hb2 (by have := HYR.out.lt; omega)
 have hb2z := hb2.size
 clear s0 s1 s2 s3 s4 r0 r1 r2 r3 hb2
 have s3 := HX2.cell 3
 have r3 := HY2.cell 3
 simp only [gA, gB, gC] at s3 r3
 first
 | guard_hyp t526q0
   rcases htd : ka7 l ⟨op, args, num, text, ty⟩ ⟨oargs, ty, true, oreg⟩ with _ | _
   ·
    have HTD := hD htd
    clear htd
    go_wp2_with fail
    go_ret
    exact ⟨by rw [HSE2.out, if_pos (.inr HTD.out)]; rfl, HB3.out⟩
   ·
    have HTD := hD htd
    clear htd
    cases oreg with
    | false =>
     go_wp2_with fail
     go_ret
     exact ⟨by rw [HSE2.out, if_neg (by rw [HTD.out]; simp)]; rfl, HB3.out⟩
    | true =>
     have HSE3 : Hid (kaL l i ⟨op, args, num, text, ty⟩ = patE text) := hD (by rw [HSE2.out, if_neg (by rw [HTD.out]; simp), if_pos rfl])
     clear HSE2
     go_wp2_with fail
     refine (kgx text _ htx).mono ?_
     rintro e w3 ⟨⟨cp, rfl, htr⟩, hb3⟩
     obtain ⟨kd, a0, a1, a2, a3, lo, hi, A', n', c', rfl⟩ := ke7 htr
     have HB4 := hD (HB3.out.trans (hb3.mono HB3.out.size))
     clear hb3 htr
     rw [kjw]
     by_cases hE : patE text = 0
     ·
      have HE := hD hE
      have hv : errV (patE text) = .nilIface := by rw [hE]; rfl
      rw [hv]
      clear hE hv
      go_wp2_with fail
      go_ret
      exact ⟨by rw [HSE3.out, HE.out]; rfl, HB4.out.alloc HB4.out.size _⟩
     ·
      have hv : errV (patE text) = .iface 66 (.int .i64 (patE text)) := if_neg hE
      have HE := hD hv
      rw [hv]
      generalize hq : patE text = q at *
      have HQ := hD hq
      clear hE hv hq
      go_wp2_with fail
      go_ret
      exact ⟨by rw [HSE3.out, HE.out]; rfl, HB4.out.alloc HB4.out.size _⟩
 | rcases htd : ka7 l ⟨op, args, num, [], ty⟩ ⟨oargs, ty, otext, oreg⟩ with _ | _
   ·
    have HTD := hD htd
    clear htd
    go_wp2_with fail
    go_ret
    exact ⟨by rw [HSE2.out, if_pos (.inr HTD.out)]; rfl, HB3.out⟩
   ·
    have HTD := hD htd
    clear htd
    cases oreg with
    | false =>
     go_wp2_with fail
     go_ret
     exact ⟨by rw [HSE2.out, if_neg (by rw [HTD.out]; simp)]; rfl, HB3.out⟩
    | true =>
     have HSE3 : Hid (kaL l i ⟨op, args, num, [], ty⟩ = patE []) := hD (by rw [HSE2.out, if_neg (by rw [HTD.out]; simp), if_pos rfl])
     clear HSE2
     go_wp2_with fail
     refine (kgx [] _ (by simp)).mono ?_
     rintro e w3 ⟨⟨cp, rfl, htr⟩, hb3⟩
     obtain ⟨kd, a0, a1, a2, a3, lo, hi, A', n', c', rfl⟩ := ke7 htr
     have HB4 := hD (HB3.out.trans (hb3.mono HB3.out.size))
     clear hb3 htr
     rw [kjw]
     by_cases hE : patE [] = 0
     ·
      have HE := hD hE
      have hv : errV (patE []) = .nilIface := by rw [hE]; rfl
      rw [hv]
      clear hE hv
      go_wp2_with fail
      go_ret
      exact ⟨by rw [HSE3.out, HE.out]; rfl, HB4.out.alloc HB4.out.size _⟩
     ·
      have hv : errV (patE []) = .iface 66 (.int .i64 (patE [])) := if_neg hE
      have HE := hD hv
      rw [hv]
      generalize hq : patE [] = q at *
      have HQ := hD hq
      clear hE hv hq
      go_wp2_with fail
      go_ret
      exact ⟨by rw [HSE3.out, HE.out]; rfl, HB4.out.alloc HB4.out.size _⟩) : P := h
theorem y47 {P : Prop} (h : P := by
 have HSE2 : Hid (kaL l i ⟨op, args, num, text, ty⟩ = if ty ≠ ores ∨ ka7 l ⟨op, args, num, text, ty⟩ ⟨oargs, ores, true, oreg⟩ = false then 12 else if oreg = true then patE text else 0) := hD (by rw [HSE.out, if_neg (fun h => h.elim HZ1.out (fun h => h.elim HZ2.out (fun h => by cases h.2)))])
 clear HSE
 by_cases e1 : ty = ores
 ·
  subst e1
  have hin : TypIn wr (some ⟨b, ob, none⟩) l ⟨op, args, num, text, ty⟩ As ⟨oargs, ty, true, oreg⟩ Ao := ⟨HP.out.keep (fun i (hi : i < _) _ => HBW.out.block i hi) HBW.out.size (fun _ hi _ => Nat.lt_of_lt_of_le hi HBW.out.size), HAR.out.keep (fun i (hi : i < _) _ => HBW.out.block i hi) HBW.out.size (fun _ hi _ => Nat.lt_of_lt_of_le hi HBW.out.size), HRO.out.keep (fun i hi _ => (HBB.out.block i (by have := hi.2; simp; omega)).trans (Below.heap_alloc w1 _ i hi.2)) (by have := HBB.out.size; simp at this; omega) (fun i hi _ => by have := HBB.out.size; simp at this; have := hi.2; omega), HLN.out, fun a ha => by have := HGA.out a ha; omega, hn⟩
  have hty := kgp (some ⟨b, ob, none⟩) c l ⟨op, args, num, text, ty⟩ As cs ⟨oargs, ty, true, oreg⟩ Ao co wr hin (show args.length ≤ 100000 by have := HLN.out; omega) (fun hc => by have := kgh HO.out hc; rw [HLN.out]; exact this)
  have t526q0 := True.intro
  exact y83
 ·
  exact z31) : P := h
theorem y48 {P : Prop} (h : P := by
 have HSE2 : Hid (kaL l i ⟨op, args, num, [], ty⟩ = if ty ≠ ores ∨ ka7 l ⟨op, args, num, [], ty⟩ ⟨oargs, ores, otext, oreg⟩ = false then 12 else if oreg = true then patE [] else 0) := hD (by rw [HSE.out, if_neg (fun h => h.elim HZ1.out (fun h => h.elim HZ2.out (fun h => h.1 rfl)))])
 clear HSE
 by_cases e1 : ty = ores
 ·
  subst e1
  have hin : TypIn wr (some ⟨b, ob, none⟩) l ⟨op, args, num, [], ty⟩ As ⟨oargs, ty, otext, oreg⟩ Ao := ⟨HP.out.keep (fun i (hi : i < _) _ => HBW.out.block i hi) HBW.out.size (fun _ hi _ => Nat.lt_of_lt_of_le hi HBW.out.size), HAR.out.keep (fun i (hi : i < _) _ => HBW.out.block i hi) HBW.out.size (fun _ hi _ => Nat.lt_of_lt_of_le hi HBW.out.size), HRO.out.keep (fun i hi _ => (HBB.out.block i (by have := hi.2; simp; omega)).trans (Below.heap_alloc w1 _ i hi.2)) (by have := HBB.out.size; simp at this; omega) (fun i hi _ => by have := HBB.out.size; simp at this; have := hi.2; omega), HLN.out, fun a ha => by have := HGA.out a ha; omega, hn⟩
  have hty := kgp (some ⟨b, ob, none⟩) c l ⟨op, args, num, [], ty⟩ As cs ⟨oargs, ty, otext, oreg⟩ Ao co wr hin (show args.length ≤ 100000 by have := HLN.out; omega) (fun hc => by have := kgh HO.out hc; rw [HLN.out]; exact this)
  exact y83
 ·
  exact z31) : P := h
theorem kgh {n : List UInt8} {o : OpI} (h : opR n = some o) (hc : kaG n = true) : o.args.length = 2 := by
 have h0 : ∀ n, kaG n = true → ∃ o, opR n = some o ∧ o.args.length = 2 := fun n hc => by
  rcases kff hc with rfl | rfl | rfl | rfl <;> exact ⟨⟨[1, 1], 2, false, false⟩, by show (_ : Option OpI) = _; kernel_rfl, rfl⟩
 obtain ⟨o', h1, h2⟩ := h0 n hc
 rw [h1] at h
 injection h with h
 rw [← h]; exact h2
theorem kcZ {n : List UInt8} {o : OpI} (h : opR n = some o) : o.args.length ≤ 3 := by
 unfold opR at h
 split at h
 ·
  injection h with h; rw [← h]; decide
 split at h
 ·
  injection h with h; rw [← h]; decide
 split at h
 ·
  injection h with h; rw [← h]; decide
 split at h
 ·
  injection h with h; rw [← h]; decide
 split at h
 ·
  injection h with h; rw [← h]; decide
 split at h
 ·
  cases h
 ·
  rename_i q hq
  injection h with h
  rw [← h]
  obtain ⟨S, r⟩ := q
  have := (kjq hq).2.2.2
  exact Nat.le_trans (List.length_filter_le _ _) this
def ChkEnd (w : World) (x : Int) (e : Ending) (w' : World) : Prop := e = .returned (errV x) ∧ Below w.heap.size w w'
theorem kj8 {l : List St} {i : Nat} {s : St} (h : opR s.op = none) : kaL l i s = 4 := by unfold kaL; rw [h]
section
variable {l : List St} {i : Nat} {s : St} {o : OpI} (h : opR s.op = some o)
include h
theorem klr (h1 : s.args.length ≠ o.args.length) : kaL l i s = 4 := by unfold kaL; rw [h]; exact if_pos h1
theorem kgt (h1 : s.args.length = o.args.length) {k : Nat} {a : Int} (ha : s.args[k]? = some a) (hb : a < 0 ∨ (i : Int) ≤ a) : kaL l i s = 4 := by
 unfold kaL; rw [h]
 dsimp only
 rw [if_neg (by simpa using h1), if_pos]
 rw [List.any_eq_true]
 exact ⟨a, List.mem_of_getElem? ha, by simpa using hb⟩
theorem khx (h1 : s.args.length = o.args.length) (h2 : ∀ a ∈ s.args, 0 ≤ a ∧ a < (i : Int)) : kaL l i s = (if s.num < 0 ∨ (0 < s.num ∧ s.op ≠ kab) ∨ (s.text ≠ [] ∧ o.text = false) then 4
  else if s.ty ≠ o.res ∨ ka7 l s o = false then 12
  else if o.regex = true then patE s.text else 0) := by
 unfold kaL; rw [h]
 dsimp only
 rw [if_neg (by simpa using h1), if_neg]
 rw [List.any_eq_true]
 rintro ⟨a, ha, hb⟩
 have := h2 a ha
 simp at hb
 omega
end
def ChkRel (w : World) (stC opC : Array Value) (Y : Nat) (wb : World) (i : Nat) (s : St) (f : Nat) (v : Value) (wr : World) : Prop := ∃ k : Nat, v = .int .i64 k ∧ k ≤ s.args.length ∧ s.args.length - k < f ∧ Hid (∀ (j : Nat) (a : Int), j < k → s.args[j]? = some a → 0 ≤ a ∧ a < (i : Int)) ∧
 Hid (Blk wr w.heap.size 77 stC) ∧ Hid (Blk wr Y 111 opC) ∧ w.heap.size < Y ∧ Hid (Below w.heap.size w wr) ∧ Hid (Below wb.heap.size wb wr)
theorem kl9 (A : Option Addr) (c : Nat) (l : List St) (i : Nat) (s : St) (w : World) (hs : l[i]? = some s) (hP : PlAt w (fun i => i < w.heap.size) A l) (hn : l.length ≤ 100000) (hsm : s.args.length ≤ 2000000) (htx : s.text.length ≤ 9223372036854775807) :
  Calls Tryz.prog 42 #[.slice A l.length c, .int .i64 i] w (ChkEnd w (kaL l i s)) := by
 have hil := (gH hs).1
 obtain ⟨b, ob, As, cs, rfl, hbF, hbl, x0, x1, x2, x3, x4, har⟩ := hP.step hs
 have HP := hD hP
 have HAR := hD har
 have HS := hD hs
 obtain ⟨op, args, num, text, ty⟩ := s
 dsimp only at x0 x1 x2 x3 x4 hsm htx HAR
 have q0 : (i : Int) < (l.length : Int) := by omega
 have q1 : (0 : Int) ≤ (i : Int) := by omega
 have hops := op_any op
 have HOPS := hD hops
 clear hP har hs hops
 go_enter Tryz.func42, Tryz.ntmps42
 go_wp2_with fail
 refine (HOPS.out _).mono ?_
 rintro e w1 ⟨hb1, h1⟩
 have HX1 := hD ((Blk.new w 77 _).below hb1 (by simp))
 have HB1 := hD ((kaa w _).trans (hb1.mono (by simp)))
 have hz1 := hb1.size
 simp at hz1
 have hzz : (w.alloc (.cells #[.string ⟨op.toArray⟩, .slice As args.length cs, .int .i64 num, .string ⟨text.toArray⟩, .int .i64 ty] 77)).heap.size = w.heap.size + 1 := by simp
 rw [hzz] at h1
 clear hb1 x0 x1 x2 x3 x4 hzz
 cases ho : opR op with
 | none =>
  rw [ho] at h1
  have h1 : e = _ := h1
  subst h1
  have HE := hD (kj8 (l := l) (i := i) (s := ⟨op, args, num, text, ty⟩) ho)
  clear ho
  go_wp2_with fail
  go_ret
  exact ⟨by rw [HE.out]; rfl, HB1.out.alloc (by omega) _⟩
 | some o =>
  rw [ho] at h1
  obtain ⟨Ao, co, rfl, hro⟩ := h1
  have hol := kcZ ho
  have HO := hD (show opR (St.mk op args num text ty).op = some o from ho)
  have HRO := hD hro
  obtain ⟨oargs, ores, otext, oreg⟩ := o
  dsimp only at hol HRO
  clear ho hro
  have HY := hD (Blk.new w1 111 #[.slice Ao oargs.length co, .int .i64 ores, .bool otext, .bool oreg])
  have HXB := hD (HX1.out.alloc (.cells #[.slice Ao oargs.length co, .int .i64 ores, .bool otext, .bool oreg] 111))
  have HB2 := hD (HB1.out.alloc (by omega) (.cells #[.slice Ao oargs.length co, .int .i64 ores, .bool otext, .bool oreg] 111))
  have s0 := HXB.out.cell 0
  have s1 := HXB.out.cell 1
  simp only [gA, gB, gC] at s0 s1
  by_cases hln : args.length = oargs.length
  ·
   have t1 : ((args.length : Int) == (oargs.length : Int)) = true := by simp; omega
   have t2 : ((args.length : Int) != (oargs.length : Int)) = false := by simp; omega
   have HLN := hD hln
   clear hln
   go_wp2_with fail
   go_loopg [37, 9] (args.length + 1) (fun f v _ wr => ChkRel w #[.string ⟨op.toArray⟩, .slice As args.length cs, .int .i64 num, .string ⟨text.toArray⟩, .int .i64 ty] #[.slice Ao oargs.length co, .int .i64 ores, .bool otext, .bool oreg] w1.heap.size (w1.alloc (.cells #[.slice Ao oargs.length co, .int .i64 ores, .bool otext, .bool oreg] 111)) i ⟨op, args, num, text, ty⟩ f v wr)
   case atStart => exact ⟨0, rfl, by omega, by show args.length - 0 < _; omega, hD (fun j a hj => absurd hj (by omega)), HXB, HY, by omega, HB2, hD (Below.refl _ _)⟩
   case round =>
    clear s0 s1 t1 t2
    obtain ⟨k, rfl, hk, hkf, HGO, HXR, HYR, hwy, HBW, HBB⟩ := hrel
    obtain ⟨f, rfl⟩ : ∃ f, gk = f + 1 := ⟨gk - 1, by omega⟩
    have hk : k ≤ args.length := hk
    have hkf : args.length - k < f + 1 := hkf
    have HGO : Hid (∀ (j : Nat) (a : Int), j < k → args[j]? = some a → 0 ≤ a ∧ a < (i : Int)) := HGO
    by_cases hlt : k < args.length
    ·
     obtain ⟨a, ha⟩ : ∃ a, args[k]? = some a := ⟨args[k], List.getElem?_eq_getElem hlt⟩
     obtain ⟨ba, oa, rfl, hba', hba, hca⟩ := RdF.int HAR.out ha
     have y1 := (HBW.out.cell (p := ⟨ba, oa + k, none⟩) hba').trans hca
     have p0 : (k : Int) < (args.length : Int) := by omega
     have p1 : (0 : Int) ≤ (k : Int) := by omega
     have HA := hD ha
     clear ha hca
     by_cases hneg : a < 0
     ·
      have p2 : decide (a < 0) = true := by simpa using hneg
      have HE := hD (kgt (l := l) (i := i) (s := ⟨op, args, num, text, ty⟩) HO.out HLN.out HA.out (.inl hneg))
      clear hneg
      go_wp2_with fail
      go_ret
      exact ⟨by rw [HE.out]; rfl, HBW.out⟩
     ·
      have p2 : decide (a < 0) = false := by simpa using hneg
      obtain ⟨m, rfl⟩ := keI (by omega : 0 ≤ a)
      by_cases hge : i ≤ m
      ·
       have p3 : decide ((i : Int) ≤ (m : Int)) = true := decide_eq_true (by omega)
       have p4 : decide (i ≤ m) = true := decide_eq_true (by omega)
       have HE := hD (kgt (l := l) (i := i) (s := ⟨op, args, num, text, ty⟩) HO.out HLN.out HA.out (.inr (by omega)))
       clear hneg hge
       go_wp2_with fail
       go_ret
       exact ⟨by rw [HE.out]; rfl, HBW.out⟩
      ·
       have p3 : decide ((i : Int) ≤ (m : Int)) = false := decide_eq_false (by omega)
       have p4 : decide (i ≤ m) = false := decide_eq_false (by omega)
       have hmi : m < i := by omega
       clear hneg hge
       go_wp2_with fail
       go_roundg f
       case measure => omega
       case rel =>
        refine ⟨k + 1, by go_num, by show k + 1 ≤ args.length; omega, by show args.length - (k + 1) < f; omega, hD (fun j a hj hja => ?_), HXR, HYR, hwy, HBW, HBB⟩
        by_cases hjk : j < k
        ·
         exact HGO.out j a hjk hja
        ·
         obtain rfl : j = k := by omega
         have hja : args[j]? = some a := hja
         rw [HA.out] at hja
         injection hja with hja
         omega
    ·
     have hks : k = args.length := by omega
     have HGA : Hid (∀ a ∈ args, 0 ≤ a ∧ a < (i : Int)) := hD fun a ha => by
      obtain ⟨j, hj⟩ := List.getElem?_of_mem ha
      exact HGO.out j a (by have := (gH hj).1; omega) hj
     have HSE := hD (khx (l := l) (i := i) (s := ⟨op, args, num, text, ty⟩) HO.out HLN.out HGA.out)
     have s0 := HXR.out.cell 0
     have s1 := HXR.out.cell 1
     have s2 := HXR.out.cell 2
     have s3 := HXR.out.cell 3
     have s4 := HXR.out.cell 4
     have r0 := HYR.out.cell 0
     have r1 := HYR.out.cell 1
     have r2 := HYR.out.cell 2
     have r3 := HYR.out.cell 3
     simp only [gA, gB, gC] at s0 s1 s2 s3 s4 r0 r1 r2 r3
     have p0 : decide ((k : Int) < (args.length : Int)) = false := by simp; omega
     have p1 : decide (k < args.length) = false := by simp; omega
     clear HGO hlt hks
     by_cases z1 : num < 0
     ·
      have z1' : decide (num < 0) = true := by simpa using z1
      have HBD := hD (show num < 0 ∨ (0 < num ∧ op ≠ kab) ∨ (text ≠ [] ∧ otext = false) from .inl z1)
      clear z1
      go_wp2_with fail
      go_ret
      exact ⟨by rw [HSE.out, if_pos HBD.out]; rfl, HBW.out⟩
     have z1' : decide (num < 0) = false := by simpa using z1
     by_cases z2 : 0 < num ∧ op ≠ kab
     ·
      have z2' : decide (0 < num) = true := by simpa using z2.1
      have z3' : (op == [110, 117, 109, 98, 101, 114]) = false := by simpa [kab] using z2.2
      have z4' : (op != [110, 117, 109, 98, 101, 114]) = true := by simpa [kab] using z2.2
      have HBD := hD (show num < 0 ∨ (0 < num ∧ op ≠ kab) ∨ (text ≠ [] ∧ otext = false) from .inr (.inl z2))
      clear z1 z2
      go_wp2_with fail
      go_ret
      exact ⟨by rw [HSE.out, if_pos HBD.out]; rfl, HBW.out⟩
     have HZ1 := hD z1
     have HZ2 := hD z2
     have hnum : (0 < num ∧ op = kab) ∨ num = 0 := by
      by_cases h : 0 < num
      ·
       exact .inl ⟨h, Decidable.byContradiction fun h' => z2 ⟨h, h'⟩⟩
      ·
       exact .inr (by omega)
     clear z1 z2
     have htxt : text = [] ∨ text ≠ [] := Decidable.em _
     rcases hnum with ⟨z2, z3⟩ | z2
     all_goals rcases htxt with z5 | z5
     ·
      have z2' : decide (0 < num) = true := by simpa using z2
      have z3' : (op == [110, 117, 109, 98, 101, 114]) = true := by simpa [kab] using z3
      have z4' : (op != [110, 117, 109, 98, 101, 114]) = false := by simpa [kab] using z3
      subst z5
      clear z2 z3
      exact y48
     ·
      have z2' : decide (0 < num) = true := by simpa using z2
      have z3' : (op == [110, 117, 109, 98, 101, 114]) = true := by simpa [kab] using z3
      have z4' : (op != [110, 117, 109, 98, 101, 114]) = false := by simpa [kab] using z3
      have z6 : (text == []) = false := by simpa using z5
      have z7 : (text != []) = true := by simpa using z5
      have z8 : text.isEmpty = false := by simpa using z5
      cases otext with
      | false =>
       have HBD := hD (show num < 0 ∨ (0 < num ∧ op ≠ kab) ∨ (text ≠ [] ∧ false = false) from .inr (.inr ⟨z5, rfl⟩))
       clear z2 z5 z3
       go_wp2_with fail
       go_ret
       exact ⟨by rw [HSE.out, if_pos HBD.out]; rfl, HBW.out⟩
      | true =>
       clear z2 z5 z3
       exact y47
     ·
      have z2' : decide (0 < num) = false := by simp; omega
      subst z5
      clear z2
      exact y48
     ·
      have z2' : decide (0 < num) = false := by simp; omega
      have z6 : (text == []) = false := by simpa using z5
      have z7 : (text != []) = true := by simpa using z5
      have z8 : text.isEmpty = false := by simpa using z5
      cases otext with
      | false =>
       have HBD := hD (show num < 0 ∨ (0 < num ∧ op ≠ kab) ∨ (text ≠ [] ∧ false = false) from .inr (.inr ⟨z5, rfl⟩))
       clear z2 z5
       go_wp2_with fail
       go_ret
       exact ⟨by rw [HSE.out, if_pos HBD.out]; rfl, HBW.out⟩
      | true =>
       clear z2 z5
       exact y47
  ·
   have t1 : ((args.length : Int) == (oargs.length : Int)) = false := by simp; omega
   have t2 : ((args.length : Int) != (oargs.length : Int)) = true := by simp; omega
   have t3 : (args.length == oargs.length) = false := by simp; omega
   have HE := hD (klr (l := l) (i := i) (s := ⟨op, args, num, text, ty⟩) HO.out hln)
   clear hln
   go_wp2_with fail
   go_ret
   exact ⟨by rw [HE.out]; rfl, HB2.out⟩
end Go.Proofs.YtamhdmkolfmmdaaGreatDoor
