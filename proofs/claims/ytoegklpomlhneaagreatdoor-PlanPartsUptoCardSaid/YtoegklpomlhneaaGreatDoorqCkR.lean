/- The walk of the document's Check. -/
import Derived.Test.YtoegklpomlhneaaGreatDoorqCkD
import Derived.Test.YtoegklpomlhneaaGreatDoorqRegZ
import Derived.Test.YtoegklpomlhneaaGreatDoorqRl
import Derived.Deep.DeepCutAuto
import Derived.Deep.RegionHeld3
namespace Go.Proofs.YtoegklpomlhneaaGreatDoor
open Go.RowKit
def badR (s : St) (r : RowR) : Prop := s.args.length ≠ r.args.length ∨ s.num < 0 ∨ (s.num ≠ 0 ∧ r.op ≠ nNumber) ∨ (s.text ≠ [] ∧ textsR r = false)
instance (s : St) (r : RowR) : Decidable (badR s r) := by unfold badR; infer_instance
theorem bad_dec {p : Prop} [Decidable p] {t : List UInt8} {b : Bool} (h : p ↔ (t ≠ [] ∧ b = false)) (ht : t ≠ []) : decide p = !b := by
  cases b with
  | true => exact decide_eq_false (fun hp => by have := (h.1 hp).2; cases this)
  | false => exact decide_eq_true (h.2 ⟨ht, rfl⟩)
theorem bad_dec0 {p : Prop} [Decidable p] {t : List UInt8} {b : Bool} (h : p ↔ (t ≠ [] ∧ b = false)) (ht : t = []) : decide p = false := decide_eq_false (fun hp => (h.1 hp).1 ht)
theorem refE_none {l : List St} {i : Nat} {s : St} {g : Int} (h : firstR s.op = none) : refE l i s g = 4 := by unfold refE; rw [h]
theorem refE_bad {l : List St} {i : Nat} {s : St} {g : Int} {r : RowR} (h : firstR s.op = some r) (hb : badR s r) : refE l i s g = 4 := by unfold refE; rw [h]; exact if_pos hb
theorem refE_arg {l : List St} {i : Nat} {s : St} {g : Int} {r : RowR} (h : firstR s.op = some r) (hb : ¬ badR s r) {a : Int} (ha : a ∈ s.args) (hbad : a < 0 ∨ (i : Int) ≤ a) : refE l i s g = 4 := by
  unfold refE
  rw [h]
  dsimp only
  have h2 : ¬ (s.args.length ≠ r.args.length ∨ s.num < 0 ∨ (s.num ≠ 0 ∧ r.op ≠ nNumber) ∨ (s.text ≠ [] ∧ textsR r = false)) := hb
  rw [if_neg h2, if_pos]
  rw [List.any_eq_true]
  exact ⟨a, ha, by simpa using hbad⟩
theorem refE_go {l : List St} {i : Nat} {s : St} {g : Int} {r : RowR} (h : firstR s.op = some r) (hb : ¬ badR s r) (ha : ∀ a ∈ s.args, 0 ≤ a ∧ a < (i : Int)) : refE l i s g = match findR s.op (digR l s) with
    | none => 12
    | some r2 => if r2.ty ≠ s.ty then 12 else if r2.regex = true ∧ g ≠ 0 then g else 0 := by
  unfold refE
  rw [h]
  dsimp only
  have h2 : ¬ (s.args.length ≠ r.args.length ∨ s.num < 0 ∨ (s.num ≠ 0 ∧ r.op ≠ nNumber) ∨ (s.text ≠ [] ∧ textsR r = false)) := hb
  have h3 : ¬ (s.args.any (fun a => decide (a < 0) || decide ((i : Int) ≤ a)) = true) := by
    rw [List.any_eq_true]
    rintro ⟨a, h1, h2⟩
    have := ha a h1
    simp at h2
    omega
  rw [if_neg h2, if_neg h3]
  cases findR s.op (digR l s) <;> rfl
theorem ck_stop {l : List St} {k : Nat} {s : St} {v : Int} (hl : 1 ≤ l.length ∧ l.length ≤ 4096) (hb : ∀ j t, j < k → l[j]? = some t → stepE l j t = 0) (hs : l[k]? = some s) (hr : refE l k s (patE s.text) = v) (hv : v ≠ 0) : checkR l = v := by
  have hk := (List.getElem?_eq_some_iff.1 hs).1
  have he := (refE_eq hk hb).symm.trans hr
  unfold checkR
  rw [if_neg (by omega)]
  have := checkF_stop l 0 k s (fun j x hj hx => by rw [Nat.zero_add]; exact hb j x hj hx) hs (by rw [Nat.zero_add, he]; exact hv)
  rw [Nat.zero_add, he] at this
  exact this
theorem find_no {n a : List UInt8} (h : findR n a = none) (w : World) : Calls Tryz.prog 23 #[.string ⟨n.toArray⟩, .string ⟨a.toArray⟩] w fun e w' => e = .returned (.tuple #[.agg #[.string ⟨#[]⟩, .string ⟨#[]⟩, .int .i64 0, .int .i64 0, .bool false], .bool false]) ∧ Below w.heap.size w w' :=
  (find_any n a w).mono (fun e w' he => by
    unfold RowEnd at he
    rw [h] at he
    exact ⟨he.2, he.1⟩)
theorem find_yes {n a : List UInt8} {r : RowR} (h : findR n a = some r) (w : World) : Calls Tryz.prog 23 #[.string ⟨n.toArray⟩, .string ⟨a.toArray⟩] w fun e w' => e = .returned (.tuple #[.agg #[.string ⟨r.op.toArray⟩, .string ⟨r.args.toArray⟩, .int .i64 r.ty, .int .i64 r.cost, .bool r.regex], .bool true]) ∧ Below w.heap.size w w' :=
  (find_any n a w).mono (fun e w' he => by
    unfold RowEnd at he
    rw [h] at he
    exact ⟨he.2, he.1⟩)
def CrRel (w : World) (l : List St) (f : Nat) (v : Value) (wr : World) : Prop := ∃ k : Nat, v = .int .i64 k ∧ k ≤ l.length ∧ l.length - k < f ∧ Hid (∀ (j : Nat) (s : St), j < k → l[j]? = some s → stepE l j s = 0) ∧ Hid (Below w.heap.size w wr)
def CiRel (wo : World) (n : Nat) (args : List Int) (i : Nat) (f : Nat) (v : Value) (wr : World) : Prop := ∃ j : Nat, v = .int .i64 j ∧ j ≤ n ∧ n - j < f ∧ Hid (∀ a ∈ args.take j, 0 ≤ a ∧ a < (i : Int)) ∧ wo = wr
theorem row5 {w : World} {g : Nat} {r : RowR} (h : Blk w g 59 #[.string ⟨r.op.toArray⟩, .string ⟨r.args.toArray⟩, .int .i64 r.ty, .int .i64 r.cost, .bool r.regex]) : w.cell? ⟨g, 0, none⟩ = some (.string ⟨r.op.toArray⟩) ∧ w.cell? ⟨g, 1, none⟩ = some (.string ⟨r.args.toArray⟩) ∧ w.cell? ⟨g, 2, none⟩ = some (.int .i64 r.ty) ∧ w.cell? ⟨g, 3, none⟩ = some (.int .i64 r.cost) ∧ w.cell? ⟨g, 4, none⟩ = some (.bool r.regex) :=
  ⟨h.cell 0, h.cell 1, h.cell 2, h.cell 3, h.cell 4⟩
set_option maxRecDepth 100000 in
set_option maxHeartbeats 8000000 in
theorem rcheck_any (A : Option Addr) (c : Nat) (l : List St) (Ar : Option Addr) (cr : Nat) (w : World) (h : ArgPl w A l) (hg : Reads w w.heap.size 1 Ar l.length (l.map fun s => Value.int .i64 (patE s.text))) (hn : l.length ≤ 100000) (ha : ∀ s ∈ l, s.args.length ≤ 2000000) :
    Calls Tryz.prog 5 #[.slice A l.length c, .slice Ar l.length cr] w fun e w' => e = .returned (.int .i64 (checkR l)) ∧ Below w.heap.size w w' := by
  have HA := Lib.hid h
  have HG := Lib.hid hg
  have HM := Lib.hid ha
  clear h hg ha
  obtain ⟨R, hR⟩ : ∃ R, R = checkR l := ⟨_, rfl⟩
  rw [← hR]
  have HR := Lib.hid hR
  clear hR
  by_cases h0 : l.length = 0
  · have hRR : R = 4 := by rw [HR.out]; unfold checkR; rw [if_pos (.inl h0)]
    subst hRR
    have q0 : ((l.length : Int) == 0) = true := beq_iff_eq.2 (by omega)
    go_enter Tryz.func5, Tryz.ntmps5
    go_wp2_with fail
    go_ret
    exact ⟨rfl, Below.refl _ _⟩
  have q0 : ((l.length : Int) == 0) = false := beq_eq_false_iff_ne.2 (by omega)
  by_cases h1 : 4096 < l.length
  · have hRR : R = 4 := by rw [HR.out]; unfold checkR; rw [if_pos (.inr h1)]
    subst hRR
    have q1 : (4096 : Int) < (l.length : Int) := by omega
    go_enter Tryz.func5, Tryz.ntmps5
    go_wp2_with fail
    go_ret
    exact ⟨rfl, Below.refl _ _⟩
  have q1 : ¬ ((4096 : Int) < (l.length : Int)) := by omega
  have hll : 1 ≤ l.length ∧ l.length ≤ 4096 := by omega
  have HLL := Lib.hid hll
  clear hll
  go_enter Tryz.func5, Tryz.ntmps5
  go_wp2_with fail
  go_loopg [5, 6, 7, 8, 9] (l.length + 1) (fun f v _ _ _ _ wr => CrRel w l f v wr)
  case atStart => exact ⟨0, rfl, by omega, by omega, Lib.hid (fun j s hj _ => by omega), Lib.hid (Below.refl _ _)⟩
  case round =>
    obtain ⟨k, rfl, hk, hkf, HN, HB⟩ := hrel
    obtain ⟨f, rfl⟩ : ∃ f, gk = f + 1 := ⟨gk - 1, by omega⟩
    have hzr := HB.out.size
    by_cases hlt : k < l.length
    · obtain ⟨s, hs⟩ : ∃ s, l[k]? = some s := ⟨l[k], List.getElem?_eq_getElem hlt⟩
      obtain ⟨b, o, As, cs, rfl, hbw, y0, y1, y2, y3, y4, hrd⟩ := HA.out k s hs
      have hbl : b < wr.heap.size := by omega
      have x0 := (HB.out.cell (p := ⟨b, o + k * 5, none⟩) hbw).trans y0
      have x1 := (HB.out.cell (p := ⟨b, o + k * 5 + 1, none⟩) hbw).trans y1
      have x2 := (HB.out.cell (p := ⟨b, o + k * 5 + 2, none⟩) hbw).trans y2
      have x3 := (HB.out.cell (p := ⟨b, o + k * 5 + 3, none⟩) hbw).trans y3
      have x4 := (HB.out.cell (p := ⟨b, o + k * 5 + 4, none⟩) hbw).trans y4
      clear y0 y1 y2 y3 y4
      have q2 : (k : Int) < (l.length : Int) := by omega
      have q3 : (0 : Int) ≤ (k : Int) := by omega
      have hal := HM.out s (List.mem_of_getElem? hs)
      have HS := Lib.hid hs
      have HRD := Lib.hid hrd
      obtain ⟨op, args, num, text, ty⟩ := s
      dsimp only at x0 x1 x2 x3 x4 HRD hal
      obtain ⟨n, hnn⟩ : ∃ n, n = args.length := ⟨_, rfl⟩
      rw [← hnn] at x1 hal HRD
      have HNN := Lib.hid hnn
      have HS6 := Lib.hid (Blk.new wr 57 #[.string ⟨op.toArray⟩, .slice As n cs, .int .i64 num, .string ⟨text.toArray⟩, .int .i64 ty])
      have HB6 := Lib.hid (HB.out.alloc hzr (.cells #[.string ⟨op.toArray⟩, .slice As n cs, .int .i64 num, .string ⟨text.toArray⟩, .int .i64 ty] 57))
      have hz6 := HB6.out.size
      clear hs hrd hnn
      go_wp2_with fail
      clear x0 x1 x2 x3 x4
      refine (first_any op _).mono ?_
      rintro e w1 ⟨hb1, he⟩
      have HS7 := Lib.hid (HS6.out.below hb1 HS6.out.lt)
      have HB7 := Lib.hid (HB6.out.trans (hb1.mono hz6))
      have hz7 := HB7.out.size
      have hwl : wr.heap.size < w1.heap.size := HS7.out.lt
      cases hf : firstR op with
      | none =>
        rw [hf] at he
        subst he
        have hRR : R = 4 := HR.out.trans (ck_stop HLL.out HN.out HS.out (refE_none hf) (by decide))
        subst hRR
        clear hb1 hf
        go_wp2_with fail
        go_ret
        exact ⟨rfl, HB7.out.alloc hz7 _⟩
      | some r =>
        rw [hf] at he
        subst he
        have HF := Lib.hid hf
        have HRW := Lib.hid (Blk.new w1 59 #[.string ⟨r.op.toArray⟩, .string ⟨r.args.toArray⟩, .int .i64 r.ty, .int .i64 r.cost, .bool r.regex])
        have HSB := Lib.hid (HS7.out.alloc (.cells #[.string ⟨r.op.toArray⟩, .string ⟨r.args.toArray⟩, .int .i64 r.ty, .int .i64 r.cost, .bool r.regex] 59))
        have HB8 := Lib.hid (HB7.out.alloc hz7 (.cells #[.string ⟨r.op.toArray⟩, .string ⟨r.args.toArray⟩, .int .i64 r.ty, .int .i64 r.cost, .bool r.regex] 59))
        clear hb1 hf
        go_upto_region 8 with (fail)
        go_cut [69] (fun v wc => v = .bool (decide (badR ⟨op, args, num, text, ty⟩ r)) ∧ Hid (Blk wc wr.heap.size 57 #[.string ⟨op.toArray⟩, .slice As n cs, .int .i64 num, .string ⟨text.toArray⟩, .int .i64 ty]) ∧ Hid (Blk wc w1.heap.size 59 #[.string ⟨r.op.toArray⟩, .string ⟨r.args.toArray⟩, .int .i64 r.ty, .int .i64 r.cost, .bool r.regex]) ∧ Hid (Below w.heap.size w wc))
        case first =>
          obtain ⟨s0, s1, s2, s3, s4, _, _, _, _, _⟩ := blk5 HSB.out
          obtain ⟨r0, r1, r2, r3, r4⟩ := row5 HRW.out
          by_cases c1 : n ≠ r.args.length
          · have d1 : ((n : Int) == (r.args.length : Int)) = false := beq_eq_false_iff_ne.2 (by omega)
            have hb : decide (badR ⟨op, args, num, text, ty⟩ r) = true := decide_eq_true (.inl (by show args.length ≠ _; rw [← HNN.out]; exact c1))
            have HBD := Lib.hid (congrArg Value.bool hb.symm)
            clear hb
            go_wp2_with fail
            go_meet
            case rel => exact ⟨HBD.out, HSB, HRW, HB8⟩
          have d1 : ((n : Int) == (r.args.length : Int)) = true := beq_iff_eq.2 (by omega)
          by_cases c2 : num < 0
          · have hb : decide (badR ⟨op, args, num, text, ty⟩ r) = true := decide_eq_true (.inr (.inl c2))
            have HBD := Lib.hid (congrArg Value.bool hb.symm)
            clear hb
            go_wp2_with fail
            go_meet
            case rel => exact ⟨HBD.out, HSB, HRW, HB8⟩
          by_cases c3 : num ≠ 0 ∧ r.op ≠ nNumber
          · have hb : decide (badR ⟨op, args, num, text, ty⟩ r) = true := decide_eq_true (.inr (.inr (.inl c3)))
            have d2 : ¬ (num = 0) := c3.1
            have d3 : (r.op == [110, 117, 109, 98, 101, 114]) = false := beq_eq_false_iff_ne.2 c3.2
            have HBD := Lib.hid (congrArg Value.bool hb.symm)
            clear hb c3
            go_wp2_with fail
            go_meet
            case rel => exact ⟨HBD.out, HSB, HRW, HB8⟩
          have HC3 := Lib.hid c3
          have hnum : num = 0 ∨ (num ≠ 0 ∧ r.op = nNumber) := by
            by_cases hz : num = 0
            · exact .inl hz
            · refine .inr ⟨hz, ?_⟩
              by_cases ho : r.op = nNumber
              · exact ho
              · exact absurd ⟨hz, ho⟩ c3
          have hbase : badR ⟨op, args, num, text, ty⟩ r ↔ (text ≠ [] ∧ textsR r = false) := by
            unfold badR
            constructor
            · rintro (h | h | h | h)
              · exact absurd (show n ≠ r.args.length by rw [HNN.out]; exact h) c1
              · exact absurd h c2
              · exact absurd h c3
              · exact h
            · exact fun h => .inr (.inr (.inr h))
          have HBS := Lib.hid hbase
          clear c3 hbase
          have htx := texts_any r (w1.alloc (.cells #[.string ⟨r.op.toArray⟩, .string ⟨r.args.toArray⟩, .int .i64 r.ty, .int .i64 r.cost, .bool r.regex] 59))
          have HTX := Lib.hid htx
          clear htx
          have HNM := Lib.hid hnum
          have hnum2 : num = 0 ∨ (¬ (num = 0) ∧ (r.op == [110, 117, 109, 98, 101, 114]) = true) := hnum.imp id (fun h => ⟨h.1, beq_iff_eq.2 h.2⟩)
          clear hnum
          rcases hnum2 with rfl | ⟨hn0, d3⟩
          all_goals
            by_cases c4 : text = []
            · have HBD := Lib.hid (congrArg Value.bool (bad_dec0 HBS.out c4).symm)
              subst c4
              go_wp2_with fail
              go_meet
              case rel => exact ⟨HBD.out, HSB, HRW, HB8⟩
            · have d4 : (text == []) = false := beq_eq_false_iff_ne.2 c4
              have HBD := Lib.hid (congrArg Value.bool (bad_dec HBS.out c4).symm)
              go_wp2_with (go_at_call 22; refine HTX.out.mono ?_; rintro e w9 ⟨rfl, hb9⟩; have HS9 := Lib.hid (HSB.out.below hb9 HSB.out.lt); have HR9 := Lib.hid (HRW.out.below hb9 HRW.out.lt); have HB9 := Lib.hid (HB8.out.trans (hb9.mono HB8.out.size)); clear hb9)
              go_meet
              case rel => exact ⟨HBD.out, HS9, HR9, HB9⟩
        case rest =>
          obtain ⟨hv, HSC, HRC, HBC⟩ := hcut
          subst hv
          clear HSB HRW HB8 HS7 HB7 HS6 HB6
          have hzc := HBC.out.size
          have hsl := HSC.out.lt
          have hrl := HRC.out.lt
          obtain ⟨s0, s1, s2, s3, s4, _, _, _, _, _⟩ := blk5 HSC.out
          by_cases hbad : badR ⟨op, args, num, text, ty⟩ r
          · have hRR : R = 4 := HR.out.trans (ck_stop HLL.out HN.out HS.out (refE_bad HF.out hbad) (by decide))
            subst hRR
            rw [decide_eq_true hbad]
            clear hbad
            go_wp2_with fail
            go_ret
            exact ⟨rfl, HBC.out⟩
          rw [decide_eq_false hbad]
          have hlen : n ≤ 3 := by
            obtain ⟨o', r', h1, h2, N⟩ := name_ok (firstR_name HF.out).2
            rw [HF.out] at h2
            injection h2 with h2
            subst h2
            have h3 := opR_small h1
            have h4 := N.len
            have h5 : args.length = r.args.length := by
              by_cases he : args.length = r.args.length
              · exact he
              · exact absurd (.inl he) hbad
            have := HNN.out
            omega
          have HBAD := Lib.hid hbad
          clear hbad
          go_wp2_with fail
          go_loopg [9] (n + 1) (fun f v wx => CiRel wc n args k f v wx)
          case atStart => exact ⟨0, rfl, by omega, by omega, Lib.hid (fun a ha => by simp at ha), rfl⟩
          case round =>
            obtain ⟨j, rfl, hj, hjf, HAO, rfl⟩ := hrel
            obtain ⟨f2, rfl⟩ : ∃ f2, gk = f2 + 1 := ⟨gk - 1, by omega⟩
            by_cases hjn : j < n
            · obtain ⟨a, ha⟩ : ∃ a, args[j]? = some a := ⟨args[j]'(by have := HNN.out; omega), List.getElem?_eq_getElem _⟩
              obtain ⟨ba, oa, rfl, hba, hca⟩ := (HRD.out.below HBC.out).form (by omega)
              have z1 := hca j (.int .i64 a) (by rw [List.getElem?_map, ha]; rfl)
              have r0 : (j : Int) < (n : Int) := by omega
              have r1 : (0 : Int) ≤ (j : Int) := by omega
              have HAA := Lib.hid ha
              clear hca ha
              by_cases hneg : a < 0
              · have hRR : R = 4 := HR.out.trans (ck_stop HLL.out HN.out HS.out (refE_arg HF.out HBAD.out (List.mem_of_getElem? HAA.out) (.inl hneg)) (by decide))
                subst hRR
                go_wp2_with fail
                go_ret
                exact ⟨rfl, HBC.out⟩
              by_cases hge : (k : Int) ≤ a
              · have hRR : R = 4 := HR.out.trans (ck_stop HLL.out HN.out HS.out (refE_arg HF.out HBAD.out (List.mem_of_getElem? HAA.out) (.inr hge)) (by decide))
                subst hRR
                go_wp2_with fail
                go_ret
                exact ⟨rfl, HBC.out⟩
              have HAO2 : Hid (∀ a ∈ args.take (j + 1), 0 ≤ a ∧ a < (k : Int)) := Lib.hid (fun a' ha' => by
                rw [List.take_add_one, HAA.out] at ha'
                rcases List.mem_append.1 ha' with h | h
                · exact HAO.out a' h
                · have : a' = a := by simpa using h
                  subst this
                  omega)
              go_wp2_with fail
              go_roundg f2
              case measure => omega
              case rel => exact ⟨j + 1, by go_num, by omega, by omega, HAO2, rfl⟩
            · have hjn : j = n := by omega
              subst hjn
              have r0 : ¬ ((j : Int) < (j : Int)) := by omega
              have hao : ∀ a ∈ args, 0 ≤ a ∧ a < (k : Int) := fun a ha => HAO.out a (by rw [List.take_of_length_le (by rw [HNN.out]; exact Nat.le_refl _)]; exact ha)
              have HGO := Lib.hid (refE_go (l := l) (g := patE text) HF.out HBAD.out hao)
              have K1 := Lib.hid (show ∀ W, Below w.heap.size w W → Calls Tryz.prog 24 #[.slice (some ⟨b, o, none⟩) l.length c, .agg #[.string ⟨op.toArray⟩, .slice As j cs, .int .i64 num, .string ⟨text.toArray⟩, .int .i64 ty]] W fun e w' => e = .returned (.string ⟨(digR l ⟨op, args, num, text, ty⟩).toArray⟩) ∧ Below W.heap.size W w' from fun W hW => by
                have := digits_any (some ⟨b, o, none⟩) c l ⟨op, args, num, text, ty⟩ As cs W (HA.out.below hW) (by show Reads W W.heap.size 1 As args.length _; rw [← HNN.out]; exact (HRD.out.below hW).more hW.size) (by omega) (by show args.length ≤ 100; rw [← HNN.out]; omega) (fun a ha => by have := hao a ha; omega) (fun a ha => by
                  have hb := hao a ha
                  obtain ⟨t, ht⟩ : ∃ t, l[a.toNat]? = some t := ⟨l[a.toNat]'(by omega), List.getElem?_eq_getElem _⟩
                  have := ty_range (HN.out a.toNat t (by omega) ht)
                  unfold tyAt
                  rw [ht]
                  exact this)
                rw [show (St.mk op args num text ty).args.length = j from HNN.out.symm] at this
                exact this)
              have K2 := Lib.hid (show ∀ W, Below w.heap.size w W → Below wc.heap.size wc W → W.cell? ⟨wr.heap.size, 0, none⟩ = some (.string ⟨op.toArray⟩) ∧ W.cell? ⟨wr.heap.size, 1, none⟩ = some (.slice As j cs) ∧ W.cell? ⟨wr.heap.size, 2, none⟩ = some (.int .i64 num) ∧ W.cell? ⟨wr.heap.size, 3, none⟩ = some (.string ⟨text.toArray⟩) ∧ W.cell? ⟨wr.heap.size, 4, none⟩ = some (.int .i64 ty) from fun W _ hW => by
                obtain ⟨s0, s1, s2, s3, s4, _⟩ := blk5 (HSC.out.below hW HSC.out.lt)
                exact ⟨s0, s1, s2, s3, s4⟩)
              have hne7 : wr.heap.size ≠ w1.heap.size := by omega
              cases hfr : findR op (digR l ⟨op, args, num, text, ty⟩) with
              | none =>
                have HFR := Lib.hid hfr
                have HGO2 : refE l k ⟨op, args, num, text, ty⟩ (patE text) = 12 := by
                  rw [HGO.out]
                  show (match findR op (digR l ⟨op, args, num, text, ty⟩) with | none => (12 : Int) | some r2 => _) = 12
                  rw [hfr]
                have hRR : R = 12 := HR.out.trans (ck_stop HLL.out HN.out HS.out HGO2 (by decide))
                subst hRR
                clear hfr HGO2
                go_wp2_with fail
                refine wp_region_noPanic ?_
                refine wp_region_held_drew (S := (fun w' => w'.cell? ⟨wr.heap.size, 0, none⟩ = some (.string ⟨op.toArray⟩) ∧ w'.cell? ⟨wr.heap.size, 1, none⟩ = some (.slice As j cs) ∧ w'.cell? ⟨wr.heap.size, 2, none⟩ = some (.int .i64 num) ∧ w'.cell? ⟨wr.heap.size, 3, none⟩ = some (.string ⟨text.toArray⟩) ∧ w'.cell? ⟨wr.heap.size, 4, none⟩ = some (.int .i64 ty))) (by kernel_rfl) (K2.out _ HBC.out.drew (Below.refl _ _).drew) (fun hHeld => ?_)
                refine wpAnyH_take (i := 0) (v := ?_) rfl (by kernel_rfl) (by kernel_rfl) (by kernel_rfl) (fun _ _ _ h => h) (Or.inl ⟨by rfl, ?_⟩) hHeld ?_
                rotate_left
                · intro w' hSw
                  (try dsimp only at hSw)
                  go_simp <;> with_reducible rfl
                try simp only [Act.put, List.setIfInBounds_toArray, List.set_cons_zero, List.set_cons_succ]
                refine wpAnyH_take (i := 1) (v := ?_) rfl (by kernel_rfl) (by kernel_rfl) (by kernel_rfl) (fun _ _ _ h => h) (Or.inl ⟨by rfl, ?_⟩) hHeld ?_
                rotate_left
                · intro w' hSw
                  (try dsimp only at hSw)
                  go_simp <;> with_reducible rfl
                try simp only [Act.put, List.setIfInBounds_toArray, List.set_cons_zero, List.set_cons_succ]
                refine wpAnyH_take (i := 2) (v := ?_) rfl (by kernel_rfl) (by kernel_rfl) (by kernel_rfl) (fun _ _ _ h => h) (Or.inl ⟨by rfl, ?_⟩) hHeld ?_
                rotate_left
                · intro w' hSw
                  (try dsimp only at hSw)
                  go_simp <;> with_reducible rfl
                try simp only [Act.put, List.setIfInBounds_toArray, List.set_cons_zero, List.set_cons_succ]
                refine wpAnyH_take (i := 3) (v := ?_) rfl (by kernel_rfl) (by kernel_rfl) (by kernel_rfl) (fun _ _ _ h => h) (Or.inl ⟨by rfl, ?_⟩) hHeld ?_
                rotate_left
                · intro w' hSw
                  (try dsimp only at hSw)
                  go_simp <;> with_reducible rfl
                try simp only [Act.put, List.setIfInBounds_toArray, List.set_cons_zero, List.set_cons_succ]
                refine wpAnyH_one (i := 4) (by kernel_rfl) rfl (fun K hK => ?_)
                go_simp
                go_at_call 24
                refine (K1.out wc.drew HBC.out.drew).mono ?_
                rintro e w3 ⟨rfl, hb3⟩
                have hB3 : Below wc.heap.size wc w3 := (Below.drew (Below.refl _ _)).trans hb3
                have hHeld3 := K2.out w3 (HBC.out.trans (hB3.mono hzc)) hB3
                have HB3 := Lib.hid hB3
                clear hb3 hB3 hHeld
                refine hK.out _ _ hHeld3 ?_
                clear hK K
                try simp only [Act.put, List.setIfInBounds_toArray, List.set_cons_zero, List.set_cons_succ]
                refine wpAnyH_one (i := 5) (by kernel_rfl) rfl (fun K hK => ?_)
                go_simp
                go_at_call 23
                refine (find_no HFR.out w3).mono ?_
                rintro e w4 ⟨rfl, hb4⟩
                have hB4 := HB3.out.trans (hb4.mono HB3.out.size)
                have hHeld4 := K2.out w4 (HBC.out.trans (hB4.mono hzc)) hB4
                have HR4 := Lib.hid (HRC.out.below hB4 HRC.out.lt)
                have HS4 := Lib.hid (HSC.out.below hB4 HSC.out.lt)
                have HB4 := Lib.hid (HBC.out.trans (hB4.mono hzc))
                clear hb4 hB4 hHeld3
                refine hK.out _ _ hHeld4 ?_
                clear hK K
                try simp only [Act.put, List.setIfInBounds_toArray, List.set_cons_zero, List.set_cons_succ]
                refine wpAnyH_take (i := 6) (v := ?_) rfl (by kernel_rfl) (by kernel_rfl) (by kernel_rfl) (fun _ _ _ h => h) (Or.inl ⟨by rfl, ?_⟩) hHeld4 ?_
                rotate_left
                · intro w' hSw
                  (try dsimp only at hSw)
                  go_simp <;> with_reducible rfl
                try simp only [Act.put, List.setIfInBounds_toArray, List.set_cons_zero, List.set_cons_succ]
                refine wpAnyH_take (i := 7) (v := ?_) rfl (by kernel_rfl) (by kernel_rfl) (by kernel_rfl) (fun _ _ _ h => h) (Or.inl ⟨by rfl, ?_⟩) hHeld4 ?_
                rotate_left
                · intro w' hSw
                  (try dsimp only at hSw)
                  go_simp <;> with_reducible rfl
                try simp only [Act.put, List.setIfInBounds_toArray, List.set_cons_zero, List.set_cons_succ]
                refine wpAnyH_take (i := 8) (v := ?_) rfl (by kernel_rfl) (by kernel_rfl) (by kernel_rfl) (fun _ _ _ h => h) (Or.inl ⟨by rfl, ?_⟩) hHeld4 ?_
                rotate_left
                · intro w' hSw
                  (try dsimp only at hSw)
                  go_simp <;> with_reducible rfl
                try simp only [Act.put, List.setIfInBounds_toArray, List.set_cons_zero, List.set_cons_succ]
                clear hHeld4
                obtain ⟨y0, y1, y2, y3, y4, n0, n1, n2, n3, n4⟩ := blk5 HR4.out
                refine wpAnyH_one (i := 9) (by kernel_rfl) rfl (fun K hK => ?_)
                go_simp
                have HR5 := Lib.hid (((((HR4.out.set_ 0 (.string ⟨#[]⟩)).set_ 1 (.string ⟨#[]⟩)).set_ 2 (.int .i64 0)).set_ 3 (.int .i64 0)).set_ 4 (.bool false))
                have HS5 := Lib.hid (((((HS4.out.far (p := ⟨w1.heap.size, 0, none⟩) hne7 (.string ⟨#[]⟩)).far (p := ⟨w1.heap.size, 1, none⟩) hne7 (.string ⟨#[]⟩)).far (p := ⟨w1.heap.size, 2, none⟩) hne7 (.int .i64 0)).far (p := ⟨w1.heap.size, 3, none⟩) hne7 (.int .i64 0)).far (p := ⟨w1.heap.size, 4, none⟩) hne7 (.bool false))
                have HB5 := Lib.hid (five_set (g := w1.heap.size) (a := .string ⟨#[]⟩) (b := .string ⟨#[]⟩) (c := .int .i64 0) (d := .int .i64 0) (e := .bool false) HB4.out hz7)
                clear y0 y1 y2 y3 y4 n0 n1 n2 n3 n4 HB3 HB4 HR4 HS4
                generalize (((((w4.setCell ⟨w1.heap.size, 0, none⟩ (.string ⟨#[]⟩)).setCell ⟨w1.heap.size, 1, none⟩ (.string ⟨#[]⟩)).setCell ⟨w1.heap.size, 2, none⟩ (.int .i64 0)).setCell ⟨w1.heap.size, 3, none⟩ (.int .i64 0)).setCell ⟨w1.heap.size, 4, none⟩ (.bool false)) = wz at *
                refine hK.out _ _ (by obtain ⟨s0, s1, s2, s3, s4, _⟩ := blk5 HS5.out; exact ⟨s0, s1, s2, s3, s4⟩) ?_
                clear hK K
                try simp only [Act.put, List.setIfInBounds_toArray, List.set_cons_zero, List.set_cons_succ]
                refine wpAnyH_one (i := 10) (by kernel_rfl) rfl (fun K hK => ?_)
                go_simp
                refine hK.out _ _ (by obtain ⟨s0, s1, s2, s3, s4, _⟩ := blk5 HS5.out; exact ⟨s0, s1, s2, s3, s4⟩) ?_
                clear hK K
                refine wpAnyH_done (by kernel_rfl) ?_ _
                refine NoPanic.normal ?_
                try simp only [Act.put, List.setIfInBounds_toArray, List.set_cons_zero, List.set_cons_succ]
                obtain ⟨s0, s1, s2, s3, s4, _, _, _, _, _⟩ := blk5 HS5.out
                go_wp2_with fail
                go_ret
                exact ⟨rfl, HB5.out⟩
              | some r2 =>
                have HFR := Lib.hid hfr
                have HGO2 := Lib.hid (show refE l k ⟨op, args, num, text, ty⟩ (patE text) = if r2.ty ≠ ty then 12 else if r2.regex = true ∧ patE text ≠ 0 then patE text else 0 by
                  rw [HGO.out]
                  show (match findR op (digR l ⟨op, args, num, text, ty⟩) with | none => (12 : Int) | some r2 => if r2.ty ≠ ty then 12 else if r2.regex = true ∧ patE text ≠ 0 then patE text else 0) = _
                  rw [hfr])
                clear hfr
                go_wp2_with fail
                refine wp_region_noPanic ?_
                refine wp_region_held_drew (S := (fun w' => w'.cell? ⟨wr.heap.size, 0, none⟩ = some (.string ⟨op.toArray⟩) ∧ w'.cell? ⟨wr.heap.size, 1, none⟩ = some (.slice As j cs) ∧ w'.cell? ⟨wr.heap.size, 2, none⟩ = some (.int .i64 num) ∧ w'.cell? ⟨wr.heap.size, 3, none⟩ = some (.string ⟨text.toArray⟩) ∧ w'.cell? ⟨wr.heap.size, 4, none⟩ = some (.int .i64 ty))) (by kernel_rfl) (K2.out _ HBC.out.drew (Below.refl _ _).drew) (fun hHeld => ?_)
                refine wpAnyH_take (i := 0) (v := ?_) rfl (by kernel_rfl) (by kernel_rfl) (by kernel_rfl) (fun _ _ _ h => h) (Or.inl ⟨by rfl, ?_⟩) hHeld ?_
                rotate_left
                · intro w' hSw
                  (try dsimp only at hSw)
                  go_simp <;> with_reducible rfl
                try simp only [Act.put, List.setIfInBounds_toArray, List.set_cons_zero, List.set_cons_succ]
                refine wpAnyH_take (i := 1) (v := ?_) rfl (by kernel_rfl) (by kernel_rfl) (by kernel_rfl) (fun _ _ _ h => h) (Or.inl ⟨by rfl, ?_⟩) hHeld ?_
                rotate_left
                · intro w' hSw
                  (try dsimp only at hSw)
                  go_simp <;> with_reducible rfl
                try simp only [Act.put, List.setIfInBounds_toArray, List.set_cons_zero, List.set_cons_succ]
                refine wpAnyH_take (i := 2) (v := ?_) rfl (by kernel_rfl) (by kernel_rfl) (by kernel_rfl) (fun _ _ _ h => h) (Or.inl ⟨by rfl, ?_⟩) hHeld ?_
                rotate_left
                · intro w' hSw
                  (try dsimp only at hSw)
                  go_simp <;> with_reducible rfl
                try simp only [Act.put, List.setIfInBounds_toArray, List.set_cons_zero, List.set_cons_succ]
                refine wpAnyH_take (i := 3) (v := ?_) rfl (by kernel_rfl) (by kernel_rfl) (by kernel_rfl) (fun _ _ _ h => h) (Or.inl ⟨by rfl, ?_⟩) hHeld ?_
                rotate_left
                · intro w' hSw
                  (try dsimp only at hSw)
                  go_simp <;> with_reducible rfl
                try simp only [Act.put, List.setIfInBounds_toArray, List.set_cons_zero, List.set_cons_succ]
                refine wpAnyH_one (i := 4) (by kernel_rfl) rfl (fun K hK => ?_)
                go_simp
                go_at_call 24
                refine (K1.out wc.drew HBC.out.drew).mono ?_
                rintro e w3 ⟨rfl, hb3⟩
                have hB3 : Below wc.heap.size wc w3 := (Below.drew (Below.refl _ _)).trans hb3
                have hHeld3 := K2.out w3 (HBC.out.trans (hB3.mono hzc)) hB3
                have HB3 := Lib.hid hB3
                clear hb3 hB3 hHeld
                refine hK.out _ _ hHeld3 ?_
                clear hK K
                try simp only [Act.put, List.setIfInBounds_toArray, List.set_cons_zero, List.set_cons_succ]
                refine wpAnyH_one (i := 5) (by kernel_rfl) rfl (fun K hK => ?_)
                go_simp
                go_at_call 23
                refine (find_yes HFR.out w3).mono ?_
                rintro e w4 ⟨rfl, hb4⟩
                have hB4 := HB3.out.trans (hb4.mono HB3.out.size)
                have hHeld4 := K2.out w4 (HBC.out.trans (hB4.mono hzc)) hB4
                have HR4 := Lib.hid (HRC.out.below hB4 HRC.out.lt)
                have HS4 := Lib.hid (HSC.out.below hB4 HSC.out.lt)
                have HB4 := Lib.hid (HBC.out.trans (hB4.mono hzc))
                clear hb4 hB4 hHeld3
                refine hK.out _ _ hHeld4 ?_
                clear hK K
                try simp only [Act.put, List.setIfInBounds_toArray, List.set_cons_zero, List.set_cons_succ]
                refine wpAnyH_take (i := 6) (v := ?_) rfl (by kernel_rfl) (by kernel_rfl) (by kernel_rfl) (fun _ _ _ h => h) (Or.inl ⟨by rfl, ?_⟩) hHeld4 ?_
                rotate_left
                · intro w' hSw
                  (try dsimp only at hSw)
                  go_simp <;> with_reducible rfl
                try simp only [Act.put, List.setIfInBounds_toArray, List.set_cons_zero, List.set_cons_succ]
                refine wpAnyH_take (i := 7) (v := ?_) rfl (by kernel_rfl) (by kernel_rfl) (by kernel_rfl) (fun _ _ _ h => h) (Or.inl ⟨by rfl, ?_⟩) hHeld4 ?_
                rotate_left
                · intro w' hSw
                  (try dsimp only at hSw)
                  go_simp <;> with_reducible rfl
                try simp only [Act.put, List.setIfInBounds_toArray, List.set_cons_zero, List.set_cons_succ]
                refine wpAnyH_take (i := 8) (v := ?_) rfl (by kernel_rfl) (by kernel_rfl) (by kernel_rfl) (fun _ _ _ h => h) (Or.inl ⟨by rfl, ?_⟩) hHeld4 ?_
                rotate_left
                · intro w' hSw
                  (try dsimp only at hSw)
                  go_simp <;> with_reducible rfl
                try simp only [Act.put, List.setIfInBounds_toArray, List.set_cons_zero, List.set_cons_succ]
                clear hHeld4
                obtain ⟨y0, y1, y2, y3, y4, n0, n1, n2, n3, n4⟩ := blk5 HR4.out
                refine wpAnyH_one (i := 9) (by kernel_rfl) rfl (fun K hK => ?_)
                go_simp
                have HR5 := Lib.hid (((((HR4.out.set_ 0 (.string ⟨r2.op.toArray⟩)).set_ 1 (.string ⟨r2.args.toArray⟩)).set_ 2 (.int .i64 r2.ty)).set_ 3 (.int .i64 r2.cost)).set_ 4 (.bool r2.regex))
                have HS5 := Lib.hid (((((HS4.out.far (p := ⟨w1.heap.size, 0, none⟩) hne7 (.string ⟨r2.op.toArray⟩)).far (p := ⟨w1.heap.size, 1, none⟩) hne7 (.string ⟨r2.args.toArray⟩)).far (p := ⟨w1.heap.size, 2, none⟩) hne7 (.int .i64 r2.ty)).far (p := ⟨w1.heap.size, 3, none⟩) hne7 (.int .i64 r2.cost)).far (p := ⟨w1.heap.size, 4, none⟩) hne7 (.bool r2.regex))
                have HB5 := Lib.hid (five_set (g := w1.heap.size) (a := .string ⟨r2.op.toArray⟩) (b := .string ⟨r2.args.toArray⟩) (c := .int .i64 r2.ty) (d := .int .i64 r2.cost) (e := .bool r2.regex) HB4.out hz7)
                clear y0 y1 y2 y3 y4 n0 n1 n2 n3 n4 HB3 HB4 HR4 HS4
                generalize (((((w4.setCell ⟨w1.heap.size, 0, none⟩ (.string ⟨r2.op.toArray⟩)).setCell ⟨w1.heap.size, 1, none⟩ (.string ⟨r2.args.toArray⟩)).setCell ⟨w1.heap.size, 2, none⟩ (.int .i64 r2.ty)).setCell ⟨w1.heap.size, 3, none⟩ (.int .i64 r2.cost)).setCell ⟨w1.heap.size, 4, none⟩ (.bool r2.regex)) = wz at *
                refine hK.out _ _ (by obtain ⟨s0, s1, s2, s3, s4, _⟩ := blk5 HS5.out; exact ⟨s0, s1, s2, s3, s4⟩) ?_
                clear hK K
                try simp only [Act.put, List.setIfInBounds_toArray, List.set_cons_zero, List.set_cons_succ]
                refine wpAnyH_one (i := 10) (by kernel_rfl) rfl (fun K hK => ?_)
                go_simp
                refine hK.out _ _ (by obtain ⟨s0, s1, s2, s3, s4, _⟩ := blk5 HS5.out; exact ⟨s0, s1, s2, s3, s4⟩) ?_
                clear hK K
                refine wpAnyH_done (by kernel_rfl) ?_ _
                refine NoPanic.normal ?_
                try simp only [Act.put, List.setIfInBounds_toArray, List.set_cons_zero, List.set_cons_succ]
                obtain ⟨s0, s1, s2, s3, s4, _, _, _, _, _⟩ := blk5 HS5.out
                obtain ⟨r0', r1', r2', r3', r4'⟩ := row5 HR5.out
                obtain ⟨bg, og, hAr, hbg, hcg⟩ := (HG.out.below HB5.out).form (by omega)
                subst hAr
                have z2 := hcg k (.int .i64 (patE text)) (by rw [List.getElem?_map, HS.out]; rfl)
                clear hcg
                by_cases hty : r2.ty = ty
                · by_cases hrx : r2.regex = true
                  · by_cases hp : patE text = 0
                    · have HN' : Hid (∀ (j' : Nat) (s : St), j' < k + 1 → l[j']? = some s → stepE l j' s = 0) := Lib.hid (fun j' s' hj' hs' => by
                        by_cases hjk : j' < k
                        · exact HN.out j' s' hjk hs'
                        · have : j' = k := by omega
                          subst this
                          have h := HS.out
                          rw [hs'] at h
                          injection h with h
                          subst h
                          exact (refE_eq hlt HN.out).symm.trans (HGO2.out.trans (by rw [if_neg (by simp [hty]), if_neg (by simp [hp])])))
                      go_wp2_with fail
                      go_roundg f
                      case measure => omega
                      case rel => exact ⟨k + 1, by go_num, by omega, by omega, HN', HB5⟩
                    · have hRR : R = patE text := HR.out.trans (ck_stop HLL.out HN.out HS.out (HGO2.out.trans (by rw [if_neg (by simp [hty]), if_pos ⟨hrx, hp⟩])) hp)
                      subst hRR
                      go_wp2_with fail
                      go_ret
                      exact ⟨rfl, HB5.out⟩
                  · have hrf : r2.regex = false := by simpa using hrx
                    clear hrx
                    have HN' : Hid (∀ (j' : Nat) (s : St), j' < k + 1 → l[j']? = some s → stepE l j' s = 0) := Lib.hid (fun j' s' hj' hs' => by
                      by_cases hjk : j' < k
                      · exact HN.out j' s' hjk hs'
                      · have : j' = k := by omega
                        subst this
                        have h := HS.out
                        rw [hs'] at h
                        injection h with h
                        subst h
                        exact (refE_eq hlt HN.out).symm.trans (HGO2.out.trans (by rw [if_neg (by simp [hty]), if_neg (by simp [hrf])])))
                    go_wp2_with fail
                    go_roundg f
                    case measure => omega
                    case rel => exact ⟨k + 1, by go_num, by omega, by omega, HN', HB5⟩
                · have hRR : R = 12 := HR.out.trans (ck_stop HLL.out HN.out HS.out (HGO2.out.trans (if_pos hty)) (by decide))
                  subst hRR
                  go_wp2_with fail
                  go_ret
                  exact ⟨rfl, HB5.out⟩
    · have hkl : k = l.length := by omega
      subst hkl
      have q2 : ¬ ((l.length : Int) < (l.length : Int)) := by omega
      have hRR : R = 0 := by
        rw [HR.out]
        unfold checkR
        rw [if_neg (by omega)]
        exact (checkF_zero _ _).2 (fun j s hs => by rw [Nat.zero_add]; exact HN.out j s (List.getElem?_eq_some_iff.1 hs).1 hs)
      subst hRR
      go_wp2_with fail
      go_ret
      exact ⟨rfl, HB.out⟩
end Go.Proofs.YtoegklpomlhneaaGreatDoor
