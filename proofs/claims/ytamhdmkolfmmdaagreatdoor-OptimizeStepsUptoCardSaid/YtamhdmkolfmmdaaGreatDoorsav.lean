/- The walk of optimize's remove at any step but the last. The walk of optimize's remove at any step but the last. The walks of optimize's replaceable and replace. The walk of optimize's replace. The walks of optimize's small questions: is, isString, isEmpty, number (printed by gen_ozb.py). -/
import Derived.Test.YtamhdmkolfmmdaaGreatDoorsau
import Derived.Test.YtamhdmkolfmmdaaGreatDoorsaa
set_option linter.unusedVariables false
set_option linter.unusedSimpArgs false
namespace Go.Proofs.YtamhdmkolfmmdaaGreatDoor
open Go.RowKit
def kaj (f : Int → Int) (i p : Nat) (l : List St) : List St := l.mapIdx fun q s => if i ≤ q ∧ q < i + p then Oz.mapA f s else s
theorem kdQ (f : Int → Int) (i p : Nat) (l : List St) : (kaj f i p l).length = l.length := by unfold kaj; simp
theorem kbU (f : Int → Int) (i p : Nat) (l : List St) (q : Nat) : (kaj f i p l)[q]? = (l[q]?).map fun s => if i ≤ q ∧ q < i + p then Oz.mapA f s else s := by
 unfold kaj
 rw [List.getElem?_mapIdx]
theorem kcv (f : Int → Int) (i : Nat) (l : List St) : kaj f i 0 l = l := by
 apply List.ext_getElem?
 intro q
 rw [kbU]
 cases l[q]? with
 | none => rfl
 | some s => rw [Option.map_some, if_neg (by omega)]
theorem mapFrom_get {f : Int → Int} {i p : Nat} {l : List St} : (kaj f i p l)[i + p]? = l[i + p]? := by
 rw [kbU]
 cases l[i + p]? with
 | none => rfl
 | some s => rw [Option.map_some, if_neg (by omega)]
theorem kcw {f : Int → Int} {i p : Nat} {l : List St} {s : St} (h : l[i + p]? = some s) : kaj f i (p + 1) l = (kaj f i p l).set (i + p) (Oz.mapA f s) := by
 have hl := (gH h).1
 apply List.ext_getElem?
 intro q
 by_cases hq : i + p = q
 ·
  subst hq
  rw [List.getElem?_set_self (by rw [kdQ]; exact hl), kbU, h, Option.map_some, if_pos (by omega)]
 ·
  rw [List.getElem?_set_ne hq, kbU, kbU]
  cases l[q]? with
  | none => rfl
  | some t =>
   rw [Option.map_some, Option.map_some]
   by_cases hc : i ≤ q ∧ q < i + p
   ·
    rw [if_pos (by omega), if_pos hc]
   ·
    rw [if_neg (by omega), if_neg hc]
theorem kcU {f : Int → Int} {i p : Nat} {l : List St} (h : i + p = l.length) : kaj f i p l = l.take i ++ (l.drop i).map (Oz.mapA f) := by
 apply List.ext_getElem?
 intro q
 rw [kbU]
 by_cases hq : q < i
 ·
  rw [List.getElem?_append_left (by rw [List.length_take]; omega), List.getElem?_take, if_pos hq]
  cases l[q]? with
  | none => rfl
  | some s => rw [Option.map_some, if_neg (by omega)]
 ·
  rw [List.getElem?_append_right (by rw [List.length_take]; omega), List.getElem?_map, List.getElem?_drop, List.length_take, show i + (q - min i l.length) = q by omega]
  by_cases hql : q < l.length
  ·
   rw [List.getElem?_eq_getElem hql, Option.map_some, Option.map_some, if_pos (by omega)]
  ·
   rw [List.getElem?_eq_none (by omega)]
   rfl
def kau (f : Int → Int) (args : List Int) (k : Nat) : List Int := (args.take k).map f ++ args.drop k
theorem kcC (f : Int → Int) (args : List Int) (k : Nat) : (kau f args k).length = args.length := by unfold kau; simp; omega
theorem argsTo_get {f : Int → Int} {args : List Int} {k : Nat} : (kau f args k)[k]? = args[k]? := by
 unfold kau
 by_cases h : k < args.length
 ·
  rw [List.getElem?_append_right (by simp; omega), List.getElem?_drop]
  congr 1
  simp
  omega
 ·
  rw [List.getElem?_eq_none (by simp; omega), List.getElem?_eq_none (by omega)]
theorem kcl {f : Int → Int} {args : List Int} {k : Nat} {a : Int} (h : args[k]? = some a) : kau f args (k + 1) = (kau f args k).set k (f a) := by
 have hk := (gH h).1
 unfold kau
 rw [List.take_add_one, h, Option.toList_some, List.map_append, List.map_singleton, List.set_append_right _ _ (by simp; omega), List.length_map, List.length_take, show k - min k args.length = 0 by omega]
 have h0 : args.drop k = a :: args.drop (k + 1) := by
  rw [List.drop_eq_getElem_cons hk]
  congr 1
  rw [List.getElem?_eq_getElem hk] at h
  injection h
 rw [h0]
 simp
theorem kcY {f : Int → Int} {args : List Int} {k : Nat} {a : Int} (h : args[k]? = some a) (hf : f a = a) : kau f args (k + 1) = kau f args k := by
 rw [kcl h, hf]
 apply List.ext_getElem?
 intro q
 by_cases hq : k = q
 ·
  subst hq
  rw [List.getElem?_set_self (by rw [kcC]; exact (gH h).1), argsTo_get, h]
 ·
  rw [List.getElem?_set_ne hq]
theorem kcX (f : Int → Int) (args : List Int) : kau f args 0 = args := by unfold kau; simp
theorem kdl (f : Int → Int) (args : List Int) : kau f args args.length = args.map f := by unfold kau; simp
theorem kkk {l : List St} {i : Nat} (hi : i < l.length) : Oz.removeR l i = (l.eraseIdx i).take i ++ ((l.eraseIdx i).drop i).map (Oz.mapA fun a => if (i : Int) < a then a - 1 else a) := by
 unfold Oz.removeR
 rw [List.eraseIdx_eq_take_drop_succ]
 have h1 : (l.take i ++ l.drop (i + 1)).take i = l.take i := by
  rw [List.take_append_of_le_length (by rw [List.length_take]; omega), List.take_take, Nat.min_self]
 have h2 : (l.take i ++ l.drop (i + 1)).drop i = l.drop (i + 1) := by
  have hl : (l.take i).length = i := by rw [List.length_take]; omega
  have := List.drop_left (l₁ := l.take i) (l₂ := l.drop (i + 1))
  rwa [hl] at this
 rw [h1, h2]
set_option maxRecDepth 100000
set_option maxHeartbeats 8000000
theorem y64 {P : Prop} (h : P := by
 obtain ⟨wo, hwo⟩ := xE (wr.alloc (.cells #[.string ⟨s.op.toArray⟩, .slice A s.args.length c, .int .i64 s.num, .string ⟨s.text.toArray⟩, .int .i64 s.ty] 77))
 rw [← hwo]
 have hkb : Blk wo wr.heap.size 77 #[.string ⟨s.op.toArray⟩, .slice A s.args.length c, .int .i64 s.num, .string ⟨s.text.toArray⟩, .int .i64 s.ty] := by rw [hwo]; exact Blk.new _ _ _
 have y1 := hkb.cell 1
 simp only [gA, gB, gC] at y1
 have HKB := hD hkb
 first
 | guard_hyp t507q0
   first
   | guard_hyp t12q0
     have HEo : Hid (EdX wo base g gs cap ((kaj (fIn i) i p l).set (i + p) { s with args := kau (fIn i) s.args 0 }) vs V) := hD (by rw [HSET.out, hwo]; exact HE3.out _)
   | have HEo : Hid (EdX wo base g gs cap ((kaj (fRm i) i p l1).set (i + p) { s with args := kau (fRm i) s.args 0 }) (vs.eraseIdx i) V) := hD (by rw [HSET.out, hwo]; exact HE3.out _)
   have HFo : Hid (FrX base w wo) := hD (by rw [hwo]; exact HF3.out _)
   first
   | guard_hyp t12q0
     have HBo : Hid (Blk wo w.heap.size 77 #[.string ⟨op.toArray⟩, .slice AP xs.length cP, .int .i64 num, .string ⟨text.toArray⟩, .int .i64 ty]) := hD (by rw [hwo]; exact HB3.out _)
     have HOo : Hid (wo.ownsRow base 3 1 (.slice AP xs.length cP) xs.length (xs.map (Value.int .i64))) := hD (by rw [hwo]; exact HO3.out _)
     clear hwo hkb HE3 HF3 HB3 HO3 HSET x0 x1 x2 x3 x4
   | clear hwo hkb HE3 HF3 HSET x0 x1 x2 x3 x4
   go_wp2_with fail
   clear y1
   first
   | guard_hyp t12q0
     go_loopg [8, 9, 24] (s.args.length + 1) (fun f _ _ c' wi => IniRel base g gs cap (fIn i) i p l s vs V w wr.heap.size #[.string ⟨s.op.toArray⟩, .slice A s.args.length c, .int .i64 s.num, .string ⟨s.text.toArray⟩, .int .i64 s.ty] w.heap.size #[.string ⟨op.toArray⟩, .slice AP xs.length cP, .int .i64 num, .string ⟨text.toArray⟩, .int .i64 ty] (.slice AP xs.length cP) xs f c' wi)
     case atStart => exact ⟨0, rfl, by omega, by omega, HKB, HEo, HFo, HBo, HOo⟩
   | go_loopg [6, 7, 33] (s.args.length + 1) (fun f _ _ c' wi => XiRel base g gs cap (fRm i) i p l1 s (vs.eraseIdx i) V w wr.heap.size #[.string ⟨s.op.toArray⟩, .slice A s.args.length c, .int .i64 s.num, .string ⟨s.text.toArray⟩, .int .i64 s.ty] f c' wi)
     case atStart => exact ⟨0, rfl, by omega, by omega, HKB, HEo, HFo⟩
   case round =>
    first
    | guard_hyp t12q0
      clear HKB HEo HFo HBo HOo
      obtain ⟨k, rfl, hk, hkf, HK0, HE, HF, HB0, HOW⟩ := hrel
    | clear HKB HEo HFo
      obtain ⟨k, rfl, hk, hkf, HK0, HE, HF⟩ := hrel
    obtain ⟨f2, rfl⟩ : ∃ f2, gk = f2 + 1 := ⟨gk - 1, by omega⟩
    by_cases hkl : k < s.args.length
    ·
     obtain ⟨a, ha⟩ : ∃ a, s.args[k]? = some a := ⟨s.args[k], List.getElem?_eq_getElem hkl⟩
     have hab := HSB.out a (List.mem_of_getElem? ha)
     first
     | guard_hyp t12q0
       obtain ⟨q, c2, hv2, hca, hfz, hbq, hset⟩ := HE.out.setArg (i := i + p) (k := k) (List.getElem?_set_self HLEN.out) HV.out (show k < (kau (fIn i) s.args k).length by rw [kcC]; exact hkl) (a + 1)
     | obtain ⟨q, c2, hv2, hca, hfz, hbq, hset⟩ := HE.out.setArg (i := i + p) (k := k) (List.getElem?_set_self HLEN.out) HV.out (show k < (kau (fRm i) s.args k).length by rw [kcC]; exact hkl) (a - 1)
     injection hv2 with hA hlen hcc
     clear hlen
     subst hA hcc
     have y5 := hca a (argsTo_get.trans ha)
     have k1 := HK0.out.cell 1
     simp only [gA, gB, gC] at k1
     have p0 : (k : Int) < (s.args.length : Int) := by omega
     have p1 : (0 : Int) ≤ (k : Int) := by omega
     have hbl : ∃ cur, Blk wr q 3 cur := (kaq (HE.out.own (i + p) _ _ (List.getElem?_set_self HLEN.out) HV.out) rfl).2
     first
     | guard_hyp t12q0
       by_cases hia : (i : Int) ≤ a
     | by_cases hia : (i : Int) < a
     ·
      first
      | guard_hyp t12q0
        have hfa : fIn i a = a + 1 := if_pos hia
        have HES : Hid (EdX (wr.setCell ⟨q, k, none⟩ (.int .i64 (a + 1))) base g gs cap ((kaj (fIn i) i p l).set (i + p) { s with args := kau (fIn i) s.args (k + 1) }) vs V) := hD (by
         have h := hset
         rw [List.set_set] at h
         rw [kcl ha, hfa]
         exact h)
      | have hfa : fRm i a = a - 1 := if_pos hia
        have HES : Hid (EdX (wr.setCell ⟨q, k, none⟩ (.int .i64 (a - 1))) base g gs cap ((kaj (fRm i) i p l1).set (i + p) { s with args := kau (fRm i) s.args (k + 1) }) (vs.eraseIdx i) V) := hD (by
         have h := hset
         rw [List.set_set] at h
         rw [kcl ha, hfa]
         exact h)
      obtain ⟨cur, hB⟩ := hbl
      first
      | guard_hyp t12q0
        have HFS := hD (HF.out.setCell (p := ⟨q, k, none⟩) hbq hB (by decide) (.int .i64 (a + 1)))
        have HKS := hD (HK0.out.far (p := ⟨q, k, none⟩) (HK0.out.ne_ hB (by decide)) (.int .i64 (a + 1)))
        have HBS := hD (HB0.out.far (p := ⟨q, k, none⟩) (HB0.out.ne_ hB (by decide)) (.int .i64 (a + 1)))
        have HOS : Hid ((wr.setCell ⟨q, k, none⟩ (.int .i64 (a + 1))).ownsRow base 3 1 (.slice AP xs.length cP) xs.length (xs.map (Value.int .i64))) := hD (kaA HOW.out (fun b hb => Below.heap_setCell wr ⟨q, k, none⟩ _ b (fun e => by
         rcases HD.out _ _ HV.out with h0 | h0
         ·
          rw [hb] at h0; cases h0
         ·
          exact h0 (by rw [hb, e]; rfl))))
        have hw := IntWalk.i64_in (a + 1) (by omega)
        clear ha hab hca hset hB hfa
      | have HFS := hD (HF.out.setCell (p := ⟨q, k, none⟩) hbq hB (by decide) (.int .i64 (a - 1)))
        have HKS := hD (HK0.out.far (p := ⟨q, k, none⟩) (HK0.out.ne_ hB (by decide)) (.int .i64 (a - 1)))
        have hw := IntWalk.i64_in (a - 1) (by omega)
        clear ha hab hca hset hB
      go_wp2_with fail
      go_roundg f2
      case measure => omega
      first
      | guard_hyp t12q0
        case rel => exact ⟨k + 1, by go_num, by omega, by omega, HKS, HES, HFS, HBS, HOS⟩
      | case rel => exact ⟨k + 1, by go_num, by omega, by omega, HKS, HES, HFS⟩
     ·
      first
      | guard_hyp t12q0
        have hfa : fIn i a = a := if_neg hia
        have HES : Hid (EdX wr base g gs cap ((kaj (fIn i) i p l).set (i + p) { s with args := kau (fIn i) s.args (k + 1) }) vs V) := hD (by rw [kcY ha hfa]; exact HE.out)
        clear ha hab hca hset hbl hfa
      | have hfa : fRm i a = a := if_neg hia
        have HES : Hid (EdX wr base g gs cap ((kaj (fRm i) i p l1).set (i + p) { s with args := kau (fRm i) s.args (k + 1) }) (vs.eraseIdx i) V) := hD (by rw [kcY ha hfa]; exact HE.out)
        clear ha hab hca hset hbl
      go_wp2_with fail
      go_roundg f2
      case measure => omega
      first
      | guard_hyp t12q0
        case rel => exact ⟨k + 1, by go_num, by omega, by omega, HK0, HES, HF, HB0, HOW⟩
      | case rel => exact ⟨k + 1, by go_num, by omega, by omega, HK0, HES, HF⟩
    ·
     have hkk : k = s.args.length := by omega
     subst hkk
     have p0 : ¬ ((s.args.length : Int) < (s.args.length : Int)) := by omega
     first
     | guard_hyp t12q0
       have HEE : Hid (EdX wr base g gs cap (kaj (fIn i) i (p + 1) l) vs V) := hD (by
        have h := HE.out
        rw [kdl] at h
        rw [HMS.out]
        exact h)
     | have HEE : Hid (EdX wr base g gs cap (kaj (fRm i) i (p + 1) l1) (vs.eraseIdx i) V) := hD (by
        have h := HE.out
        rw [kdl] at h
        rw [HMS.out]
        exact h)
     go_wp2_with fail
     go_roundg f
     case measure => omega
     first
     | guard_hyp t12q0
       case rel => exact ⟨p + 1, by go_num, by omega, by omega, HEE, HF, HB0, HOW⟩
     | case rel => exact ⟨p + 1, by go_num, by omega, by omega, HEE, HF⟩
 | have HEo : Hid (EdX wo base g gs cap ((kaj (fRp i j) (i + 1) p l).set (i + 1 + p) { s with args := kau (fRp i j) s.args 0 }) vs V) := hD (by rw [HSET.out, hwo]; exact HE3.out _)
   have HFo : Hid (FrX base w wo) := hD (by rw [hwo]; exact HF3.out _)
   clear hwo hkb HE3 HF3 HSET x0 x1 x2 x3 x4
   go_wp2_with fail
   clear y1
   go_loopg [9, 10, 49] (s.args.length + 1) (fun f _ _ c' wi => XiRel base g gs cap (fRp i j) (i + 1) p l s vs V w wr.heap.size #[.string ⟨s.op.toArray⟩, .slice A s.args.length c, .int .i64 s.num, .string ⟨s.text.toArray⟩, .int .i64 s.ty] f c' wi)
   case atStart => exact ⟨0, rfl, by omega, by omega, HKB, HEo, HFo⟩
   case round =>
    clear HKB HEo HFo
    obtain ⟨k, rfl, hk, hkf, HK0, HE, HF⟩ := hrel
    obtain ⟨f2, rfl⟩ : ∃ f2, gk = f2 + 1 := ⟨gk - 1, by omega⟩
    by_cases hkl : k < s.args.length
    ·
     obtain ⟨a, ha⟩ : ∃ a, s.args[k]? = some a := ⟨s.args[k], List.getElem?_eq_getElem hkl⟩
     have hab := HSB.out a (List.mem_of_getElem? ha)
     obtain ⟨q, c2, hv2, hca, hfz, hbq, hset⟩ := HE.out.setArg (i := i + 1 + p) (k := k) (List.getElem?_set_self HLEN.out) HV.out (show k < (kau (fRp i j) s.args k).length by rw [kcC]; exact hkl) (j : Int)
     injection hv2 with hA hlen hcc
     clear hlen
     subst hA hcc
     have y5 := hca a (argsTo_get.trans ha)
     have k1 := HK0.out.cell 1
     simp only [gA, gB, gC] at k1
     have p0 : (k : Int) < (s.args.length : Int) := by omega
     have p1 : (0 : Int) ≤ (k : Int) := by omega
     have hbl : ∃ cur, Blk wr q 3 cur := (kaq (HE.out.own (i + 1 + p) _ _ (List.getElem?_set_self HLEN.out) HV.out) rfl).2
     by_cases hia : a = (i : Int)
     ·
      have hfa : fRp i j a = (j : Int) := if_pos hia
      have HES : Hid (EdX (wr.setCell ⟨q, k, none⟩ (.int .i64 j)) base g gs cap ((kaj (fRp i j) (i + 1) p l).set (i + 1 + p) { s with args := kau (fRp i j) s.args (k + 1) }) vs V) := hD (by
       have h := hset
       rw [List.set_set] at h
       rw [kcl ha, hfa]
       exact h)
      obtain ⟨cur, hB⟩ := hbl
      have HFS := hD (HF.out.setCell (p := ⟨q, k, none⟩) hbq hB (by decide) (.int .i64 j))
      have HKS := hD (HK0.out.far (p := ⟨q, k, none⟩) (HK0.out.ne_ hB (by decide)) (.int .i64 j))
      clear ha hab hca hset hB hfa
      subst hia
      go_wp2_with fail
      go_roundg f2
      case measure => omega
      case rel => exact ⟨k + 1, by go_num, by omega, by omega, HKS, HES, HFS⟩
     ·
      have hfa : fRp i j a = a := if_neg hia
      have HES : Hid (EdX wr base g gs cap ((kaj (fRp i j) (i + 1) p l).set (i + 1 + p) { s with args := kau (fRp i j) s.args (k + 1) }) vs V) := hD (by rw [kcY ha hfa]; exact HE.out)
      have hne : (a == (i : Int)) = false := beq_eq_false_iff_ne.2 hia
      clear ha hab hca hset hbl hfa
      go_wp2_with fail
      go_roundg f2
      case measure => omega
      case rel => exact ⟨k + 1, by go_num, by omega, by omega, HK0, HES, HF⟩
    ·
     have hkk : k = s.args.length := by omega
     subst hkk
     have p0 : ¬ ((s.args.length : Int) < (s.args.length : Int)) := by omega
     have HEE : Hid (EdX wr base g gs cap (kaj (fRp i j) (i + 1) (p + 1) l) vs V) := hD (by
      have h := HE.out
      rw [kdl] at h
      rw [HMS.out]
      exact h)
     go_wp2_with fail
     go_roundg f
     case measure => omega
     case rel => exact ⟨p + 1, by go_num, by omega, by omega, HEE, HF⟩) : P := h
theorem y2 {P : Prop} (h : P := by
 first
 | guard_hyp t12q0
   obtain ⟨AP, cP, rfl⟩ := kak hov
 | obtain ⟨cs, e1, e2, e3⟩ := h.blk
 have hle := h.le
 have hcap := h.cap
 first
 | guard_hyp t12q0
   have hbase := h.base_le
   obtain ⟨n, hn⟩ := xE l.length
 | have x0 := h.ed.cell 0
   simp only [gA, gB] at x0
   obtain ⟨n, hn⟩ : ∃ n, n + 1 = l.length := ⟨l.length - 1, by omega⟩
   obtain ⟨m, hm⟩ := xE (n + 1)
 have hin : i < n := by omega
 first
 | guard_hyp t12q0
   have HI := hD hin
   have HN := hD hn
   have HL1 := hD hl1
   have HBB := hD hb
 | have hd := kl5 gs n i cap cs w e1 e2 hin (by omega) (by omega) (fun q v hq hv => e3 q v (by omega) hv)
   rw [← hm] at hd
   rw [← hn, ← hm] at x0
   have hnb : n ≤ 100000 := by omega
   have hic : ((i + 1 : Nat) : Int) = (i : Int) + 1 := by omega
   rw [hic] at hd
 have HD := hD hd
 first
 | guard_hyp t12q0
   have HOV := hD hov
 | skip
 have HH := hD h
 first
 | guard_hyp t12q0
 | have HN := hD hn
   have HC := hD e1
   have HI := hD hin
   have HREM := hD (kkk (l := l) (i := i) (by omega))
 have hgl := h.ed.lt
 first
 | guard_hyp t12q0
   have hncap : n ≤ cap := by omega
   have hnb : n ≤ 100000 := by omega
   clear h hb hd hov hn hl1 hi hle hcap
   go_enter Tryz.func120, Tryz.ntmps120
 | have HNE := hD h.ne
   have hl1 : (l.eraseIdx i).length = n := by rw [List.length_eraseIdx]; split <;> omega
   have hb1 : ∀ s ∈ l.eraseIdx i, s.args.length ≤ 3 ∧ ∀ a ∈ s.args, 0 ≤ a ∧ a ≤ 100000 := fun s hs => hb s (List.mem_of_mem_eraseIdx hs)
   have hncap : n < cap := by omega
   obtain ⟨l1, hl1e⟩ := xE (l.eraseIdx i)
   rw [← hl1e] at hl1 hb1 HREM
   have HL1 := hD hl1
   have HL1E := hD hl1e
   have HBB := hD hb1
   clear hd h e1 e2 e3 hb hn hm hl1 hb1 hl1e hi hle
   go_enter Tryz.func116, Tryz.ntmps116
   go_wp2_with fail
   refine HD.out.mono ?_
   rintro e w1 ⟨rfl, hg1, cs', hb1, hs1, hc1, hc2⟩
   obtain ⟨w2, hw2⟩ := xE (w1.setCell ⟨g, 0, none⟩ (.slice (some ⟨gs, 0, none⟩) n cap))
   have ht := HH.out.erase HN.out HI.out hg1 cs' hb1 (fun cs0 h0 => by
    have : cs0 = cs := by have := h0.symm.trans HC.out; injection this with this; injection this
    subst this
    exact ⟨hs1, hc1, hc2⟩) hw2
   rw [← HL1E.out] at ht
   have HT := hD ht.1
   have HF := hD ht.2
   have hE1 : Blk w1 g 85 #[.slice (some ⟨gs, 0, none⟩) l.length cap, V] := HH.out.ed.grown hg1 (fun e => HNE.out (by injection e))
   have y0 := hE1.cell 0
   simp only [gA, gB] at y0
   have y1 := hE1.frozen 0
   have HW2 := hD hw2
   clear hg1 hb1 hs1 hc1 hc2 ht hE1 hw2 HD
 go_upto_region 1 with (fail)
 first
 | guard_hyp t12q0
   obtain ⟨w2, hw2⟩ := xE (w.alloc (.cells #[.string ⟨op.toArray⟩, .slice AP xs.length cP, .int .i64 num, .string ⟨text.toArray⟩, .int .i64 ty] 77))
   rw [← hw2]
   have hb2 : Below w.heap.size w w2 := by rw [hw2]; exact kaa _ _
   have HK : Hid (Blk w2 w.heap.size 77 #[.string ⟨op.toArray⟩, .slice AP xs.length cP, .int .i64 num, .string ⟨text.toArray⟩, .int .i64 ty]) := hD (by rw [hw2]; exact Blk.new _ _ _)
   have HT := hD (HH.out.below hb2)
   have HF := hD ((FrX.refl base w).below hb2 hbase)
   have HOW := hD (kay HOV.out hb2)
 | rw [← HW2.out]
 have z0 := HT.out.ed.cell 0
 simp only [gA, gB] at z0
 first
 | guard_hyp t12q0
   rw [← HN.out] at z0
 | rw [HL1.out] at z0
 obtain ⟨d, hd⟩ := xE (n - i)
 have qd : n - i = d := hd.symm
 have qe : ¬ (cap = i) := by omega
 have qf : (i : Int) ≤ (n : Int) := by omega
 have qg : (0 : Int) ≤ (i : Int) := by omega
 have qh : (n : Int) ≤ (cap : Int) := by omega
 have HDN : Hid (i + d = n) := hD (by have := HI.out; omega)
 have hdb : d ≤ 100000 := by omega
 first
 | guard_hyp t12q0
   have HT0 : Hid (EdX w2 base g gs cap (kaj (fIn i) i 0 l) vs V) := hD (by rw [kcv]; exact HT.out)
   clear hw2 hb2 hd HT
 | have HT0 : Hid (EdX w2 base g gs cap (kaj (fRm i) i 0 l1) (vs.eraseIdx i) V) := hD (by rw [kcv]; exact HT.out)
   clear y0 y1 x0 HW2 hd
 go_wp2_with fail
 clear z0
 first
 | guard_hyp t12q0
   go_loopg [7, 8, 9, 17, 24] (d + 1) (fun f _ _ _ c _ wr => InoRel base g gs cap (fIn i) i d l vs V w w.heap.size #[.string ⟨op.toArray⟩, .slice AP xs.length cP, .int .i64 num, .string ⟨text.toArray⟩, .int .i64 ty] (.slice AP xs.length cP) xs f c wr)
   case atStart => exact ⟨0, rfl, by omega, by omega, HT0, HF, HK, HOW⟩
 | go_loopg [5, 6, 7, 26, 33] (d + 1) (fun f _ _ _ c _ wr => XrRel base g gs cap (fRm i) i d l1 (vs.eraseIdx i) V w f c wr)
   case atStart => exact ⟨0, rfl, by omega, by omega, HT0, HF⟩
 case round =>
  first
  | guard_hyp t12q0
    clear HT0 HF HK HOW
    obtain ⟨p, rfl, hp, hpf, HE, HF, HB0, HOW⟩ := hrel
  | clear HT0 HF
    obtain ⟨p, rfl, hp, hpf, HE, HF⟩ := hrel
  obtain ⟨f, rfl⟩ : ∃ f, gk = f + 1 := ⟨gk - 1, by omega⟩
  by_cases hlt : p < d
  ·
   first
   | guard_hyp t12q0
     obtain ⟨s, hs⟩ : ∃ s, l[i + p]? = some s := ⟨l[i + p]'(by have := HN.out; have := HDN.out; omega), List.getElem?_eq_getElem _⟩
     have hs' : (kaj (fIn i) i p l)[i + p]? = some s := mapFrom_get.trans hs
   | obtain ⟨s, hs⟩ : ∃ s, l1[i + p]? = some s := ⟨l1[i + p]'(by have := HL1.out; have := HDN.out; omega), List.getElem?_eq_getElem _⟩
     have hs' : (kaj (fRm i) i p l1)[i + p]? = some s := mapFrom_get.trans hs
   have hsb := HBB.out s (List.mem_of_getElem? hs)
   obtain ⟨v, hv, ⟨x0, x1, x2, x3, x4⟩, ho⟩ := HE.out.at_ hs'
   obtain ⟨A, c, rfl⟩ := kak ho
   rw [show (i + p) * 5 = i * 5 + p * 5 by omega] at x0 x1 x2 x3 x4
   first
   | guard_hyp t12q0
     have HMS := hD (kcw (f := fIn i) hs)
   | have HMS := hD (kcw (f := fRm i) hs)
   have HS := hD hs
   have HV := hD hv
   have HSB := hD hsb.2
   have hal := hsb.1
   have q0 : (p : Int) < (d : Int) := by omega
   have q1 : (0 : Int) ≤ (p : Int) := by omega
   first
   | guard_hyp t12q0
     have HLEN := hD (show i + p < (kaj (fIn i) i p l).length from (List.getElem?_eq_some_iff.1 hs').1)
   | have HLEN := hD (show i + p < (kaj (fRm i) i p l1).length from (List.getElem?_eq_some_iff.1 hs').1)
   have HE3 := hD (fun o => HE.out.below (kaa wr o))
   have HF3 := hD (fun o => HF.out.below (kaa wr o) (Nat.le_trans HE.out.hg (Nat.le_of_lt HE.out.ed.lt)))
   first
   | guard_hyp t12q0
     have HB3 := hD (fun o => HB0.out.below (kaa wr o) HB0.out.lt)
     have HO3 := hD (fun o => kay HOW.out (kaa wr o))
     have HSET : Hid ((kaj (fIn i) i p l).set (i + p) { s with args := kau (fIn i) s.args 0 } = kaj (fIn i) i p l) := hD (by
      rw [kcX]
      apply List.ext_getElem?
      intro q
      by_cases hq : i + p = q
      ·
       subst hq
       rw [List.getElem?_set_self (List.getElem?_eq_some_iff.1 hs').1, hs']
      ·
       rw [List.getElem?_set_ne hq])
     clear hs hs' hv hsb ho HE HF HB0 HOW
   | have HSET : Hid ((kaj (fRm i) i p l1).set (i + p) { s with args := kau (fRm i) s.args 0 } = kaj (fRm i) i p l1) := hD (by
      rw [kcX]
      apply List.ext_getElem?
      intro q
      by_cases hq : i + p = q
      ·
       subst hq
       rw [List.getElem?_set_self (List.getElem?_eq_some_iff.1 hs').1, hs']
      ·
       rw [List.getElem?_set_ne hq])
     clear hs hs' hv hsb ho HE HF
   go_upto_region 4 with (fail)
   have t507q0 := True.intro
   exact y64
  ·
   have hpd : p = d := by omega
   subst hpd
   have q0 : ¬ ((p : Int) < (p : Int)) := by omega
   first
   | guard_hyp t12q0
     clear hlt hpf hp
     go_upto_region 11 with (fail)
     obtain ⟨m, hm⟩ := xE (kaj (fIn i) i p l)
     rw [← hm] at HE
     have hml : m.length = n := by rw [hm, kdQ]; exact HN.out.symm
     have hir : m.take i ++ Oz.mk op xs num text ty :: m.drop i = Oz.insertR l i (Oz.mk op xs num text ty) := by rw [hm]; exact kkK (by rw [← HN.out]; exact HDN.out)
     obtain ⟨W, hW⟩ := xE ((wr.alloc (.cells #[.string ⟨op.toArray⟩, .slice AP xs.length cP, .int .i64 num, .string ⟨text.toArray⟩, .int .i64 ty] 77)).drew)
     have hbW : Below wr.heap.size wr W := by rw [hW]; exact (kaa _ _).drew
     have hVW : Blk W wr.heap.size 77 #[.string ⟨op.toArray⟩, .slice AP xs.length cP, .int .i64 num, .string ⟨text.toArray⟩, .int .i64 ty] := by rw [hW]; exact (Blk.new _ _ _).drew
     have HEW := hD (HE.out.below hbW)
     have HFW := hD (HF.out.below hbW HE.out.base_le)
     have HOV2 := hD (kay HOW.out hbW)
     obtain ⟨cs, e1, e2, e3⟩ := HEW.out.blk
     rw [hml] at e3
     have HCS := hD e1
     have hgne : wr.heap.size ≠ gs := fun e => by have := HE.out.gs_lt; omega
     have hic := klV gs wr.heap.size n i cap cs _ W e1 e2 hVW rfl hgne HI.out hncap hnb (fun q v hq hv => e3 q v hq hv) (by simp [Value.oneCell'])
     have HML := hD hml
     have HIN2 : Hid (Calls Tryz.prog 157 #[.slice (some ⟨gs, 0, none⟩) n cap, .int .i64 i, .slice (some ⟨wr.heap.size, 0, none⟩) 1 1] W fun e w5 => ∃ gs' cap', e = .returned (.slice (some ⟨gs', 0, none⟩) (n + 1) cap') ∧ w5.cell? ⟨g, 0, none⟩ = some (.slice (some ⟨gs, 0, none⟩) n cap) ∧ w5.frozen? ⟨g, 0, none⟩ = false ∧ EdX (w5.setCell ⟨g, 0, none⟩ (.slice (some ⟨gs', 0, none⟩) (n + 1) cap')) base g gs' cap' (Oz.insertR l i (Oz.mk op xs num text ty)) (vs.take i ++ .slice AP xs.length cP :: vs.drop i) V ∧ FrX base w (w5.setCell ⟨g, 0, none⟩ (.slice (some ⟨gs', 0, none⟩) (n + 1) cap'))) := hD (by
      refine hic.mono ?_
      rintro e w5 ⟨gs', cap', cs', rfl, hg, hgs', hb5, hs5, hc5, h1, h2, h3⟩
      have hE5 : Blk w5 g 85 #[.slice (some ⟨gs, 0, none⟩) m.length cap, V] := HEW.out.ed.grown hg (fun e => HEW.out.ne (by injection e))
      rw [HML.out] at hE5
      have hins := HEW.out.ins (n := n) HML.out.symm HI.out (by have := HL1.out; have := HN.out; omega) (Oz.mk op xs num text ty) (.slice AP xs.length cP) HOV2.out HD.out rfl hg hgs' cs' hb5 hs5 hc5 (fun cs0 h0 => by
       have : cs0 = cs := by have := h0.symm.trans HCS.out; injection this with this; injection this
       subst this
       exact ⟨h1, h2, h3⟩) rfl
      rw [hir] at hins
      have k0 := hE5.cell 0
      simp only [gA, gB] at k0
      exact ⟨gs', cap', by rw [Int.toNat_natCast], k0, hE5.frozen 0, hins.1, HFW.out.trans hins.2⟩)
     rw [hW] at HIN2
     have c0 := HE.out.ed.cell 0
     simp only [gA, gB] at c0
     rw [hml] at c0
     obtain ⟨t0, t1, t2, t3, t4⟩ : wr.cell? ⟨w.heap.size, 0, none⟩ = some (.string ⟨op.toArray⟩) ∧ wr.cell? ⟨w.heap.size, 1, none⟩ = some (.slice AP xs.length cP) ∧ wr.cell? ⟨w.heap.size, 2, none⟩ = some (.int .i64 num) ∧ wr.cell? ⟨w.heap.size, 3, none⟩ = some (.string ⟨text.toArray⟩) ∧ wr.cell? ⟨w.heap.size, 4, none⟩ = some (.int .i64 ty) := ⟨HB0.out.cell 0, HB0.out.cell 1, HB0.out.cell 2, HB0.out.cell 3, HB0.out.cell 4⟩
     have l1 := HE.out.ed.lt
     have l2 := HB0.out.lt
     clear hic e1 e2 e3 hm hml hir hW hbW hVW hgne HEW HFW HOV2 HCS HML W
     go_region_with (go_at_call 157; refine HIN2.out.mono ?_; rintro e w5 ⟨gs', cap', rfl, k0, k1, he5, hf5⟩; have HE5 := hD he5; have HF5 := hD hf5; clear he5 hf5)
     all_goals
      go_wp2_with fail
      refine bodyPost_end (v := .tuple #[]) (by simp [results, Tryz.results120, go_sem]) rfl ?_
      exact ⟨rfl, ⟨_, _, HE5.out⟩, HF5.out⟩
   | have HEE : Hid (EdX wr base g gs cap (Oz.removeR l i) (vs.eraseIdx i) V) := hD (by
      have h := HE.out
      rw [kcU (by rw [HL1.out]; exact HDN.out)] at h
      rw [HREM.out]
      exact h)
     go_wp2_with fail
     refine bodyPost_end (v := .tuple #[]) (by simp [results, Tryz.results116, go_sem]) rfl ?_
     exact ⟨rfl, HEE.out, HF.out⟩) : P := h
def fRm (i : Nat) (a : Int) : Int := if (i : Int) < a then a - 1 else a
def XrRel (base g gs cap : Nat) (f0 : Int → Int) (i d : Nat) (l1 : List St) (vs : List Value) (V : Value) (w : World) (f : Nat) (c : Value) (wr : World) : Prop := ∃ p : Nat, c = .int .i64 p ∧ p ≤ d ∧ d - p < f ∧ Hid (EdX wr base g gs cap (kaj f0 i p l1) vs V) ∧ Hid (FrX base w wr)
def XiRel (base g gs cap : Nat) (f0 : Int → Int) (i p : Nat) (l1 : List St) (s : St) (vs : List Value) (V : Value) (w : World) (b0 : Nat) (K0 : Array Value) (f : Nat) (c : Value) (wr : World) : Prop := ∃ k : Nat, c = .int .i64 k ∧ k ≤ s.args.length ∧ s.args.length - k < f ∧ Hid (Blk wr b0 77 K0) ∧ Hid (EdX wr base g gs cap ((kaj f0 i p l1).set (i + p) { s with args := kau f0 s.args k }) vs V) ∧ Hid (FrX base w wr)
theorem kde (base g gs cap i : Nat) (l : List St) (vs : List Value) (V : Value) (w : World) (h : EdX w base g gs cap l vs V) (hi : i + 1 < l.length) (hb : ∀ s ∈ l, s.args.length ≤ 3 ∧ ∀ a ∈ s.args, 0 ≤ a ∧ a ≤ 100000) :
  Calls Tryz.prog 116 #[.pointer (some ⟨g, 0, none⟩), .int .i64 i] w fun e w' => e = .returned (.tuple #[]) ∧ EdX w' base g gs cap (Oz.removeR l i) (vs.eraseIdx i) V ∧ FrX base w w' := by
 exact y2
theorem kbz (g gs cap : Nat) (l : List St) (V : Value) (w : World) (h : EdAt w g gs cap l V) (j i : Nat) (hji : j < i) (hil : i < l.length) :
  Calls Tryz.prog 118 #[.pointer (some ⟨g, 0, none⟩), .int .i64 i, .int .i64 j] w fun e w' => e = .returned (.bool (Oz.canR l i j)) ∧ Below w.heap.size w w' := by
 have hle := h.le
 have hcap := h.cap
 have x0 := h.ed.cell 0
 simp only [gA, gB] at x0
 have HS := hD (kdE g gs cap l V w h j i hji (Nat.le_of_lt hil))
 obtain ⟨n, hn⟩ := xE l.length
 rw [← hn] at x0 hcap hil
 have hw := IntWalk.i64_in ((n : Int) - 1) (by omega)
 by_cases hlast : i + 1 < n
 ·
  have hR : Oz.canR l i j = true := by unfold Oz.canR; rw [← hn, decide_eq_true hlast]; rfl
  have HR := hD hR
  have q0 : (i : Int) < (n : Int) - 1 := by omega
  clear h hn hR hlast
  go_enter Tryz.func118, Tryz.ntmps118
  go_wp2_with fail
  go_ret
  rw [HR.out]
  exact ⟨rfl, Below.refl _ _⟩
 ·
  have hR : Oz.canR l i j = Oz.safeB l j i := by unfold Oz.canR; rw [← hn, decide_eq_false hlast]; rfl
  have HR := hD hR
  have q0 : ¬ ((i : Int) < (n : Int) - 1) := by omega
  clear h hn hR hlast
  go_enter Tryz.func118, Tryz.ntmps118
  go_wp2_with fail
  refine HS.out.mono ?_
  rintro e w2 ⟨rfl, hb2⟩
  have HB2 := hD hb2
  rw [← HR.out]
  obtain ⟨b, hb⟩ := xE (Oz.canR l i j)
  rw [← hb]
  have HB := hD hb
  clear hb2 hb HS
  go_wp2_with fail
  go_ret
  rw [← HB.out]
  exact ⟨rfl, HB2.out⟩
theorem EdX.cut {w : World} {base g gs cap : Nat} {l : List St} {vs : List Value} {V : Value} (h : EdX w base g gs cap l vs V) {k : Nat} (hk : k ≤ l.length) : EdX (w.setCell ⟨g, 0, none⟩ (.slice (some ⟨gs, 0, none⟩) k cap)) base g gs cap (l.take k) (vs.take k) V ∧ FrX base w (w.setCell ⟨g, 0, none⟩ (.slice (some ⟨gs, 0, none⟩) k cap)) := by
 obtain ⟨cs, e1, e2, e3⟩ := h.blk
 have hne := h.ne
 have hle := h.le
 have hcap := h.cap
 have hkl : (l.take k).length = k := by rw [List.length_take]; omega
 have hgs : (w.setCell ⟨g, 0, none⟩ (.slice (some ⟨gs, 0, none⟩) k cap)).heap[gs]? = w.heap[gs]? := Below.heap_setCell w ⟨g, 0, none⟩ _ gs (fun e => hne e.symm)
 have hget : ∀ {α : Type} (xs : List α) (q : Nat) (x : α), (xs.take k)[q]? = some x → xs[q]? = some x := fun xs q x hx => by
  rw [List.getElem?_take] at hx
  split at hx
  ·
   exact hx
  ·
   cases hx
 refine ⟨⟨by rw [hkl]; exact h.ed.set_ 0 _, ⟨cs, e1.far (p := ⟨g, 0, none⟩) (fun e => hne e.symm) _, e2, fun q v hq hv => e3 q v (by omega) hv⟩, by rw [List.length_take, List.length_take, h.len], fun q s v hs hv => (h.cells q s v (hget l q s hs) (hget vs q v hv)).same hgs, fun q s v hs hv => ?_, fun a b v v' hab hv hv' => h.dis a b v v' hab (hget vs a v hv) (hget vs b v' hv'), by omega, by omega, h.hg, h.hgs⟩, (FrX.refl base w).setCell (p := ⟨g, 0, none⟩) h.hg h.ed (by decide) _⟩
 have hs' := hget l q s hs
 have hv' := hget vs q v hv
 exact kaA (h.own q s v hs' hv') (fun b hb => Below.heap_setCell w ⟨g, 0, none⟩ _ b (h.apart hs' hv' hb).1)
def fRp (i j : Nat) (a : Int) : Int := if a = (i : Int) then (j : Int) else a
theorem ki5 {f : Int → Int} {i p : Nat} {l : List St} {t : St} (h : t ∈ kaj f i p l) : ∃ s ∈ l, t = s ∨ t = Oz.mapA f s := by
 obtain ⟨q, hq⟩ := List.getElem?_of_mem h
 rw [kbU] at hq
 cases hl : l[q]? with
 | none => rw [hl] at hq; cases hq
 | some s =>
  rw [hl, Option.map_some] at hq
  injection hq with hq
  refine ⟨s, List.mem_of_getElem? hl, ?_⟩
  split at hq
  ·
   exact .inr hq.symm
  ·
   exact .inl hq.symm
def RepEnd (base g gs cap : Nat) (l : List St) (vs : List Value) (V : Value) (r : Option (List St)) (w : World) (e : Ending) (w' : World) : Prop := e = .returned (.bool r.isSome) ∧ match r with
 | none => Below w.heap.size w w'
 | some l' => (∃ vs', EdX w' base g gs cap l' vs' V) ∧ FrX base w w'
theorem ka5 (base g gs cap i j : Nat) (l : List St) (vs : List Value) (V : Value) (w : World) (h : EdX w base g gs cap l vs V) (hji : j < i) (hil : i < l.length) (hb : ∀ s ∈ l, s.args.length ≤ 3 ∧ ∀ a ∈ s.args, 0 ≤ a ∧ a ≤ 100000) :
  Calls Tryz.prog 110 #[.pointer (some ⟨g, 0, none⟩), .int .i64 i, .int .i64 j] w (RepEnd base g gs cap l vs V (Oz.replaceR l i j) w) := by
 have hle := h.le
 have hcap := h.cap
 have HRE := hD (kbz g gs cap l V w h.edAt j i hji hil)
 obtain ⟨cb, hcb⟩ := xE (Oz.canR l i j)
 rw [← hcb] at HRE
 obtain ⟨n, hn⟩ := xE l.length
 obtain ⟨R, hR⟩ := xE (Oz.replaceR l i j)
 rw [← hR]
 have HR := hD hR
 have HCB := hD hcb
 have HN := hD hn.symm
 have HH := hD h
 have HBB := hD hb
 have hbase : base ≤ w.heap.size := Nat.le_trans h.hg (Nat.le_of_lt h.ed.lt)
 have hgl := h.ed.lt
 rw [← hn] at hcap hil hle
 clear h hcb hn hR hb
 go_enter Tryz.func110, Tryz.ntmps110
 go_wp2_with fail
 refine HRE.out.mono ?_
 rintro e w1 ⟨rfl, hb1⟩
 have HE1 := hD (HH.out.below hb1)
 have HB1 := hD hb1
 have HF1 := hD ((FrX.refl base w).below hb1 hbase)
 have hz1 := hb1.size
 clear hb1 HRE
 cases cb with
 | false =>
  have HRN : Hid (R = none) := hD (by rw [HR.out]; unfold Oz.replaceR; rw [if_pos HCB.out.symm])
  go_wp2_with fail
  go_ret
  unfold RepEnd
  rw [HRN.out]
  exact ⟨rfl, HB1.out⟩
 | true =>
  have x0 := HE1.out.ed.cell 0
  simp only [gA, gB] at x0
  rw [HN.out] at x0
  have hfz := HE1.out.ed.frozen 0
  by_cases hlast : i + 1 = n
  ·
   have HRN : Hid (R = some (l.take (j + 1))) := hD (by rw [HR.out]; unfold Oz.replaceR; rw [if_neg (by rw [← HCB.out]; simp), if_pos (by rw [HN.out]; exact hlast)])
   have hcut := HE1.out.cut (k := j + 1) (by rw [HN.out]; omega)
   have HCUT := hD hcut.1
   have HFC := hD (HF1.out.trans hcut.2)
   have q0 : ((i : Int) == (n : Int) - 1) = true := by rw [beq_iff_eq]; omega
   have q1 : (j : Int) + 1 ≤ (cap : Int) := by omega
   have q2 : (0 : Int) ≤ (j : Int) + 1 := by omega
   have hw := IntWalk.i64_in ((n : Int) - 1) (by omega)
   clear hcut
   go_wp2_with fail
   go_ret
   unfold RepEnd
   rw [HRN.out]
   exact ⟨rfl, ⟨_, HCUT.out⟩, HFC.out⟩
  ·
   have HRN : Hid (R = some (Oz.removeR (l.take (i + 1) ++ (l.drop (i + 1)).map (Oz.mapA (fRp i j))) i)) := hD (by rw [HR.out]; unfold Oz.replaceR; rw [if_neg (by rw [← HCB.out]; simp), if_neg (by rw [HN.out]; exact hlast)]; rfl)
   obtain ⟨d, hd⟩ := xE (n - (i + 1))
   have qd : n - (i + 1) = d := hd.symm
   have HDN : Hid (i + 1 + d = n) := hD (by omega)
   have qe : ¬ (cap = i + 1) := by omega
   have q0 : ((i : Int) == (n : Int) - 1) = false := beq_eq_false_iff_ne.2 (by omega)
   have q0' : ¬ ((i : Int) = (n : Int) - 1) := by omega
   have q1 : (i : Int) + 1 ≤ (n : Int) := by omega
   have q2 : (0 : Int) ≤ (i : Int) + 1 := by omega
   have q3 : (n : Int) ≤ (cap : Int) := by omega
   have hw := IntWalk.i64_in ((n : Int) - 1) (by omega)
   have hdb : d ≤ 100000 := by omega
   have hib : i + 1 < l.length := by rw [HN.out]; omega
   have HIB := hD hib
   have HT0 : Hid (EdX w1 base g gs cap (kaj (fRp i j) (i + 1) 0 l) vs V) := hD (by rw [kcv]; exact HE1.out)
   clear hd hib hfz
   go_wp2_with fail
   clear x0 hw q0 q0'
   go_loopg [8, 9, 10, 42, 49] (d + 1) (fun f _ _ _ c _ wr => XrRel base g gs cap (fRp i j) (i + 1) d l vs V w f c wr)
   case atStart => exact ⟨0, rfl, by omega, by omega, HT0, HF1⟩
   case round =>
    clear HT0 HF1
    obtain ⟨p, rfl, hp, hpf, HE, HF⟩ := hrel
    obtain ⟨f, rfl⟩ : ∃ f, gk = f + 1 := ⟨gk - 1, by omega⟩
    by_cases hlt : p < d
    ·
     obtain ⟨s, hs⟩ : ∃ s, l[i + 1 + p]? = some s := ⟨l[i + 1 + p]'(by have := HN.out; have := HDN.out; omega), List.getElem?_eq_getElem _⟩
     have hs' : (kaj (fRp i j) (i + 1) p l)[i + 1 + p]? = some s := mapFrom_get.trans hs
     have hsb := HBB.out s (List.mem_of_getElem? hs)
     obtain ⟨v, hv, ⟨x0, x1, x2, x3, x4⟩, ho⟩ := HE.out.at_ hs'
     obtain ⟨A, c, rfl⟩ := kak ho
     rw [show (i + 1 + p) * 5 = (i + 1) * 5 + p * 5 by omega] at x0 x1 x2 x3 x4
     have HMS := hD (kcw (f := fRp i j) hs)
     have HS := hD hs
     have HV := hD hv
     have HSB := hD hsb.2
     have hal := hsb.1
     have q0 : (p : Int) < (d : Int) := by omega
     have q1 : (0 : Int) ≤ (p : Int) := by omega
     have HLEN := hD (show i + 1 + p < (kaj (fRp i j) (i + 1) p l).length from (List.getElem?_eq_some_iff.1 hs').1)
     have HE3 := hD (fun o => HE.out.below (kaa wr o))
     have HF3 := hD (fun o => HF.out.below (kaa wr o) (Nat.le_trans HE.out.hg (Nat.le_of_lt HE.out.ed.lt)))
     have HSET : Hid ((kaj (fRp i j) (i + 1) p l).set (i + 1 + p) { s with args := kau (fRp i j) s.args 0 } = kaj (fRp i j) (i + 1) p l) := hD (by
      rw [kcX]
      apply List.ext_getElem?
      intro q
      by_cases hq : i + 1 + p = q
      ·
       subst hq
       rw [List.getElem?_set_self (List.getElem?_eq_some_iff.1 hs').1, hs']
      ·
       rw [List.getElem?_set_ne hq])
     clear hs hs' hv hsb ho HE HF
     go_upto_region 9 with (fail)
     exact y64
    ·
     have hpd : p = d := by omega
     subst hpd
     have p0 : ¬ ((p : Int) < (p : Int)) := by omega
     have HRM := hD (kde base g gs cap i (kaj (fRp i j) (i + 1) p l) vs V wr HE.out (by rw [kdQ]; exact HIB.out) (fun t ht => by
      obtain ⟨s, hs, hc⟩ := ki5 ht
      have hsb := HBB.out s hs
      rcases hc with rfl | rfl
      ·
       exact hsb
      ·
       refine ⟨by unfold Oz.mapA; simpa using hsb.1, fun a ha => ?_⟩
       unfold Oz.mapA at ha
       obtain ⟨b, hb, rfl⟩ := List.mem_map.1 ha
       have := hsb.2 b hb
       unfold fRp
       split <;> omega))
     go_wp2_with fail
     refine HRM.out.mono ?_
     rintro e w7 ⟨rfl, he7, hf7⟩
     have HE7 := hD he7
     have HF7 := hD (HF.out.trans hf7)
     clear he7 hf7 HRM
     go_wp2_with fail
     go_ret
     unfold RepEnd
     rw [HRN.out]
     have h7 := HE7.out
     rw [kcU (by rw [HN.out]; exact HDN.out)] at h7
     exact ⟨rfl, ⟨_, h7⟩, HF7.out⟩
theorem z4 {P : Prop} (h : P := by
 rw [hR.out]
 go_enter Tryz.func111, Tryz.ntmps111
 go_wp2_with fail
 go_quiet (fail)
 go_wp2_with fail
 go_ret2
 first | exact ⟨rfl, kaf ((Below.refl _ _).alloc (Nat.le_refl _) _) _⟩ | (refine ⟨?_, kaf ((Below.refl _ _).alloc (Nat.le_refl _) _) _⟩; have h : ¬ (num ≤ 1152921504606846976) := (by have := H3.out; omega); simp [h])) : P := h
theorem z11 {P : Prop} (h : P := by
 rw [hR.out]
 first
 | guard_hyp t139q0
   go_enter Tryz.func113, Tryz.ntmps113
 | guard_hyp t139q1
   go_enter Tryz.func115, Tryz.ntmps115
 | go_enter Tryz.func114, Tryz.ntmps114
 go_wp2_with fail
 go_ret
 exact ⟨rfl, Below.refl _ _⟩) : P := h
theorem y30 {P : Prop} (h : P := by
 have hil := (gH hs).1
 have x0 := h.ed.cell 0
 simp only [gA, gB] at x0
 obtain ⟨As, c, y0, y1, y2, y3, y4, _⟩ := h.st i s hs
 obtain ⟨m, hm⟩ := xE l.length
 rw [← hm] at x0 hil
 obtain ⟨op, args, num, text, ty⟩ := s
 dsimp only at y0 y1 y2 y3 y4 ⊢
 have q0 : (i : Int) < (m : Int) := by omega
 have q1 : (0 : Int) ≤ (i : Int) := by omega
 clear h hs hm
 first
 | guard_hyp t139q2
   by_cases h0 : op = kab
 | by_cases h0 : op = kai
 ·
  subst h0
  first
  | guard_hyp t139q0
    unfold kai at y0
    by_cases h1 : text.length ≤ 65536
  | guard_hyp t139q1
    unfold kai at y0
    by_cases h1 : text = []
  | unfold kab at y0
    by_cases h1 : num = n
  ·
   first
   | guard_hyp t139q0
     have hR := hD (show decide (kai = kai ∧ text.length ≤ 65536) = true from decide_eq_true ⟨rfl, h1⟩)
     have h3 : (text.length : Int) ≤ 65536 := by omega
   | guard_hyp t139q1
     have hR := hD (show decide (kai = kai ∧ text = []) = true from decide_eq_true ⟨rfl, h1⟩)
     subst h1
   | have hR := hD (show decide (kab = kab ∧ num = n) = true from decide_eq_true ⟨rfl, h1⟩)
     subst h1
   exact z11
  ·
   first
   | guard_hyp t139q0
     have hR := hD (show decide (kai = kai ∧ text.length ≤ 65536) = false from decide_eq_false (fun h => h1 h.2))
     have h3 : ¬ ((text.length : Int) ≤ 65536) := by omega
   | guard_hyp t139q1
     have hR := hD (show decide (kai = kai ∧ text = []) = false from decide_eq_false (fun h => h1 h.2))
     have h3 : (text == []) = false := beq_eq_false_iff_ne.2 h1
   | have hR := hD (show decide (kab = kab ∧ num = n) = false from decide_eq_false (fun h => h1 h.2))
     have h3 : (num == n) = false := beq_eq_false_iff_ne.2 h1
   exact z11
 ·
  first
  | guard_hyp t139q0
    have hR := hD (show decide (op = kai ∧ text.length ≤ 65536) = false from decide_eq_false (fun h => h0 h.1))
    have h2 : (op == [115, 116, 114, 105, 110, 103]) = false := beq_eq_false_iff_ne.2 h0
  | guard_hyp t139q1
    have hR := hD (show decide (op = kai ∧ text = []) = false from decide_eq_false (fun h => h0 h.1))
    have h2 : (op == [115, 116, 114, 105, 110, 103]) = false := beq_eq_false_iff_ne.2 h0
  | have hR := hD (show decide (op = kab ∧ num = n) = false from decide_eq_false (fun h => h0 h.1))
    have h2 : (op == [110, 117, 109, 98, 101, 114]) = false := beq_eq_false_iff_ne.2 h0
  exact z11) : P := h
section
variable (g gs cap i : Nat) (l : List St) (V : Value) (s : St) (w : World)
theorem kcJ (h : EdAt w g gs cap l V) (hs : l[i]? = some s) (n : Int) :
  Calls Tryz.prog 114 #[.pointer (some ⟨g, 0, none⟩), .int .i64 i, .int .i64 n] w fun e w' => e = .returned (.bool (decide (s.op = kab ∧ s.num = n))) ∧ Below w.heap.size w w' := by
 have t139q2 := True.intro
 exact y30
theorem kev (h : EdAt w g gs cap l V) (hs : l[i]? = some s) :
  Calls Tryz.prog 113 #[.pointer (some ⟨g, 0, none⟩), .int .i64 i] w fun e w' => e = .returned (.bool (decide (s.op = kai ∧ s.text.length ≤ 65536))) ∧ Below w.heap.size w w' := by
 have t139q0 := True.intro
 exact y30
theorem keJ (h : EdAt w g gs cap l V) (hs : l[i]? = some s) :
  Calls Tryz.prog 115 #[.pointer (some ⟨g, 0, none⟩), .int .i64 i] w fun e w' => e = .returned (.bool (decide (s.op = kai ∧ s.text = []))) ∧ Below w.heap.size w w' := by
 have t139q1 := True.intro
 exact y30
theorem kfd (h : EdAt w g gs cap l V) (hs : l[i]? = some s) :
  Calls Tryz.prog 111 #[.pointer (some ⟨g, 0, none⟩), .int .i64 i] w fun e w' => e = .returned (.tuple #[.int .i64 s.num, .bool (decide (s.op = kab ∧ s.num ≤ Oz.maxLn))]) ∧ Below w.heap.size w w' := by
 have hil := (gH hs).1
 have x0 := h.ed.cell 0
 simp only [gA, gB] at x0
 obtain ⟨As, c, y0, y1, y2, y3, y4, _⟩ := h.st i s hs
 obtain ⟨m, hm⟩ := xE l.length
 rw [← hm] at x0 hil
 obtain ⟨op, args, num, text, ty⟩ := s
 dsimp only at y0 y1 y2 y3 y4 ⊢
 have q0 : (i : Int) < (m : Int) := by omega
 have q1 : (0 : Int) ≤ (i : Int) := by omega
 clear h hs hm
 by_cases h0 : op = kab
 ·
  subst h0
  unfold kab at y0
  by_cases h1 : num ≤ Oz.maxLn
  ·
   have hR := hD (show decide (kab = kab ∧ num ≤ Oz.maxLn) = true from decide_eq_true ⟨rfl, h1⟩)
   have h3 : num ≤ 1152921504606846976 := h1
   exact z4
  ·
   have hR := hD (show decide (kab = kab ∧ num ≤ Oz.maxLn) = false from decide_eq_false (fun h => h1 h.2))
   have h3 : ¬ (num ≤ 1152921504606846976) := h1
   have H3 := hD h3
   exact z4
 ·
  have hR := hD (show decide (op = kab ∧ num ≤ Oz.maxLn) = false from decide_eq_false (fun h => h0 h.1))
  have h2 : (op == [110, 117, 109, 98, 101, 114]) = false := beq_eq_false_iff_ne.2 h0
  exact z4
end
end Go.Proofs.YtamhdmkolfmmdaaGreatDoor
