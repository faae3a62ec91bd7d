/- Plain laws: the document's check of a plan is that of the program. -/
import Derived.Test.YtniefnjcimempaaqRu
namespace Go.Proofs.Ytniefnjcimempaa
open Go.RowKit
/-- A row of the document's table. -/
structure RowR where
  op : List UInt8
  args : List UInt8
  ty : Int
  cost : Int
  regex : Bool
deriving DecidableEq
def rowsT : List RowR := [
  ⟨[110, 117, 109, 98, 101, 114], [], 1, 1, false⟩, ⟨[115, 116, 114, 105, 110, 103], [], 3, 1, false⟩, ⟨[114, 101, 102], [], 3, 1, false⟩,
  ⟨[108, 101, 110], [51], 1, 2, false⟩, ⟨[108, 105, 110, 101, 115], [51], 1, 2, false⟩, ⟨[115, 105, 122, 101], [52], 1, 2, false⟩, ⟨[99, 111, 109, 109, 111, 110], [51, 51], 1, 8, false⟩,
  ⟨[109, 105, 110], [49, 49], 1, 2, false⟩, ⟨[109, 97, 120], [49, 49], 1, 2, false⟩, ⟨[43], [49, 49], 1, 2, false⟩, ⟨[45], [49, 49], 1, 2, false⟩, ⟨[42], [49, 49], 1, 2, false⟩,
  ⟨[99, 111, 117, 110, 116], [51], 1, 64, true⟩, ⟨[104, 97, 115], [51], 2, 64, true⟩, ⟨[102, 105, 110, 100], [51], 4, 64, true⟩,
  ⟨[61, 61], [49, 49], 2, 2, false⟩, ⟨[61, 61], [50, 50], 2, 2, false⟩, ⟨[61, 61], [51, 51], 2, 2, false⟩,
  ⟨[33, 61], [49, 49], 2, 2, false⟩, ⟨[33, 61], [50, 50], 2, 2, false⟩, ⟨[33, 61], [51, 51], 2, 2, false⟩,
  ⟨[60], [49, 49], 2, 2, false⟩, ⟨[60], [51, 51], 2, 2, false⟩, ⟨[60, 61], [49, 49], 2, 2, false⟩, ⟨[60, 61], [51, 51], 2, 2, false⟩,
  ⟨[97, 110, 100], [50, 50], 2, 2, false⟩, ⟨[111, 114], [50, 50], 2, 2, false⟩, ⟨[110, 111, 116], [50], 2, 2, false⟩,
  ⟨[43, 43], [51, 51], 3, 8, false⟩, ⟨[99, 117, 116], [51, 49, 49], 3, 8, false⟩, ⟨[108, 105, 110, 101], [51, 49], 3, 8, false⟩, ⟨[114, 101, 112], [51, 49], 3, 8, false⟩, ⟨[112, 105, 99, 107], [51, 52, 49], 3, 8, false⟩,
  ⟨[114, 111, 119, 115], [51], 4, 32, false⟩, ⟨[115, 112, 97, 110], [49, 49], 4, 2, false⟩, ⟨[119, 105, 116, 104, 105, 110], [52, 52], 4, 8, false⟩, ⟨[111, 118, 101, 114], [52, 52], 4, 8, false⟩, ⟨[97, 102, 116, 101, 114], [52, 52, 49], 4, 8, false⟩,
  ⟨[117, 110, 105, 111, 110], [52, 52], 4, 8, false⟩, ⟨[109, 105, 110, 117, 115], [52, 52], 4, 8, false⟩, ⟨[102, 105, 114, 115, 116], [52, 49], 4, 8, false⟩,
  ⟨[109, 97, 116, 99, 104, 101, 115], [51], 1, 64, true⟩, ⟨[102, 105, 114, 115, 116, 102, 105, 110, 100], [51, 49], 4, 64, true⟩, ⟨[108, 101, 110, 99, 117, 116], [51, 49, 49], 1, 8, false⟩]
def firstR (n : List UInt8) : Option RowR := rowsT.find? (fun r => decide (r.op = n))
def findR (n a : List UInt8) : Option RowR := rowsT.find? (fun r => decide (r.op = n) && decide (r.args = a))
def textsR (r : RowR) : Bool := r.regex || (decide (r.op = nString) || decide (r.op = nRef))
def dig (t : Int) : UInt8 := UInt8.ofNat (48 + t.toNat)
def digR (l : List St) (s : St) : List UInt8 := s.args.map fun a => dig (tyAt l a)
/-- What the document says of a step, if those before it are right. -/
def refE (l : List St) (i : Nat) (s : St) (reg : Int) : Int := match firstR s.op with
  | none => 4
  | some r => if s.args.length ≠ r.args.length ∨ s.num < 0 ∨ (s.num ≠ 0 ∧ r.op ≠ nNumber) ∨ (s.text ≠ [] ∧ textsR r = false) then 4
    else if s.args.any (fun a => decide (a < 0) || decide ((i : Int) ≤ a)) = true then 4
    else match findR s.op (digR l s) with
      | none => 12
      | some r2 => if r2.ty ≠ s.ty then 12 else if r2.regex = true ∧ reg ≠ 0 then reg else 0
def opNames : List (List UInt8) := [nNumber, nString, nRef, nMatches, nFirstfind, nLencut] ++ sigT.map (·.1)
/-- All rows of types. -/
def allTys : Nat → List (List Int)
  | 0 => [[]]
  | k + 1 => (allTys k).flatMap fun l => [1 :: l, 2 :: l, 3 :: l, 4 :: l]
theorem allTys_mem : ∀ (l : List Int), (∀ t ∈ l, 1 ≤ t ∧ t ≤ 4) → l ∈ allTys l.length
  | [], _ => by simp [allTys]
  | t :: l, h => by
    have ih := allTys_mem l (fun u hu => h u (List.mem_cons_of_mem _ hu))
    have ht := h t (List.mem_cons_self ..)
    rw [List.length_cons, allTys]
    refine List.mem_flatMap.2 ⟨l, ih, ?_⟩
    have : t = 1 ∨ t = 2 ∨ t = 3 ∨ t = 4 := by omega
    rcases this with rfl | rfl | rfl | rfl <;> simp
/-- Do arguments of these types fit? -/
def typedT (n : List UInt8) (o : OpI) (ts : List Int) : Bool :=
  if isCmpT n = true then (if ts.getD 0 0 ≠ ts.getD 1 0 then false else if ts.getD 0 0 = 2 then isEqT n else decide (ts.getD 0 0 = 1 ∨ ts.getD 0 0 = 3)) else decide (ts = o.args)
def okName (n : List UInt8) : Bool := match opR n, firstR n with
  | some o, some r => decide (r.args.length = o.args.length) && decide (textsR r = o.text) && decide (1 ≤ o.res) && decide (o.res ≤ 4) && (allTys o.args.length).all fun ts => match findR n (ts.map dig) with
    | none => !typedT n o ts
    | some r2 => typedT n o ts && decide (r2.ty = o.res) && decide (r2.regex = o.regex)
  | _, _ => false
theorem okNames : opNames.all okName = true := by decide +kernel
theorem rowNames : rowsT.all (fun r => decide (r.op ∈ opNames)) = true := by decide +kernel
theorem opR_name {n : List UInt8} {o : OpI} (h : opR n = some o) : n ∈ opNames := by
  rcases opR_spec h with ⟨rfl, _⟩ | ⟨rfl | rfl, _⟩ | ⟨rfl, _⟩ | ⟨rfl, _⟩ | ⟨rfl, _⟩ | ⟨q, hq, _⟩
  · decide
  · decide
  · decide
  · decide
  · decide
  · decide
  · have := sig_rows (p := fun n _ => decide (n ∈ opNames)) (by decide +kernel) hq
    exact of_decide_eq_true this
theorem firstR_name {n : List UInt8} {r : RowR} (h : firstR n = some r) : r.op = n ∧ n ∈ opNames := by
  have h1 := List.find?_some h
  have h1 : r.op = n := of_decide_eq_true h1
  have h2 := List.all_eq_true.1 rowNames r (List.mem_of_find?_eq_some h)
  have h2 : r.op ∈ opNames := of_decide_eq_true h2
  exact ⟨h1, h1 ▸ h2⟩
structure NameOk (n : List UInt8) (o : OpI) (r : RowR) : Prop where
  len : r.args.length = o.args.length
  text : textsR r = o.text
  lo : 1 ≤ o.res
  hi : o.res ≤ 4
  find : ∀ ts : List Int, ts.length = o.args.length → (∀ t ∈ ts, 1 ≤ t ∧ t ≤ 4) → match findR n (ts.map dig) with
    | none => typedT n o ts = false
    | some r2 => typedT n o ts = true ∧ r2.ty = o.res ∧ r2.regex = o.regex
theorem name_ok {n : List UInt8} (h : n ∈ opNames) : ∃ o r, opR n = some o ∧ firstR n = some r ∧ NameOk n o r := by
  have h1 := List.all_eq_true.1 okNames n h
  unfold okName at h1
  cases ho : opR n with
  | none => rw [ho] at h1; cases h1
  | some o =>
    cases hr : firstR n with
    | none => rw [ho, hr] at h1; cases h1
    | some r =>
      rw [ho, hr] at h1
      simp only [Bool.and_eq_true, decide_eq_true_eq] at h1
      obtain ⟨⟨⟨⟨h1, h2⟩, h3⟩, h4⟩, h5⟩ := h1
      refine ⟨o, r, rfl, rfl, h1, h2, h3, h4, fun ts hl ht => ?_⟩
      have h6 := List.all_eq_true.1 h5 ts (hl ▸ allTys_mem ts ht)
      cases hf : findR n (ts.map dig) with
      | none => rw [hf] at h6; simpa using h6
      | some r2 =>
        rw [hf] at h6
        simp only [Bool.and_eq_true, decide_eq_true_eq] at h6
        exact ⟨h6.1.1, h6.1.2, h6.2⟩
theorem ty_range {l : List St} {i : Nat} {s : St} (h : stepE l i s = 0) : 1 ≤ s.ty ∧ s.ty ≤ 4 := by
  obtain ⟨o, F⟩ := stepE_zero h
  obtain ⟨o', r, h1, _, N⟩ := name_ok (opR_name F.op)
  rw [F.op] at h1
  injection h1 with h1
  subst h1
  rw [F.ty]
  exact ⟨N.lo, N.hi⟩
theorem refE_eq {l : List St} {i : Nat} {s : St} (hl : i < l.length) (hbefore : ∀ j t, j < i → l[j]? = some t → stepE l j t = 0) : refE l i s (patE s.text) = stepE l i s := by
  unfold refE stepE
  cases ho : opR s.op with
  | none =>
    cases hr : firstR s.op with
    | none => rfl
    | some r =>
      obtain ⟨o, r', h1, _⟩ := name_ok (firstR_name hr).2
      rw [ho] at h1
      cases h1
  | some o =>
    obtain ⟨o', r, h1, h2, N⟩ := name_ok (opR_name ho)
    rw [ho] at h1
    injection h1 with h1
    subst h1
    have hrn := (firstR_name h2).1
    rw [h2]
    dsimp only
    rw [N.len, N.text, hrn]
    by_cases e1 : s.args.length ≠ o.args.length
    · rw [if_pos (.inl e1), if_pos e1]
    rw [if_neg e1]
    by_cases e2 : s.args.any (fun a => decide (a < 0) || decide ((i : Int) ≤ a)) = true
    · rw [if_pos e2, if_pos e2]
      split <;> rfl
    rw [if_neg e2, if_neg e2]
    by_cases e3 : s.num < 0 ∨ (0 < s.num ∧ s.op ≠ nNumber) ∨ (s.text ≠ [] ∧ o.text = false)
    · rw [if_pos e3, if_pos]
      rcases e3 with h | h | h
      · exact .inr (.inl h)
      · exact .inr (.inr (.inl ⟨by omega, h.2⟩))
      · exact .inr (.inr (.inr h))
    rw [if_neg e3, if_neg (by
      rintro (h | h | h | h)
      · exact e1 h
      · exact e3 (.inl h)
      · by_cases hn : s.num < 0
        · exact e3 (.inl hn)
        · exact e3 (.inr (.inl ⟨by omega, h.2⟩))
      · exact e3 (.inr (.inr h)))]
    have hts : ∀ a ∈ s.args, 1 ≤ tyAt l a ∧ tyAt l a ≤ 4 := fun a ha => by
      have hh : ∀ x ∈ s.args, 0 ≤ x ∧ x < (i : Int) := by simpa using e2
      have hb := hh a ha
      obtain ⟨t, ht⟩ : ∃ t, l[a.toNat]? = some t := ⟨l[a.toNat]'(by omega), List.getElem?_eq_getElem _⟩
      have := ty_range (hbefore a.toNat t (by omega) ht)
      unfold tyAt
      rw [ht]
      exact this
    have hf := N.find (s.args.map (tyAt l)) (by rw [List.length_map]; omega) (fun t ht => by
      obtain ⟨a, ha, rfl⟩ := List.mem_map.1 ht
      exact hts a ha)
    have hd : digR l s = (s.args.map (tyAt l)).map dig := by unfold digR; rw [List.map_map]; rfl
    have htt : typedR l s o = typedT s.op o (s.args.map (tyAt l)) := by
      unfold typedR typedT
      by_cases hc : isCmpT s.op = true
      · have hlen : o.args.length = 2 := by
          rcases opR_spec ho with ⟨h, rfl⟩ | ⟨h | h, rfl⟩ | ⟨h, rfl⟩ | ⟨h, rfl⟩ | ⟨h, rfl⟩ | ⟨q, hq, rfl, _⟩
          · rw [h] at hc; exact absurd hc (by decide)
          · rw [h] at hc; exact absurd hc (by decide)
          · rw [h] at hc; exact absurd hc (by decide)
          · rw [h] at hc; exact absurd hc (by decide)
          · rw [h] at hc; exact absurd hc (by decide)
          · rw [h] at hc; exact absurd hc (by decide)
          · rw [sig_cmp hq hc]; decide
        obtain ⟨a, b, hab⟩ : ∃ a b, s.args = [a, b] := by
          match hs : s.args, (show s.args.length = 2 by omega) with
          | [a, b], _ => exact ⟨a, b, rfl⟩
        rw [if_pos hc, if_pos hc, hab]
        rfl
      · rw [if_neg hc, if_neg hc]
    rw [hd, htt]
    cases hfr : findR s.op ((s.args.map (tyAt l)).map dig) with
    | none =>
      rw [hfr] at hf
      dsimp only
      rw [if_pos (.inr hf)]
    | some r2 =>
      rw [hfr] at hf
      obtain ⟨f1, f2, f3⟩ := hf
      dsimp only
      rw [f1, f2, f3]
      by_cases e4 : s.ty = o.res
      · rw [if_neg (show ¬ (o.res ≠ s.ty) from fun h => h e4.symm), if_neg (show ¬ (s.ty ≠ o.res ∨ true = false) from fun h => h.elim (fun h => h e4) (fun h => by cases h))]
        by_cases e5 : o.regex = true
        · rw [if_pos e5]
          by_cases e6 : patE s.text = 0
          · rw [if_neg (show ¬ (o.regex = true ∧ patE s.text ≠ 0) from fun h => h.2 e6), e6]
          · rw [if_pos ⟨e5, e6⟩]
        · rw [if_neg e5, if_neg (show ¬ (o.regex = true ∧ patE s.text ≠ 0) from fun h => e5 h.1)]
      · rw [if_pos (show o.res ≠ s.ty from fun h => e4 h.symm), if_pos (show s.ty ≠ o.res ∨ true = false from .inl e4)]
end Go.Proofs.Ytniefnjcimempaa
