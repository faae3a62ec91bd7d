/- Plain: tables of names as sorted lists of rows; the datum that a map of them reads as. No program is named. -/
import Derived.Maps.OwnSet
import Derived.Maps.Views
import Derived.WideShapes
import Derived.WideAt
namespace Go.Proofs.Ythmbmecodddkeaa
/-- A row: a name, its commit, whether it is a tag. -/
structure Row where
  name : List UInt8
  n : Int
  tag : Bool
  deriving DecidableEq
/-- Strictly sorted by name. -/
def Rising (l : List Row) : Prop := l.Pairwise fun a b => bytesBefore a.name b.name = true
def findR (nm : List UInt8) : List Row → Option Row
  | [] => none
  | r :: t => if r.name = nm then some r else findR nm t
/-- The list with a row, which replaces the one of its name. -/
def putR (x : Row) : List Row → List Row
  | [] => [x]
  | y :: t => if y.name = x.name then x :: t else if bytesBefore x.name y.name = true then x :: y :: t else y :: putR x t
def dropR (nm : List UInt8) (l : List Row) : List Row := l.filter fun r => !(r.name == nm)
def okAt (i : Nat) (c : Nat) : Bool := (decide (97 ≤ c) && decide (c ≤ 122)) || (decide (0 < i) && ((decide (48 ≤ c) && decide (c ≤ 57)) || decide (c = 45)))
def validB (l : List UInt8) : Bool := decide (1 ≤ l.length) && decide (l.length ≤ 32) && (List.range l.length).all fun i => okAt i (l.getD i 0).toNat
/-- Branch: the rows after a call, and the code. -/
def branchR (l : List Row) (nm : List UInt8) (old x : Int) : List Row × Int :=
  if validB nm = false then (l, 13)
  else if x < 0 ∨ old < -1 then (l, 1)
  else match findR nm l with
    | some r => if old = -1 then (l, 6) else if r.tag = true then (l, 7) else if r.n ≠ old then (l, 11) else (putR ⟨nm, x, false⟩ l, 0)
    | none => if old = -1 then (putR ⟨nm, x, false⟩ l, 0) else (l, 5)
def tagR (l : List Row) (nm : List UInt8) (x : Int) : List Row × Int :=
  if validB nm = false then (l, 13)
  else if x < 0 then (l, 1)
  else match findR nm l with
    | some _ => (l, 6)
    | none => (putR ⟨nm, x, true⟩ l, 0)
def delR (l : List Row) (nm : List UInt8) : List Row × Int :=
  if validB nm = false then (l, 13)
  else match findR nm l with
    | some _ => (dropR nm l, 0)
    | none => (l, 5)
/-- What Get returns. -/
def getR (l : List Row) (nm : List UInt8) : Int × Bool × Int :=
  if validB nm = false then (0, false, 13)
  else match findR nm l with
    | some r => (r.n, r.tag, 0)
    | none => (0, false, 5)
/-! ### the datum -/
def tgt (n : Int) (tag : Bool) : DataW Unit := .agg [.lit (.int .i64 n), .lit (.bool tag)]
def ent (r : Row) : Lit × DataW Unit := (.string r.name, tgt r.n r.tag)
def datum (l : List Row) : DataW Unit := .map (l.map ent)
theorem sameKey_string (a b : List UInt8) : (Lit.string a).sameKey (.string b) = decide (a = b) := by
  rw [Bool.eq_iff_iff]; simp [Lit.sameKey]
theorem has_datum (l : List Row) (nm : List UInt8) : Maps.has (datum l) (.string nm) = (findR nm l).isSome := by
  induction l with
  | nil => rfl
  | cons r t ih =>
    rw [datum, Maps.has_eq] at ih ⊢
    simp only [List.map_cons, List.any_cons, findR, ent, sameKey_string] at ih ⊢
    by_cases h : r.name = nm
    · simp [h]
    · simp [h]; simpa using ih
theorem atKey_datum (l : List Row) (nm : List UInt8) (z : DataW Unit) : (datum l).atKey (.string nm) z = match findR nm l with | some r => tgt r.n r.tag | none => z := by
  induction l with
  | nil => rfl
  | cons r t ih =>
    simp only [datum, DataW.atKey, List.map_cons, List.find?_cons, findR, ent, sameKey_string] at ih ⊢
    by_cases h : r.name = nm
    · simp [h]
    · simp only [h, decide_false, if_false]; exact ih
theorem filter_after (x : List UInt8) (l : List Row) (h : ∀ r ∈ l, bytesBefore x r.name = true) : (l.map ent).filter (fun p => !p.1.sameKey (.string x)) = l.map ent := by
  rw [List.filter_eq_self]
  intro p hp
  simp only [List.mem_map] at hp
  obtain ⟨r, hr, rfl⟩ := hp
  have := h r hr
  simp only [ent, sameKey_string]
  by_cases e : r.name = x
  · rw [e, WideAt.bytes_irrefl] at this; cases this
  · simp [e]
theorem put_datum (l : List Row) (x : Row) (h : Rising l) : (datum l).put (.string x.name) (tgt x.n x.tag) = datum (putR x l) := by
  induction l with
  | nil => rfl
  | cons y t ih =>
    have hy : ∀ r ∈ t, bytesBefore y.name r.name = true := (List.pairwise_cons.1 h).1
    have ht : Rising t := (List.pairwise_cons.1 h).2
    simp only [datum, DataW.put, List.map_cons, putR]
    by_cases e : y.name = x.name
    · have hk : (!(ent y).1.sameKey (.string x.name)) = false := by simp [ent, sameKey_string, e]
      rw [List.filter_cons, hk, if_pos e]
      simp only [Bool.false_eq_true, if_false]
      rw [e] at hy
      rw [filter_after x.name t hy]
      cases t with
      | nil => rfl
      | cons z t =>
        have hz := hy z (by simp)
        simp only [List.map_cons, DataW.insert, ent, Lit.before, hz, if_true]
    · have hk : (!(ent y).1.sameKey (.string x.name)) = true := by simp [ent, sameKey_string, e]
      rw [List.filter_cons, hk, if_neg e]
      simp only [if_true]
      by_cases hb : bytesBefore x.name y.name = true
      · rw [if_pos hb, filter_after x.name t (fun r hr => WideShapes.bytes_trans _ _ _ hb (hy r hr))]
        simp only [DataW.insert, ent, Lit.before, hb, if_true, List.map_cons]
      · rw [if_neg hb]
        have := ih ht
        simp only [datum, DataW.put, DataW.map.injEq] at this
        simp only [DataW.insert, ent, Lit.before, hb, List.map_cons]
        rw [← this]
        simp
theorem del_datum (l : List Row) (nm : List UInt8) : (datum l).del (.string nm) = datum (dropR nm l) := by
  simp only [datum, DataW.del, dropR, DataW.map.injEq]
  induction l with
  | nil => rfl
  | cons r t ih =>
    simp only [List.map_cons, List.filter_cons, ent, sameKey_string]
    by_cases h : r.name = nm
    · simp [h]; simpa [ent, sameKey_string] using ih
    · simp [h]; simpa [ent, sameKey_string] using ih
theorem mem_putR (x : Row) : ∀ (l : List Row) (r : Row), r ∈ putR x l → r = x ∨ r ∈ l
  | [], r, h => by simp [putR] at h; exact .inl h
  | y :: t, r, h => by
    simp only [putR] at h
    split at h
    · simp at h; rcases h with h | h
      · exact .inl h
      · exact .inr (by simp [h])
    · split at h
      · simp at h; rcases h with h | h | h
        · exact .inl h
        · exact .inr (by simp [h])
        · exact .inr (by simp [h])
      · simp at h; rcases h with h | h
        · exact .inr (by simp [h])
        · rcases mem_putR x t r h with h | h
          · exact .inl h
          · exact .inr (by simp [h])
theorem rising_putR (x : Row) : ∀ (l : List Row), Rising l → Rising (putR x l)
  | [], _ => by simp [putR, Rising]
  | y :: t, h => by
    have hy : ∀ r ∈ t, bytesBefore y.name r.name = true := (List.pairwise_cons.1 h).1
    have ht : Rising t := (List.pairwise_cons.1 h).2
    simp only [putR]
    split
    · rename_i e
      exact List.pairwise_cons.2 ⟨fun r hr => by rw [← e]; exact hy r hr, ht⟩
    · rename_i e
      split
      · rename_i hb
        exact List.pairwise_cons.2 ⟨fun r hr => by
          simp at hr; rcases hr with rfl | hr
          · exact hb
          · exact WideShapes.bytes_trans _ _ _ hb (hy r hr), h⟩
      · rename_i hb
        refine List.pairwise_cons.2 ⟨fun r hr => ?_, rising_putR x t ht⟩
        rcases mem_putR x t r hr with rfl | hr
        · rcases WideAt.bytes_total _ _ e with h1 | h1
          · exact h1
          · exact absurd h1 hb
        · exact hy r hr
theorem rising_dropR (nm : List UInt8) (l : List Row) (h : Rising l) : Rising (dropR nm l) := List.Pairwise.filter _ h
theorem rising_branch (l : List Row) (nm : List UInt8) (old x : Int) (h : Rising l) : Rising (branchR l nm old x).1 := by
  unfold branchR
  repeat' split
  all_goals first | exact h | exact rising_putR _ _ h
theorem rising_tag (l : List Row) (nm : List UInt8) (x : Int) (h : Rising l) : Rising (tagR l nm x).1 := by
  unfold tagR
  repeat' split
  all_goals first | exact h | exact rising_putR _ _ h
theorem rising_del (l : List Row) (nm : List UInt8) (h : Rising l) : Rising (delR l nm).1 := by
  unfold delR
  repeat' split
  all_goals first | exact h | exact rising_dropR _ _ h
theorem findR_name {nm : List UInt8} : ∀ {l : List Row} {r : Row}, findR nm l = some r → r.name = nm ∧ r ∈ l
  | [], r, h => by cases h
  | y :: t, r, h => by
    simp only [findR] at h
    split at h
    · injection h with h; subst h; exact ⟨by assumption, by simp⟩
    · have := findR_name h; exact ⟨this.1, by simp [this.2]⟩
theorem findR_put_same (x : Row) : ∀ l : List Row, Rising l → findR x.name (putR x l) = some x
  | [], _ => by simp [putR, findR]
  | y :: t, h => by
    have ht : Rising t := (List.pairwise_cons.1 h).2
    simp only [putR]
    split
    · simp [findR]
    · rename_i e
      split
      · simp [findR]
      · simp [findR, e, findR_put_same x t ht]
end Go.Proofs.Ythmbmecodddkeaa
