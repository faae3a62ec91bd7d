/- Plain: sorted lists by a name, over any type; tables of rows are such lists. No program is named. -/
import Derived.Test.YthmbmecodddkeaaPlain
namespace Go.Proofs.Ythmbmecodddkeaa
section
variable {α β : Type}
def findG (nm : α → List UInt8) (s : List UInt8) : List α → Option α
  | [] => none
  | r :: t => if nm r = s then some r else findG nm s t
def putG (nm : α → List UInt8) (x : α) : List α → List α
  | [] => [x]
  | y :: t => if nm y = nm x then x :: t else if bytesBefore (nm x) (nm y) = true then x :: y :: t else y :: putG nm x t
def dropG (nm : α → List UInt8) (s : List UInt8) (l : List α) : List α := l.filter fun r => !(nm r == s)
def RisingG (nm : α → List UInt8) (l : List α) : Prop := l.Pairwise fun a b => bytesBefore (nm a) (nm b) = true
theorem findG_map (f : α → β) (nm : β → List UInt8) (s : List UInt8) (l : List α) : findG nm s (l.map f) = (findG (fun a => nm (f a)) s l).map f := by
  induction l with
  | nil => rfl
  | cons r t ih => simp only [List.map_cons, findG]; split <;> simp [ih]
theorem putG_map (f : α → β) (nm : β → List UInt8) (x : α) (l : List α) : (putG (fun a => nm (f a)) x l).map f = putG nm (f x) (l.map f) := by
  induction l with
  | nil => rfl
  | cons r t ih => simp only [List.map_cons, putG]; split <;> (try split) <;> simp [ih]
theorem dropG_map (f : α → β) (nm : β → List UInt8) (s : List UInt8) (l : List α) : (dropG (fun a => nm (f a)) s l).map f = dropG nm s (l.map f) := by
  unfold dropG
  rw [List.filter_map]
  rfl
theorem findR_G (s : List UInt8) (l : List Row) : findR s l = findG Row.name s l := by
  induction l with
  | nil => rfl
  | cons r t ih => simp only [findR, findG, ih]
theorem putR_G (x : Row) (l : List Row) : putR x l = putG Row.name x l := by
  induction l with
  | nil => rfl
  | cons r t ih => simp only [putR, putG, ih]
theorem findG_name {nm : α → List UInt8} {s : List UInt8} : ∀ {l : List α} {r : α}, findG nm s l = some r → nm r = s ∧ r ∈ l
  | [], r, h => by cases h
  | y :: t, r, h => by
    simp only [findG] at h
    split at h
    · injection h with h; subst h; exact ⟨by assumption, by simp⟩
    · have := findG_name h; exact ⟨this.1, by simp [this.2]⟩
theorem findG_none {nm : α → List UInt8} {s : List UInt8} : ∀ {l : List α}, findG nm s l = none → ∀ r ∈ l, nm r ≠ s
  | [], _, r, hr => by cases hr
  | y :: t, h, r, hr => by
    simp only [findG] at h
    split at h
    · cases h
    · rename_i hne
      rcases List.mem_cons.1 hr with rfl | hr
      · exact hne
      · exact findG_none h r hr
theorem mem_putG {nm : α → List UInt8} (x : α) : ∀ (l : List α) (r : α), r ∈ putG nm x l → r = x ∨ (r ∈ l ∧ (RisingG nm l → nm r ≠ nm x))
  | [], r, h => by simp [putG] at h; exact .inl h
  | y :: t, r, h => by
    simp only [putG] at h
    split at h
    · rename_i e
      simp at h; rcases h with h | h
      · exact .inl h
      · refine .inr ⟨by simp [h], fun hr he => ?_⟩
        have := (List.pairwise_cons.1 hr).1 r h
        rw [he, e, WideAt.bytes_irrefl] at this
        cases this
    · rename_i e
      split at h
      · rename_i hb
        simp at h
        rcases h with h | h | h
        · exact .inl h
        · subst h; exact .inr ⟨by simp, fun _ => e⟩
        · refine .inr ⟨by simp [h], fun hr he => ?_⟩
          have := (List.pairwise_cons.1 hr).1 r h
          rw [he] at this
          have := WideShapes.bytes_trans _ _ _ hb this
          rw [WideAt.bytes_irrefl] at this
          cases this
      · simp at h; rcases h with h | h
        · subst h; exact .inr ⟨by simp, fun _ => e⟩
        · rcases mem_putG x t r h with h | ⟨h, h2⟩
          · exact .inl h
          · exact .inr ⟨by simp [h], fun hr => h2 (List.pairwise_cons.1 hr).2⟩
theorem mem_putG_self {nm : α → List UInt8} (x : α) : ∀ (l : List α), x ∈ putG nm x l
  | [] => by simp [putG]
  | y :: t => by
    simp only [putG]
    split
    · simp
    · split
      · simp
      · simp [mem_putG_self x t]
theorem risingG_put {nm : α → List UInt8} (x : α) (l : List α) (h : RisingG nm l) : RisingG nm (putG nm x l) := by
  induction l with
  | nil => simp [putG, RisingG]
  | cons y t ih =>
    have hy : ∀ r ∈ t, bytesBefore (nm y) (nm r) = true := (List.pairwise_cons.1 h).1
    have ht : RisingG nm t := (List.pairwise_cons.1 h).2
    simp only [putG]
    split
    · rename_i e
      exact List.pairwise_cons.2 ⟨fun r hr => by rw [← e]; exact hy r hr, ht⟩
    · rename_i e
      split
      · rename_i hb
        exact List.pairwise_cons.2 ⟨fun r hr => by
          simp at hr; rcases hr with rfl | hr
          · exact hb
          · exact WideShapes.bytes_trans _ _ _ hb (hy r hr), h⟩
      · rename_i hb
        refine List.pairwise_cons.2 ⟨fun r hr => ?_, ih ht⟩
        rcases mem_putG x t r hr with rfl | ⟨hr, _⟩
        · rcases WideAt.bytes_total _ _ e with h1 | h1
          · exact h1
          · exact absurd h1 hb
        · exact hy r hr
/-- What holds between any two entries of a list holds behind a put, if the new one has it with all of another name. -/
theorem pairwise_putG {nm : α → List UInt8} {R : α → α → Prop} (hs : ∀ a b, R a b → R b a) (x : α) : ∀ (l : List α), RisingG nm l → l.Pairwise R → (∀ r ∈ l, nm r ≠ nm x → R x r) → (putG nm x l).Pairwise R
  | [], _, _, _ => by simp [putG]
  | y :: t, hr, hp, hx => by
    have hy : ∀ r ∈ t, bytesBefore (nm y) (nm r) = true := (List.pairwise_cons.1 hr).1
    have ht : RisingG nm t := (List.pairwise_cons.1 hr).2
    obtain ⟨hp1, hp2⟩ := List.pairwise_cons.1 hp
    have hlt : ∀ r ∈ t, nm r ≠ nm y := fun r h e => by
      have := hy r h
      rw [e, WideAt.bytes_irrefl] at this
      cases this
    simp only [putG]
    split
    · rename_i e
      exact List.pairwise_cons.2 ⟨fun r h => hx r (by simp [h]) (fun e2 => hlt r h (e2.trans e.symm)), hp2⟩
    · rename_i e
      split
      · rename_i hb
        refine List.pairwise_cons.2 ⟨fun r h => ?_, hp⟩
        rcases List.mem_cons.1 h with rfl | h
        · exact hx _ (by simp) e
        · refine hx r (by simp [h]) fun e2 => ?_
          have h1 := hy r h
          rw [e2] at h1
          have := WideShapes.bytes_trans _ _ _ hb h1
          rw [WideAt.bytes_irrefl] at this
          cases this
      · refine List.pairwise_cons.2 ⟨fun r h => ?_, pairwise_putG hs x t ht hp2 fun r h => hx r (by simp [h])⟩
        rcases mem_putG x t r h with rfl | ⟨h, _⟩
        · exact hs _ _ (hx y (by simp) e)
        · exact hp1 r h
theorem len_putG {nm : α → List UInt8} (x : α) : ∀ l : List α, (putG nm x l).length ≤ l.length + 1
  | [] => by simp [putG]
  | y :: t => by
    simp only [putG]
    split
    · simp
    · split
      · simp
      · simp; exact len_putG x t
theorem putG_same {nm : α → List UInt8} {x : α} : ∀ {l : List α}, RisingG nm l → findG nm (nm x) l = some x → putG nm x l = l
  | [], _, h => by cases h
  | y :: t, hr, h => by
    have hy : ∀ r ∈ t, bytesBefore (nm y) (nm r) = true := (List.pairwise_cons.1 hr).1
    simp only [findG] at h
    simp only [putG]
    split at h
    · rename_i e
      injection h with h
      subst h
      rw [if_pos rfl]
    · rename_i e
      rw [if_neg e]
      have hm := (findG_name h).2
      have hb : ¬ bytesBefore (nm x) (nm y) = true := fun hb => by
        have := WideShapes.bytes_trans _ _ _ hb (hy x hm)
        rw [WideAt.bytes_irrefl] at this
        cases this
      rw [if_neg hb, putG_same (List.pairwise_cons.1 hr).2 h]
end
end Go.Proofs.Ythmbmecodddkeaa
