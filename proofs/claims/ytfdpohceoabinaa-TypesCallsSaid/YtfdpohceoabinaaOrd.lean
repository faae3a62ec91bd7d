/- Plain: expressions with the addresses of their nodes; the stack machine that lists them, each after its arguments. -/
import Derived.Test.YtfdpohceoabinaaMapLaw
namespace Go.Proofs.Ytfdpohceoabinaa
/-- An expression: the address of its node, kind, text, number, arguments. -/
inductive Lx where
  | node (ad : Addr) (kind : Int) (text : List UInt8) (num : Int) (args : List Lx)
def Lx.ad : Lx → Addr | .node a _ _ _ _ => a
def Lx.kind : Lx → Int | .node _ k _ _ _ => k
def Lx.text : Lx → List UInt8 | .node _ _ t _ _ => t
def Lx.num : Lx → Int | .node _ _ _ n _ => n
def Lx.args : Lx → List Lx | .node _ _ _ _ l => l
mutual
def Lx.size : Lx → Nat
  | .node _ _ _ _ l => 1 + sizeXL l
def sizeXL : List Lx → Nat
  | [] => 0
  | x :: l => x.size + sizeXL l
end
mutual
def Lx.all (p : Lx → Bool) : Lx → Bool
  | .node a k t n l => p (.node a k t n l) && allXL p l
def allXL (p : Lx → Bool) : List Lx → Bool
  | [] => true
  | x :: l => x.all p && allXL p l
end
theorem sizeXL_mem : ∀ {l : List Lx} {x : Lx}, x ∈ l → x.size ≤ sizeXL l
  | y :: l, x, h => by
    unfold sizeXL
    rcases List.mem_cons.1 h with rfl | h
    · omega
    · have := sizeXL_mem h; omega
theorem sizeXL_append : ∀ (l l' : List Lx), sizeXL (l ++ l') = sizeXL l + sizeXL l'
  | [], _ => by simp [sizeXL]
  | r :: rs, l' => by rw [List.cons_append, sizeXL, sizeXL, sizeXL_append rs l']; omega
theorem Lx.arg_size {x a : Lx} (h : a ∈ x.args) : a.size < x.size := by
  obtain ⟨ad, k, t, n, l⟩ := x
  have := sizeXL_mem (show a ∈ l from h)
  show a.size < 1 + sizeXL l
  omega
theorem Lx.size_pos (x : Lx) : 1 ≤ x.size := by cases x; unfold Lx.size; omega
theorem Lx.size_eq (x : Lx) : x.size = 1 + sizeXL x.args := by cases x; rfl
theorem allXL_iff (p : Lx → Bool) : ∀ l : List Lx, allXL p l = true ↔ ∀ a ∈ l, a.all p = true
  | [] => by simp [allXL]
  | x :: l => by simp [allXL, allXL_iff p l]
theorem Lx.all_iff (p : Lx → Bool) (x : Lx) : x.all p = true ↔ p x = true ∧ ∀ a ∈ x.args, a.all p = true := by
  obtain ⟨ad, k, t, n, l⟩ := x
  rw [Lx.all, Bool.and_eq_true, allXL_iff]
  rfl
/-- x is r, or an argument within it. -/
inductive Sub : Lx → Lx → Prop where
  | refl (r : Lx) : Sub r r
  | arg {x y r : Lx} : x ∈ y.args → Sub y r → Sub x r
theorem Sub.all {p : Lx → Bool} {x r : Lx} (h : Sub x r) (hr : r.all p = true) : x.all p = true := by
  induction h with
  | refl r => exact hr
  | arg h1 _ ih => exact ((Lx.all_iff p _).1 (ih hr)).2 _ h1
theorem Sub.size {x r : Lx} (h : Sub x r) : x.size ≤ r.size := by
  induction h with
  | refl r => exact Nat.le_refl _
  | arg h1 _ ih => have := Lx.arg_size h1; omega
/-- Nodes at one address are one. -/
def Det (r : Lx) : Prop := ∀ x y, Sub x r → Sub y r → x.ad = y.ad → x = y
def lookC (s : List (Addr × Value)) (a : Addr) : Value := (lookL s a).getD (.int .i64 0)
theorem lookC_upd (s : List (Addr × Value)) (a : Addr) (v : Value) (b : Addr) : lookC (updL s a v) b = if a = b then v else lookC s b := by
  unfold lookC
  rw [look_upd]
  split <;> rfl
def isV (n : Int) (v : Value) : Prop := v = .int .i64 n
/-- What holds of the machine: the marks, the stack (its top first), the list. -/
structure OInv (p : Lx → Bool) (r : Lx) (s : List (Addr × Value)) (stk : List (Lx × Bool)) (out : List Lx) : Prop where
  sub : ∀ q ∈ stk, Sub q.1 r
  pw : stk.Pairwise fun a b => b.2 = true → a.1.size < b.1.size
  opn : ∀ a, lookC s a = .int .i64 1 → ∃ y, (y, true) ∈ stk ∧ y.ad = a
  cls : ∀ a, lookC s a = .int .i64 2 → ∀ y, Sub y r → y.ad = a → y.all p = true ∧ y ∈ out
  mark : ∀ pre y post, stk = pre ++ (y, true) :: post → p y = true ∧ ∀ a ∈ y.args, lookC s a.ad = .int .i64 2 ∨ ∃ b, (a, b) ∈ pre
  goal : r.all p = false → ∃ q ∈ stk, q.2 = false ∧ q.1.all p = false
  top : lookC s r.ad = .int .i64 2 ∨ ∃ b, (r, b) ∈ stk
  vals : ∀ a, lookC s a = .int .i64 0 ∨ lookC s a = .int .i64 1 ∨ lookC s a = .int .i64 2
  lst : ∀ i x, out[i]? = some x → Sub x r ∧ ∀ a ∈ x.args, a ∈ out.take i
def measO (stk : List (Lx × Bool)) : Nat := match stk with
  | [] => 0
  | q :: l => (if q.2 then 1 else 2 * q.1.size) + measO l
theorem measO_append : ∀ (l l' : List (Lx × Bool)), measO (l ++ l') = measO l + measO l'
  | [], _ => by simp [measO]
  | q :: l, l' => by rw [List.cons_append, measO, measO, measO_append l l']; omega
theorem measO_args : ∀ l : List Lx, measO (l.reverse.map (·, false)) = 2 * sizeXL l
  | [] => by simp [measO, sizeXL]
  | x :: l => by
    rw [List.reverse_cons, List.map_append, measO_append, measO_args l]
    simp [measO, sizeXL]
    omega
section
variable {p : Lx → Bool} {r : Lx} {s : List (Addr × Value)} {stk : List (Lx × Bool)} {out : List Lx}
theorem OInv.start (p : Lx → Bool) (r : Lx) : OInv p r [] [(r, false)] [] where
  sub := fun q h => by simp at h; subst h; exact .refl r
  pw := by simp
  opn := fun a h => by simp [lookC, lookL] at h
  cls := fun a h => by simp [lookC, lookL] at h
  mark := fun pre y post h => by
    cases pre with
    | nil => simp at h
    | cons q pre => simp at h
  goal := fun h => ⟨_, List.mem_cons_self .., rfl, h⟩
  top := .inr ⟨false, List.mem_cons_self ..⟩
  vals := fun a => .inl rfl
  lst := fun i x h => by simp at h
theorem OInv.left (hd : Det r) {y : Lx} (h : OInv p r s ((y, true) :: stk) out) : OInv p r (updL s y.ad (.int .i64 2)) stk (out ++ [y]) where
  sub := fun q hq => h.sub q (List.mem_cons_of_mem _ hq)
  pw := (List.pairwise_cons.1 h.pw).2
  opn := fun a ha => by
    rw [lookC_upd] at ha
    split at ha
    · injection ha with _ ha; cases ha
    · rename_i hne
      obtain ⟨z, hz, e⟩ := h.opn a ha
      rcases List.mem_cons.1 hz with h1 | h1
      · injection h1 with h1; subst h1; exact absurd e hne
      · exact ⟨z, h1, e⟩
  cls := fun a ha z hz e => by
    rw [lookC_upd] at ha
    have hy := h.sub _ (List.mem_cons_self ..)
    split at ha
    · rename_i hya
      have : z = y := hd z y hz hy (e.trans hya.symm)
      subst this
      obtain ⟨m1, m2⟩ := h.mark [] z stk rfl
      refine ⟨(Lx.all_iff p z).2 ⟨m1, fun x hx => ?_⟩, by simp⟩
      rcases m2 x hx with h1 | ⟨b, h1⟩
      · exact (h.cls _ h1 x (.arg hx hy) rfl).1
      · cases h1
    · obtain ⟨h1, h2⟩ := h.cls a ha z hz e
      exact ⟨h1, List.mem_append_left _ h2⟩
  mark := fun pre z post e => by
    obtain ⟨m1, m2⟩ := h.mark ((y, true) :: pre) z post (by rw [e]; rfl)
    refine ⟨m1, fun x hx => ?_⟩
    rw [lookC_upd]
    rcases m2 x hx with h1 | ⟨b, h1⟩
    · by_cases hxy : y.ad = x.ad
      · exact .inl (by rw [if_pos hxy])
      · exact .inl (by rw [if_neg hxy]; exact h1)
    · rcases List.mem_cons.1 h1 with h1 | h1
      · injection h1 with h1 _; subst h1; exact .inl (by rw [if_pos rfl])
      · exact .inr ⟨b, h1⟩
  goal := fun hr => by
    obtain ⟨q, hq, h1, h2⟩ := h.goal hr
    rcases List.mem_cons.1 hq with rfl | hq
    · cases h1
    · exact ⟨q, hq, h1, h2⟩
  top := by
    rw [lookC_upd]
    rcases h.top with h1 | ⟨b, h1⟩
    · by_cases hxy : y.ad = r.ad
      · exact .inl (by rw [if_pos hxy])
      · exact .inl (by rw [if_neg hxy]; exact h1)
    · rcases List.mem_cons.1 h1 with h1 | h1
      · injection h1 with h1 _; exact .inl (by rw [if_pos (by rw [h1])])
      · exact .inr ⟨b, h1⟩
  vals := fun a => by
    rw [lookC_upd]
    split
    · exact .inr (.inr rfl)
    · exact h.vals a
  lst := fun i x hx => by
    have hy := h.sub _ (List.mem_cons_self ..)
    rcases Nat.lt_or_ge i out.length with hi | hi
    · rw [List.getElem?_append_left hi] at hx
      obtain ⟨h1, h2⟩ := h.lst i x hx
      refine ⟨h1, fun a ha => ?_⟩
      rw [List.take_append_of_le_length (by omega)]
      exact h2 a ha
    · rw [List.getElem?_append_right hi] at hx
      have h0 : i - out.length = 0 := by
        rcases Nat.eq_zero_or_pos (i - out.length) with h0 | h0
        · exact h0
        · rw [List.getElem?_eq_none (by simp; omega)] at hx; cases hx
      rw [h0] at hx
      simp only [List.getElem?_cons_zero, Option.some.injEq] at hx
      subst hx
      refine ⟨hy, fun a ha => ?_⟩
      have hi' : i = out.length := by omega
      rw [hi', List.take_left]
      rcases (h.mark [] y stk rfl).2 a ha with h1 | ⟨b, h1⟩
      · exact (h.cls _ h1 a (.arg ha hy) rfl).2
      · cases h1
theorem OInv.closed {x : Lx} (h : OInv p r s ((x, false) :: stk) out) (hc : lookC s x.ad = .int .i64 2) : OInv p r s stk out where
  sub := fun q hq => h.sub q (List.mem_cons_of_mem _ hq)
  pw := (List.pairwise_cons.1 h.pw).2
  opn := fun a ha => by
    obtain ⟨z, hz, e⟩ := h.opn a ha
    rcases List.mem_cons.1 hz with h1 | h1
    · injection h1 with _ h1; cases h1
    · exact ⟨z, h1, e⟩
  cls := h.cls
  mark := fun pre z post e => by
    obtain ⟨m1, m2⟩ := h.mark ((x, false) :: pre) z post (by rw [e]; rfl)
    refine ⟨m1, fun a ha => ?_⟩
    rcases m2 a ha with h1 | ⟨b, h1⟩
    · exact .inl h1
    · rcases List.mem_cons.1 h1 with h1 | h1
      · injection h1 with h1 _; subst h1; exact .inl hc
      · exact .inr ⟨b, h1⟩
  goal := fun hr => by
    obtain ⟨q, hq, h1, h2⟩ := h.goal hr
    rcases List.mem_cons.1 hq with rfl | hq
    · have := (h.cls _ hc x (h.sub _ (List.mem_cons_self ..)) rfl).1
      rw [this] at h2; cases h2
    · exact ⟨q, hq, h1, h2⟩
  top := by
    rcases h.top with h1 | ⟨b, h1⟩
    · exact .inl h1
    · rcases List.mem_cons.1 h1 with h1 | h1
      · injection h1 with h1 _; subst h1; exact .inl hc
      · exact .inr ⟨b, h1⟩
  vals := h.vals
  lst := h.lst
theorem OInv.not_open (hd : Det r) {x : Lx} (h : OInv p r s ((x, false) :: stk) out) : lookC s x.ad ≠ .int .i64 1 := fun ho => by
  obtain ⟨y, hy, e⟩ := h.opn _ ho
  rcases List.mem_cons.1 hy with h1 | h1
  · injection h1 with _ h1; cases h1
  · have := (List.pairwise_cons.1 h.pw).1 _ h1 rfl
    have he := hd y x (h.sub _ (List.mem_cons_of_mem _ h1)) (h.sub _ (List.mem_cons_self ..)) e
    subst he
    simp at this
theorem OInv.fail {x : Lx} (h : OInv p r s ((x, false) :: stk) out) (hp : p x = false) : r.all p = false := by
  rcases hr : r.all p with _ | _
  · rfl
  · have := ((Lx.all_iff p x).1 ((h.sub _ (List.mem_cons_self ..)).all hr)).1
    rw [hp] at this; cases this
theorem OInv.push {x : Lx} (h : OInv p r s ((x, false) :: stk) out) (hp : p x = true) (hc : lookC s x.ad = .int .i64 0) :
    OInv p r (updL s x.ad (.int .i64 1)) (x.args.reverse.map (·, false) ++ (x, true) :: stk) out where
  sub := fun q hq => by
    have hx := h.sub _ (List.mem_cons_self ..)
    rcases List.mem_append.1 hq with hq | hq
    · obtain ⟨a, ha, rfl⟩ := List.mem_map.1 hq
      exact .arg (List.mem_reverse.1 ha) hx
    · rcases List.mem_cons.1 hq with rfl | hq
      · exact hx
      · exact h.sub q (List.mem_cons_of_mem _ hq)
  pw := by
    obtain ⟨p1, p2⟩ := List.pairwise_cons.1 h.pw
    refine List.pairwise_append.2 ⟨?_, List.pairwise_cons.2 ⟨fun q hq hb => p1 q hq hb, p2⟩, fun a ha b hb hbt => ?_⟩
    · rw [List.pairwise_map]
      exact List.pairwise_of_forall fun _ _ e => by cases e
    · obtain ⟨y, hy, rfl⟩ := List.mem_map.1 ha
      have := Lx.arg_size (List.mem_reverse.1 hy)
      rcases List.mem_cons.1 hb with rfl | hb
      · exact this
      · exact Nat.lt_trans this (p1 b hb hbt)
  opn := fun a ha => by
    rw [lookC_upd] at ha
    split at ha
    · rename_i e
      exact ⟨x, by simp, e⟩
    · obtain ⟨z, hz, e⟩ := h.opn a ha
      rcases List.mem_cons.1 hz with h1 | h1
      · injection h1 with _ h1; cases h1
      · exact ⟨z, List.mem_append_right _ (List.mem_cons_of_mem _ h1), e⟩
  cls := fun a ha z hz e => by
    rw [lookC_upd] at ha
    split at ha
    · injection ha with _ ha; cases ha
    · exact h.cls a ha z hz e
  mark := fun pre y post e => by
    have hcl : ∀ a : Lx, lookC s a.ad = .int .i64 2 → lookC (updL s x.ad (.int .i64 1)) a.ad = .int .i64 2 := fun a ha => by
      rw [lookC_upd, if_neg]
      · exact ha
      · intro e; rw [e] at hc; rw [hc] at ha; injection ha with _ ha; cases ha
    rw [List.append_eq_append_iff] at e
    rcases e with ⟨l, e1, e2⟩ | ⟨l, e1, e2⟩
    · cases l with
      | nil =>
        simp only [List.nil_append, List.cons.injEq, Prod.mk.injEq] at e2
        obtain ⟨⟨rfl, _⟩, rfl⟩ := e2
        refine ⟨hp, fun a ha => .inr ⟨false, ?_⟩⟩
        rw [e1, List.append_nil]
        exact List.mem_map.2 ⟨a, List.mem_reverse.2 ha, rfl⟩
      | cons q l =>
        simp only [List.cons_append, List.cons.injEq] at e2
        obtain ⟨rfl, e3⟩ := e2
        obtain ⟨m1, m2⟩ := h.mark ((x, false) :: l) y post (by rw [e3]; rfl)
        refine ⟨m1, fun a ha => ?_⟩
        rcases m2 a ha with h1 | ⟨b, h1⟩
        · exact .inl (hcl a h1)
        · rcases List.mem_cons.1 h1 with h1 | h1
          · injection h1 with h1 _
            subst h1
            exact .inr ⟨true, by rw [e1]; simp⟩
          · exact .inr ⟨b, by rw [e1]; simp [h1]⟩
    · cases l with
      | nil =>
        simp only [List.nil_append, List.cons.injEq, Prod.mk.injEq] at e2
        obtain ⟨⟨rfl, _⟩, rfl⟩ := e2
        refine ⟨hp, fun a ha => .inr ⟨false, ?_⟩⟩
        rw [List.append_nil] at e1
        rw [← e1]
        exact List.mem_map.2 ⟨a, List.mem_reverse.2 ha, rfl⟩
      | cons q l =>
        exfalso
        simp only [List.cons_append, List.cons.injEq] at e2
        obtain ⟨rfl, _⟩ := e2
        have : (y, true) ∈ x.args.reverse.map (·, false) := by rw [e1]; simp
        obtain ⟨a, _, e⟩ := List.mem_map.1 this
        injection e with _ e
        cases e
  goal := fun hr => by
    obtain ⟨q, hq, h1, h2⟩ := h.goal hr
    rcases List.mem_cons.1 hq with rfl | hq
    · have : ∃ a ∈ x.args, a.all p = false := by
        apply Classical.byContradiction
        intro hn
        have : x.all p = true := (Lx.all_iff p x).2 ⟨hp, fun a ha => by
          rcases hz : a.all p with _ | _
          · exact absurd ⟨a, ha, hz⟩ hn
          · rfl⟩
        rw [this] at h2; cases h2
      obtain ⟨a, ha, hz⟩ := this
      exact ⟨(a, false), List.mem_append_left _ (List.mem_map.2 ⟨a, List.mem_reverse.2 ha, rfl⟩), rfl, hz⟩
    · exact ⟨q, List.mem_append_right _ (List.mem_cons_of_mem _ hq), h1, h2⟩
  top := by
    rcases h.top with h1 | ⟨b, h1⟩
    · refine .inl ?_
      rw [lookC_upd, if_neg]
      · exact h1
      · intro e; rw [e] at hc; rw [hc] at h1; injection h1 with _ h1; cases h1
    · rcases List.mem_cons.1 h1 with h1 | h1
      · injection h1 with h1 _; subst h1; exact .inr ⟨true, by simp⟩
      · exact .inr ⟨b, by simp [h1]⟩
  vals := fun a => by
    rw [lookC_upd]
    split
    · exact .inr (.inl rfl)
    · exact h.vals a
  lst := h.lst
theorem OInv.done (h : OInv p r s [] out) : r.all p = true ∧ r ∈ out := by
  have h1 : r.all p = true := by
    rcases hr : r.all p with _ | _
    · obtain ⟨q, hq, _⟩ := h.goal hr; cases hq
    · rfl
  refine ⟨h1, ?_⟩
  rcases h.top with h2 | ⟨b, h2⟩
  · exact (h.cls _ h2 r (.refl r) rfl).2
  · cases h2
end
theorem measO_push (x : Lx) (stk : List (Lx × Bool)) : measO (x.args.reverse.map (·, false) ++ (x, true) :: stk) < measO ((x, false) :: stk) := by
  rw [measO_append, measO_args, measO, measO]
  have := x.size_eq
  simp
  omega
end Go.Proofs.Ytfdpohceoabinaa
