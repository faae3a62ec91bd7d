/- Plain laws of plans: the sizes of the trees, and the types. Plain laws: the plan of a tree has no error, and its tree is the tree. Plain laws: the plan of a tree, whole. Plain laws: the sizes that Tree reckons are those of the trees; k times t ++ t. -/
import Derived.Test.YtoegklpomlhneaaGreatDoorqPoP
import Derived.Test.YtoegklpomlhneaaGreatDoorqRx1
namespace Go.Proofs.YtoegklpomlhneaaGreatDoor
open Go.RowKit
def sumZ (l : List Tx) : Int := (l.map fun t => (t.size : Int)).sum
theorem sizeTL_sum : ∀ l : List Tx, (sizeTL l : Int) = sumZ l
  | [] => rfl
  | x :: l => by
    unfold sizeTL sumZ
    rw [List.map_cons, List.sum_cons, Int.natCast_add, sizeTL_sum l]
    rfl
theorem node_size (k : Int) (t : List UInt8) (n : Int) (l : List Tx) : ((Tx.node k t n l).size : Int) = 1 + sumZ l := by
  rw [Tx.size, Int.natCast_add, sizeTL_sum]; rfl
theorem sumZ_cons (x : Tx) (l : List Tx) : sumZ (x :: l) = x.size + sumZ l := by unfold sumZ; rw [List.map_cons, List.sum_cons]
theorem sumZ_nil : sumZ [] = 0 := rfl
theorem opR_spec {n : List UInt8} {o : OpI} (h : opR n = some o) :
    (n = nNumber ∧ o = ⟨[], 1, false, false⟩) ∨ ((n = nString ∨ n = nRef) ∧ o = ⟨[], 3, true, false⟩) ∨ (n = nMatches ∧ o = ⟨[3], 1, true, true⟩) ∨ (n = nFirstfind ∧ o = ⟨[3, 1], 4, true, true⟩) ∨ (n = nLencut ∧ o = ⟨[3, 1, 1], 1, false, false⟩) ∨
    (∃ q, sig n = some q ∧ o = opS q ∧ n ≠ nNumber ∧ n ≠ nString ∧ n ≠ nRef ∧ n ≠ nMatches ∧ n ≠ nFirstfind ∧ n ≠ nLencut) := by
  unfold opR at h
  split at h
  · rename_i e; injection h with h; exact .inl ⟨e, h.symm⟩
  rename_i e1
  split at h
  · rename_i e; injection h with h; exact .inr (.inl ⟨e, h.symm⟩)
  rename_i e2
  split at h
  · rename_i e; injection h with h; exact .inr (.inr (.inl ⟨e, h.symm⟩))
  rename_i e3
  split at h
  · rename_i e; injection h with h; exact .inr (.inr (.inr (.inl ⟨e, h.symm⟩)))
  rename_i e4
  split at h
  · rename_i e; injection h with h; exact .inr (.inr (.inr (.inr (.inl ⟨e, h.symm⟩))))
  rename_i e5
  split at h
  · cases h
  rename_i q hq
  injection h with h
  exact .inr (.inr (.inr (.inr (.inr ⟨q, hq, h.symm, e1, fun e => e2 (.inl e), fun e => e2 (.inr e), e3, e4, e5⟩))))
/-- The rows of the table. -/
theorem sig_rows {p : List UInt8 → List Int × Int → Bool} (hp : (sigT.all fun q => p q.1 q.2) = true) {n : List UInt8} {q : List Int × Int} (h : sig n = some q) : p n q = true := by
  have hh : ∀ L : List (List UInt8 × List Int × Int), (∀ q ∈ L, p q.1 q.2 = true) → sigF n L = some q → p n q = true := fun L => by
    induction L with
    | nil => intro _ h; cases h
    | cons r L ih =>
      obtain ⟨m, a, b⟩ := r
      intro hq h
      rw [sigF] at h
      split at h
      · rename_i e
        injection h with h
        subst h e
        exact hq _ (List.mem_cons_self ..)
      · exact ih (fun r hm => hq r (List.mem_cons_of_mem _ hm)) h
  exact hh sigT (fun r hr => List.all_eq_true.1 hp r hr) h
/-- A call with a pattern, or one without. -/
theorem sig_kinds {n : List UInt8} {q : List Int × Int} (h : sig n = some q) : ((n = nCount ∨ n = nHas ∨ n = nFind) ∧ q.1 = [3, 0]) ∨ (n ≠ nCount ∧ n ≠ nHas ∧ n ≠ nFind ∧ (∀ s ∈ q.1, s ≠ 0)) := by
  have := sig_rows (p := fun n q => (decide (n = nCount ∨ n = nHas ∨ n = nFind) && decide (q.1 = [3, 0])) || (decide (n ≠ nCount) && decide (n ≠ nHas) && decide (n ≠ nFind) && q.1.all fun s => decide (s ≠ 0))) (by decide +kernel) h
  simp only [Bool.or_eq_true, Bool.and_eq_true, decide_eq_true_eq, List.all_eq_true] at this
  rcases this with h | h
  · exact .inl h
  · exact .inr ⟨h.1.1.1, h.1.1.2, h.1.2, h.2⟩
theorem opS_plain {q : List Int × Int} (h : ∀ s ∈ q.1, s ≠ 0) : opS q = ⟨q.1, q.2, false, false⟩ := by
  have h1 : q.1.filter (fun t => decide (t ≠ 0)) = q.1 := List.filter_eq_self.2 (fun a ha => by simpa using h a ha)
  have h2 : q.1.any (fun t => decide (t = 0)) = false := by
    rw [List.any_eq_false]
    intro a ha
    simpa using h a ha
  unfold opS
  rw [h1, h2]
theorem opS_pat {q : List Int × Int} (h : q.1 = [3, 0]) : opS q = ⟨[3], q.2, true, true⟩ := by
  unfold opS
  rw [h]
  rfl
theorem len1 {l : List Tx} (h : l.length = 1) : ∃ x, l = [x] := by
  match l, h with
  | [x], _ => exact ⟨x, rfl⟩
theorem len2 {l : List Tx} (h : l.length = 2) : ∃ x y, l = [x, y] := by
  match l, h with
  | [x, y], _ => exact ⟨x, y, rfl⟩
/-- A node's size. -/
theorem nodeR_size {s : St} {o : OpI} {a : List Tx} (ho : opR s.op = some o) (hl : a.length = o.args.length) : ((nodeR s a).size : Int) = baseN s.op + sumZ a := by
  obtain ⟨op, args, num, text, ty⟩ := s
  dsimp only at ho ⊢
  rcases opR_spec ho with ⟨rfl, rfl⟩ | ⟨h, rfl⟩ | ⟨rfl, rfl⟩ | ⟨rfl, rfl⟩ | ⟨rfl, rfl⟩ | ⟨q, hq, rfl, h1, h2, h3, h4, h5, h6⟩
  · have : a = [] := List.eq_nil_of_length_eq_zero hl
    subst this
    rfl
  · have : a = [] := List.eq_nil_of_length_eq_zero hl
    subst this
    rcases h with rfl | rfl <;> rfl
  · obtain ⟨x, rfl⟩ := len1 hl
    show ((Tx.node 4 nSize 0 [.node 4 nFind 0 [x, .node 2 text 0 []]]).size : Int) = 3 + _
    simp only [node_size, sumZ_cons, sumZ_nil]; omega
  · obtain ⟨x, y, rfl⟩ := len2 hl
    show ((Tx.node 4 nFirst 0 [.node 4 nFind 0 [x, .node 2 text 0 []], y]).size : Int) = 3 + _
    simp only [node_size, sumZ_cons, sumZ_nil]; omega
  · show ((Tx.node 4 nLen 0 [.node 4 nCut 0 a]).size : Int) = 2 + _
    simp only [node_size, sumZ_cons, sumZ_nil]; omega
  · rcases sig_kinds hq with ⟨h, hp⟩ | ⟨g1, g2, g3, hp⟩
    · rw [opS_pat hp] at hl
      obtain ⟨x, rfl⟩ := len1 hl
      have hb : baseN op = 2 := by rcases h with rfl | rfl | rfl <;> rfl
      have hn : nodeR ⟨op, args, num, text, ty⟩ [x] = .node 4 op 0 [x, .node 2 text 0 []] := by
        unfold nodeR
        rw [if_neg h1, if_neg h2, if_neg h3, if_pos h]
        rfl
      rw [hb, hn]
      simp only [node_size, sumZ_cons, sumZ_nil]; omega
    · have hb : baseN op = 1 := by
        unfold baseN
        rw [if_neg (by rintro (h | h | h | h) <;> contradiction), if_neg (by rintro (h | h) <;> contradiction)]
      have hn : nodeR ⟨op, args, num, text, ty⟩ a = .node 4 op 0 a := by
        unfold nodeR
        rw [if_neg h1, if_neg h2, if_neg h3, if_neg (by rintro (h | h | h) <;> contradiction), if_neg h4, if_neg h5, if_neg h6]
      rw [hb, hn, node_size]
theorem cap_sum (z : List Int) (f : Int → Tx) (b : Int) (hb : 0 ≤ b) : ∀ args : List Int, (∀ a ∈ args, z.getD a.toNat 0 = min ((f a).size : Int) 4097) → min (b + sumAt z args) 4097 = min (b + sumZ (args.map f)) 4097 ∧ 0 ≤ sumAt z args ∧ 0 ≤ sumZ (args.map f)
  | [], _ => by unfold sumAt sumZ; simp
  | a :: args, h => by
    obtain ⟨h1, h2, h3⟩ := cap_sum z f b hb args (fun c hc => h c (List.mem_cons_of_mem _ hc))
    have h4 := h a (List.mem_cons_self ..)
    have e1 : sumAt z (a :: args) = z.getD a.toNat 0 + sumAt z args := by unfold sumAt; rw [List.map_cons, List.sum_cons]
    rw [e1, List.map_cons, sumZ_cons, h4]
    omega
/-- The types of the nodes. -/
theorem typTL_plain (t : List UInt8) (r : Int) (hc : isCmpT t = false) : ∀ (S : List Int) (l : List Tx) (ck : Nat) (fs : Int), (∀ s ∈ S, s ≠ 0) → l.length = S.length → (∀ (j : Nat) (s : Int) (y : Tx), S[j]? = some s → l[j]? = some y → typT y = .ok s) → typTL t r S l ck fs = .ok r
  | [], [], _, _, _, _, _ => by rw [typTL]
  | [], _ :: _, _, _, _, h, _ => by simp at h
  | _ :: _, [], _, _, _, h, _ => by simp at h
  | s :: S, y :: l, ck, fs, h0, hl, h => by
    rw [typTL, if_neg (h0 s (List.mem_cons_self ..)), h 0 s y rfl rfl]
    dsimp only
    unfold takeR
    rw [if_neg (by rw [hc]; decide), if_pos rfl]
    exact typTL_plain t r hc S l (ck + 1) fs (fun s hs => h0 s (List.mem_cons_of_mem _ hs)) (by simpa using hl) (fun j s y h1 h2 => h (j + 1) s y (by simpa using h1) (by simpa using h2))
theorem typT_call {t : List UInt8} {n : Int} {l : List Tx} {S : List Int} {r : Int} (h : sig t = some (S, r)) (hl : S.length = l.length) : typT (.node 4 t n l) = typTL t r S l 0 0 := by
  rw [typT, if_neg (by decide), if_pos rfl, h]
  dsimp only
  rw [if_pos hl]
theorem typ_pat {t : List UInt8} {n r m : Int} {x : Tx} {p : List UInt8} {l : List Tx} (h : sig t = some ([3, 0], r)) (hc : isCmpT t = false) (hx : typT x = .ok 3) (hp : (parseR p).isSome = true) : typT (.node 4 t n [x, .node 2 p m l]) = .ok r := by
  rw [typT_call h rfl, typTL, if_neg (by decide), hx]
  dsimp only
  unfold takeR
  rw [if_neg (by rw [hc]; decide), if_pos rfl]
  dsimp only
  rw [typTL, if_pos rfl]
  show (if (2 : Int) = 2 then (if (parseR p).isSome = true then _ else _) else _) = _
  rw [if_pos rfl, if_pos hp, typTL]
theorem sig_cmp {t : List UInt8} {q : List Int × Int} (h : sig t = some q) (hc : isCmpT t = true) : q = ([1, 1], 2) := by
  have := sig_rows (p := fun n q => !isCmpT n || decide (q = ([1, 1], 2))) (by decide +kernel) h
  simpa [hc] using this
theorem sig_names {t : List UInt8} {q : List Int × Int} (h : sig t = some q) : t ≠ nNumber ∧ t ≠ nString ∧ t ≠ nRef ∧ t ≠ nMatches ∧ t ≠ nFirstfind ∧ t ≠ nLencut := by
  have := sig_rows (p := fun n q => decide (n ≠ nNumber ∧ n ≠ nString ∧ n ≠ nRef ∧ n ≠ nMatches ∧ n ≠ nFirstfind ∧ n ≠ nLencut)) (by decide +kernel) h
  simpa using this
theorem sig_short {t : List UInt8} {q : List Int × Int} (h : sig t = some q) : t.length ≤ 100 := by
  have := sig_rows (p := fun n q => decide (n.length ≤ 100)) (by decide +kernel) h
  simpa using this
theorem pat_cmp {t : List UInt8} (h : t = nCount ∨ t = nHas ∨ t = nFind) : isCmpT t = false := by rcases h with rfl | rfl | rfl <;> decide
theorem map3 {l : List St} {s : St} {o : OpI} (hc : isCmpT s.op = false) (h : typedR l s o = true) : s.args.map (tyAt l) = o.args := by
  unfold typedR at h
  rw [if_neg (by rw [hc]; decide)] at h
  exact of_decide_eq_true h
/-- The type of a step's tree. -/
theorem nodeR_typ {l : List St} {i : Nat} {s : St} {o : OpI} (F : Fine l i s o) {f : Int → Tx} (hf : ∀ a ∈ s.args, typT (f a) = .ok (tyAt l a)) : typT (nodeR s (s.args.map f)) = .ok s.ty := by
  have ho := F.op
  have hl := F.len
  have hty := F.ty
  have htd := F.typed
  have hpt := F.pat
  obtain ⟨op, args, num, text, ty⟩ := s
  dsimp only at ho hl hty hpt hf ⊢
  rcases opR_spec ho with ⟨rfl, rfl⟩ | ⟨h, rfl⟩ | ⟨rfl, rfl⟩ | ⟨rfl, rfl⟩ | ⟨rfl, rfl⟩ | ⟨q, hq, rfl, h1, h2, h3, h4, h5, h6⟩
  · have : args = [] := List.eq_nil_of_length_eq_zero hl
    subst this hty
    rfl
  · have : args = [] := List.eq_nil_of_length_eq_zero hl
    subst this hty
    rcases h with rfl | rfl <;> rfl
  · have hm := map3 (s := ⟨nMatches, args, num, text, ty⟩) (show isCmpT nMatches = false by decide) htd
    have hm : args.map (tyAt l) = [3] := hm
    obtain ⟨a, rfl⟩ : ∃ a, args = [a] := by
      match args, hl with
      | [a], _ => exact ⟨a, rfl⟩
    have hm : tyAt l a = 3 := by simpa using hm
    have hx := hf a (by simp)
    rw [hm] at hx
    have hfi := typ_pat (t := nFind) (n := 0) (m := 0) (l := []) (r := 4) (by kernel_rfl) (by decide) hx ((patE_some text).2 (hpt rfl))
    show typT (.node 4 nSize 0 [.node 4 nFind 0 [f a, .node 2 text 0 []]]) = _
    rw [typT_call (S := [4]) (r := 1) (by kernel_rfl) rfl, typTL_plain nSize 1 (by decide) [4] _ _ _ (by decide) rfl, hty]
    intro j s y hs hy
    cases j with
    | zero =>
      simp only [List.getElem?_cons_zero, Option.some.injEq] at hs hy
      subst hs hy
      exact hfi
    | succ j => simp at hs
  · have hm := map3 (s := ⟨nFirstfind, args, num, text, ty⟩) (show isCmpT nFirstfind = false by decide) htd
    have hm : args.map (tyAt l) = [3, 1] := hm
    obtain ⟨a, b, rfl⟩ : ∃ a b, args = [a, b] := by
      match args, hl with
      | [a, b], _ => exact ⟨a, b, rfl⟩
    obtain ⟨hm, hm2⟩ : tyAt l a = 3 ∧ tyAt l b = 1 := by simpa using hm
    have hx := hf a (by simp)
    have hb := hf b (by simp)
    rw [hm] at hx
    rw [hm2] at hb
    have hfi := typ_pat (t := nFind) (n := 0) (m := 0) (l := []) (r := 4) (by kernel_rfl) (by decide) hx ((patE_some text).2 (hpt rfl))
    show typT (.node 4 nFirst 0 [.node 4 nFind 0 [f a, .node 2 text 0 []], f b]) = _
    rw [typT_call (S := [4, 1]) (r := 4) (by kernel_rfl) rfl, typTL_plain nFirst 4 (by decide) [4, 1] _ _ _ (by decide) rfl, hty]
    intro j s y hs hy
    match j with
    | 0 =>
      simp only [List.getElem?_cons_zero, Option.some.injEq] at hs hy
      subst hs hy
      exact hfi
    | 1 =>
      simp only [List.getElem?_cons_zero, List.getElem?_cons_succ, Option.some.injEq] at hs hy
      subst hs hy
      exact hb
    | j + 2 => simp at hs
  · have hm := map3 (s := ⟨nLencut, args, num, text, ty⟩) (show isCmpT nLencut = false by decide) htd
    have hm : args.map (tyAt l) = [3, 1, 1] := hm
    show typT (.node 4 nLen 0 [.node 4 nCut 0 (args.map f)]) = _
    have hcu : typT (.node 4 nCut 0 (args.map f)) = .ok 3 := by
      rw [typT_call (S := [3, 1, 1]) (r := 3) (by kernel_rfl) (by rw [List.length_map]; exact hl.symm), typTL_plain nCut 3 (by decide) [3, 1, 1] _ _ _ (by decide) (by rw [List.length_map]; exact hl)]
      intro j s y hs hy
      rw [List.getElem?_map] at hy
      obtain ⟨a, ha, rfl⟩ := Option.map_eq_some_iff.1 hy
      rw [hf a (List.mem_of_getElem? ha)]
      rw [← hm, List.getElem?_map, ha] at hs
      simp only [Option.map_some, Option.some.injEq] at hs
      rw [hs]
    rw [typT_call (S := [3]) (r := 1) (by kernel_rfl) rfl, typTL_plain nLen 1 (by decide) [3] _ _ _ (by decide) rfl, hty]
    intro j s y hs hy
    cases j with
    | zero =>
      simp only [List.getElem?_cons_zero, Option.some.injEq] at hs hy
      subst hs hy
      exact hcu
    | succ j => simp at hs
  · obtain ⟨S, r⟩ := q
    rcases sig_kinds hq with ⟨h, hp⟩ | ⟨g1, g2, g3, hp⟩
    · have hp : S = [3, 0] := hp
      subst hp
      rw [opS_pat rfl] at hl hty hpt htd
      have hcf := pat_cmp h
      have hm := map3 (s := ⟨op, args, num, text, ty⟩) hcf htd
      have hm : args.map (tyAt l) = [3] := hm
      obtain ⟨a, rfl⟩ : ∃ a, args = [a] := by
        match args, hl with
        | [a], _ => exact ⟨a, rfl⟩
      have hm : tyAt l a = 3 := by simpa using hm
      have hx := hf a (by simp)
      rw [hm] at hx
      have hn : nodeR ⟨op, [a], num, text, ty⟩ ([a].map f) = .node 4 op 0 [f a, .node 2 text 0 []] := by
        unfold nodeR
        rw [if_neg h1, if_neg h2, if_neg h3, if_pos h]
        rfl
      rw [hn, typ_pat hq hcf hx ((patE_some text).2 (hpt rfl)), hty]
    · have hp : ∀ s ∈ S, s ≠ 0 := hp
      rw [opS_plain hp] at hl hty hpt htd
      have hn : nodeR ⟨op, args, num, text, ty⟩ (args.map f) = .node 4 op 0 (args.map f) := by
        unfold nodeR
        rw [if_neg h1, if_neg h2, if_neg h3, if_neg (by rintro (h | h | h) <;> contradiction), if_neg h4, if_neg h5, if_neg h6]
      have hl : args.length = S.length := hl
      rw [hn, typT_call hq (by rw [List.length_map]; exact hl.symm), hty]
      cases hc : isCmpT op with
      | false =>
        have hm := map3 (s := ⟨op, args, num, text, ty⟩) hc htd
        have hm : args.map (tyAt l) = S := hm
        refine typTL_plain op r hc S _ _ _ hp (by rw [List.length_map]; exact hl) ?_
        intro j s y hs hy
        rw [List.getElem?_map] at hy
        obtain ⟨a, ha, rfl⟩ := Option.map_eq_some_iff.1 hy
        rw [hf a (List.mem_of_getElem? ha)]
        rw [← hm, List.getElem?_map, ha] at hs
        simp only [Option.map_some, Option.some.injEq] at hs
        rw [hs]
      | true =>
        have he := sig_cmp hq hc
        injection he with e1 e2
        subst e1 e2
        obtain ⟨a, b, rfl⟩ : ∃ a b, args = [a, b] := by
          match args, hl with
          | [a, b], _ => exact ⟨a, b, rfl⟩
        unfold typedR at htd
        rw [if_pos hc] at htd
        have ha := hf a (by simp)
        have hb := hf b (by simp)
        simp only [List.getD_cons_zero, List.getD_cons_succ] at htd
        split at htd
        · cases htd
        · rename_i heq
          have heq : tyAt l a = tyAt l b := by simpa using heq
          rw [← heq] at hb
          have hok : tyAt l a = 1 ∨ tyAt l a = 3 ∨ (tyAt l a = 2 ∧ isEqT op = true) := by
            split at htd
            · rename_i h2; exact .inr (.inr ⟨h2, htd⟩)
            · have := of_decide_eq_true htd
              rcases this with h | h
              · exact .inl h
              · exact .inr (.inl h)
          show typTL op 2 [1, 1] [f a, f b] 0 0 = _
          rw [typTL, if_neg (by decide), ha]
          dsimp only
          unfold takeR
          rw [if_pos hc, if_pos rfl, if_pos hok]
          dsimp only
          rw [typTL, if_neg (by decide), hb]
          dsimp only
          unfold takeR
          rw [if_pos hc, if_neg (by decide), if_pos rfl]
          dsimp only
          rw [typTL]
theorem growR_typ {l : List St} (hc : checkR l = 0) : ∀ (i : Nat) (s : St), l[i]? = some s → typT (growR l i) = .ok s.ty := by
  have hz := (checkR_zero hc).2.2
  have hback := checkR_back hc
  intro i
  induction i using Nat.strongRecOn with
  | _ i ih =>
    intro s hs
    obtain ⟨o, F⟩ := stepE_zero (hz i s hs)
    have hi := (List.getElem?_eq_some_iff.1 hs).1
    rw [growR_eq hback hs]
    refine nodeR_typ F (f := fun a => growR l a.toNat) ?_
    intro a ha
    have := F.back a ha
    obtain ⟨s', hs'⟩ : ∃ s', l[a.toNat]? = some s' := ⟨l[a.toNat]'(by omega), List.getElem?_eq_getElem _⟩
    rw [ih a.toNat (by omega) s' hs']
    unfold tyAt
    rw [hs']
theorem all_node {p : Tx → Bool} {k : Int} {t : List UInt8} {n : Int} {l : List Tx} (h : p (.node k t n l) = true) (hl : ∀ x ∈ l, x.all p = true) : (Tx.node k t n l).all p = true := by
  have hal : ∀ l : List Tx, (∀ x ∈ l, x.all p = true) → allTL p l = true := fun l => by
    induction l with
    | nil => intro _; rfl
    | cons x l ih =>
      intro h
      unfold allTL
      rw [h x (List.mem_cons_self ..), ih (fun y hy => h y (List.mem_cons_of_mem _ hy))]
      rfl
  unfold Tx.all
  rw [h, hal l hl]
  rfl
theorem nodeR_all {l : List St} {i : Nat} {s : St} {o : OpI} (F : Fine l i s o) {a : List Tx} (hl : a.length = o.args.length) (p : Tx → Bool) (p1 : s.op = nNumber → p (.node 1 [] s.num []) = true) (p2 : p (.node 2 s.text 0 []) = true) (p3 : p (.node 3 s.text 0 []) = true)
    (p4 : ∀ l q, sig s.op = some q → p (.node 4 s.op 0 l) = true) (p5 : ∀ n l, n = nSize ∨ n = nFind ∨ n = nFirst ∨ n = nLen ∨ n = nCut → p (.node 4 n 0 l) = true) (ha : ∀ x ∈ a, x.all p = true) : (nodeR s a).all p = true := by
  have ho := F.op
  obtain ⟨op, args, num, text, ty⟩ := s
  dsimp only at ho p1 p2 p3 p4 ⊢
  have hs : ∀ x ∈ ([] : List Tx), x.all p = true := fun x hx => by cases hx
  have hstr : (Tx.node 2 text 0 []).all p = true := all_node p2 hs
  rcases opR_spec ho with ⟨rfl, rfl⟩ | ⟨h, rfl⟩ | ⟨rfl, rfl⟩ | ⟨rfl, rfl⟩ | ⟨rfl, rfl⟩ | ⟨q, hq, rfl, h1, h2, h3, h4, h5, h6⟩
  · exact all_node (p1 rfl) hs
  · rcases h with rfl | rfl
    · exact hstr
    · exact all_node p3 hs
  · obtain ⟨x, rfl⟩ := len1 hl
    have hx := ha x (by simp)
    show (Tx.node 4 nSize 0 [.node 4 nFind 0 [x, .node 2 text 0 []]]).all p = true
    refine all_node (p5 _ _ (by simp)) (fun y hy => ?_)
    rw [List.mem_singleton] at hy
    subst hy
    refine all_node (p5 _ _ (by simp)) (fun y hy => ?_)
    simp only [List.mem_cons, List.not_mem_nil, or_false] at hy
    rcases hy with rfl | rfl
    · exact hx
    · exact hstr
  · obtain ⟨x, z, rfl⟩ := len2 hl
    have hx := ha x (by simp)
    have hz := ha z (by simp)
    show (Tx.node 4 nFirst 0 [.node 4 nFind 0 [x, .node 2 text 0 []], z]).all p = true
    refine all_node (p5 _ _ (by simp)) (fun y hy => ?_)
    simp only [List.mem_cons, List.not_mem_nil, or_false] at hy
    rcases hy with rfl | rfl
    · refine all_node (p5 _ _ (by simp)) (fun y hy => ?_)
      simp only [List.mem_cons, List.not_mem_nil, or_false] at hy
      rcases hy with rfl | rfl
      · exact hx
      · exact hstr
    · exact hz
  · show (Tx.node 4 nLen 0 [.node 4 nCut 0 a]).all p = true
    refine all_node (p5 _ _ (by simp)) (fun y hy => ?_)
    rw [List.mem_singleton] at hy
    subst hy
    exact all_node (p5 _ _ (by simp)) ha
  · rcases sig_kinds hq with ⟨h, hp⟩ | ⟨g1, g2, g3, hp⟩
    · rw [opS_pat hp] at hl
      obtain ⟨x, rfl⟩ := len1 hl
      have hx := ha x (by simp)
      have hn : nodeR ⟨op, args, num, text, ty⟩ [x] = .node 4 op 0 [x, .node 2 text 0 []] := by
        unfold nodeR
        rw [if_neg h1, if_neg h2, if_neg h3, if_pos h]
        rfl
      rw [hn]
      refine all_node (p4 _ _ hq) (fun y hy => ?_)
      simp only [List.mem_cons, List.not_mem_nil, or_false] at hy
      rcases hy with rfl | rfl
      · exact hx
      · exact hstr
    · have hn : nodeR ⟨op, args, num, text, ty⟩ a = .node 4 op 0 a := by
        unfold nodeR
        rw [if_neg h1, if_neg h2, if_neg h3, if_neg (by rintro (h | h | h) <;> contradiction), if_neg h4, if_neg h5, if_neg h6]
      rw [hn]
      exact all_node (p4 _ _ hq) ha
theorem growR_all {l : List St} (hc : checkR l = 0) (p : Tx → Bool) (p1 : ∀ n, 0 ≤ n → p (.node 1 [] n []) = true) (p2 : ∀ s ∈ l, p (.node 2 s.text 0 []) = true) (p3 : ∀ s ∈ l, p (.node 3 s.text 0 []) = true)
    (p4 : ∀ n l q, sig n = some q → p (.node 4 n 0 l) = true) : ∀ (i : Nat), i < l.length → (growR l i).all p = true := by
  have hz := (checkR_zero hc).2.2
  have hback := checkR_back hc
  have hsome : ∀ n, (sig n).isSome = true → ∃ q, sig n = some q := fun n h => Option.isSome_iff_exists.1 h
  intro i
  induction i using Nat.strongRecOn with
  | _ i ih =>
    intro hi
    have hs : l[i]? = some l[i] := List.getElem?_eq_getElem hi
    obtain ⟨o, F⟩ := stepE_zero (hz i _ hs)
    have hm : l[i] ∈ l := List.getElem_mem hi
    rw [growR_eq hback hs]
    refine nodeR_all F (by rw [List.length_map]; exact F.len) p (fun _ => p1 _ F.num) (p2 _ hm) (p3 _ hm) (fun l' q hq => p4 _ _ _ hq) (fun n l' hn => ?_) (fun x hx => ?_)
    · rcases hn with rfl | rfl | rfl | rfl | rfl
      · exact p4 _ _ ([4], 1) (by kernel_rfl)
      · exact p4 _ _ ([3, 0], 4) (by kernel_rfl)
      · exact p4 _ _ ([4, 1], 4) (by kernel_rfl)
      · exact p4 _ _ ([3], 1) (by kernel_rfl)
      · exact p4 _ _ ([3, 1, 1], 3) (by kernel_rfl)
    · obtain ⟨a, ha, rfl⟩ := List.mem_map.1 hx
      have := F.back a ha
      exact ih a.toNat (by omega) (by omega)
theorem growR_isNT {l : List St} (hc : checkR l = 0) (i : Nat) (hi : i < l.length) : (growR l i).all isNT = true := by
  refine growR_all hc isNT (fun n hn => ?_) (fun s _ => rfl) (fun s _ => rfl) (fun n l q _ => rfl) i hi
  show (if (1 : Int) = 1 then decide (0 ≤ n) && decide (([] : List UInt8) = []) && decide (([] : List Tx).length = 0) else _) = true
  rw [if_pos rfl]
  simp [hn]
theorem growR_short {l : List St} (hc : checkR l = 0) {m : Nat} (hm : 100 ≤ m) (h : ∀ s ∈ l, s.text.length ≤ m) (i : Nat) (hi : i < l.length) : (growR l i).all (shortT m) = true := by
  refine growR_all hc (shortT m) (fun n hn => ?_) (fun s hs => ?_) (fun s hs => ?_) (fun n l q hq => ?_) i hi
  · exact decide_eq_true (Nat.zero_le m)
  · exact decide_eq_true (h s hs)
  · exact decide_eq_true (h s hs)
  · exact decide_eq_true (Nat.le_trans (sig_short hq) hm)
end Go.Proofs.YtoegklpomlhneaaGreatDoor
namespace Go.Proofs.YtoegklpomlhneaaGreatDoor
open Go.RowKit
theorem typTL_plain_inv (t : List UInt8) (r : Int) (hc : isCmpT t = false) : ∀ (S : List Int) (l : List Tx) (ck : Nat) (fs v : Int), typTL t r S l ck fs = .ok v → (∀ s ∈ S, s ≠ 0) → l.length = S.length → v = r ∧ ∀ (j : Nat) (s : Int) (y : Tx), S[j]? = some s → l[j]? = some y → typT y = .ok s
  | [], [], _, _, v, h, _, _ => by rw [typTL] at h; injection h with h; exact ⟨h.symm, fun j s y hs _ => by simp at hs⟩
  | [], _ :: _, _, _, _, _, _, h => by simp at h
  | _ :: _, [], _, _, _, _, _, h => by simp at h
  | s :: S, y :: l, ck, fs, v, h, h0, hl => by
    rw [typTL, if_neg (h0 s (List.mem_cons_self ..))] at h
    split at h
    · cases h
    · rename_i ty hty
      unfold takeR at h
      rw [if_neg (by rw [hc]; decide)] at h
      split at h
      · cases h
      · rename_i f hf
        split at hf
        · rename_i he
          obtain ⟨h1, h2⟩ := typTL_plain_inv t r hc S l _ _ _ h (fun s hs => h0 s (List.mem_cons_of_mem _ hs)) (by simpa using hl)
          refine ⟨h1, fun j s' y' hs hy => ?_⟩
          cases j with
          | zero =>
            simp only [List.getElem?_cons_zero, Option.some.injEq] at hs hy
            subst hs hy
            rw [hty, he]
          | succ j => exact h2 j s' y' (by simpa using hs) (by simpa using hy)
        · cases hf
theorem typTL_cmp_inv {t : List UInt8} {r v : Int} {x y : Tx} (hc : isCmpT t = true) (h : typTL t r [1, 1] [x, y] 0 0 = .ok v) : v = r ∧ ∃ u, typT x = .ok u ∧ typT y = .ok u ∧ (u = 1 ∨ u = 3 ∨ (u = 2 ∧ isEqT t = true)) := by
  rw [typTL, if_neg (by decide)] at h
  split at h
  · cases h
  · rename_i u hu
    unfold takeR at h
    rw [if_pos hc, if_pos rfl] at h
    split at h
    · cases h
    · rename_i f hf
      split at hf
      · rename_i hok
        injection hf with hf
        subst hf
        rw [typTL, if_neg (by decide)] at h
        split at h
        · cases h
        · rename_i u2 hu2
          unfold takeR at h
          rw [if_pos hc, if_neg (by decide)] at h
          split at h
          · cases h
          · rename_i f2 hf2
            split at hf2
            · rename_i he
              rw [typTL] at h
              injection h with h
              exact ⟨h.symm, u, hu, by rw [hu2, he], hok⟩
            · cases hf2
      · cases hf
theorem typT_call_inv {t : List UInt8} {n v : Int} {l : List Tx} (h : typT (.node 4 t n l) = .ok v) : ∃ S r, sig t = some (S, r) ∧ S.length = l.length ∧ typTL t r S l 0 0 = .ok v := by
  rw [typT, if_neg (by decide), if_pos rfl] at h
  split at h
  · cases h
  · rename_i S r hs
    split at h
    · rename_i hl
      exact ⟨S, r, hs, hl, h⟩
    · cases h
theorem typTL_pat_inv {t : List UInt8} {r v : Int} {x y : Tx} (hc : isCmpT t = false) (h : typTL t r [3, 0] [x, y] 0 0 = .ok v) : v = r ∧ typT x = .ok 3 ∧ y.kind = 2 ∧ (parseR y.text).isSome = true := by
  rw [typTL, if_neg (by decide)] at h
  split at h
  · cases h
  · rename_i u hu
    unfold takeR at h
    rw [if_neg (by rw [hc]; decide)] at h
    split at h
    · cases h
    · rename_i f hf
      split at hf
      · rename_i he
        rw [typTL, if_pos rfl] at h
        split at h
        · rename_i hk
          split at h
          · rename_i hp
            rw [typTL] at h
            injection h with h
            exact ⟨h.symm, by rw [hu, he], hk, hp⟩
          · cases h
        · cases h
      · cases hf
/-- What is known of the steps that the arguments leave. -/
def ArgOk (l : List St) (B : Nat) (y : Tx) (a : Int) : Prop := 0 ≤ a ∧ a < (B : Int) ∧ typT y = .ok (tyAt l a) ∧ ∀ f, B ≤ f → growN f l a.toNat = y
theorem opsN_len {x : Tx} {t : Int} (h : typT x = .ok t) : opsN x ≤ x.args.length := by
  obtain ⟨k, tx, n, l⟩ := x
  unfold opsN
  split
  · rename_i hk
    have hk : k = 4 := hk
    subst hk
    obtain ⟨S, r, h1, h2, _⟩ := typT_call_inv h
    have h3 := sig_shape h1
    have ho : opZ tx = opS (S, r) := by unfold opZ; rw [sig_op h1]; rfl
    show (opZ tx).args.length ≤ l.length
    rw [ho]
    omega
  · exact Nat.zero_le _
theorem opsN_arg {k : Int} {tx : List UInt8} {n : Int} {l : List Tx} {t : Int} {j : Nat} {y : Tx} (h : typT (.node k tx n l) = .ok t) (hj : j < opsN (.node k tx n l)) (hy : l[j]? = some y) : ∃ u, typT y = .ok u := by
  unfold opsN at hj
  split at hj
  · rename_i hk
    have hk : k = 4 := hk
    subst hk
    obtain ⟨S, r, h1, h2, h3⟩ := typT_call_inv h
    have ho : opZ tx = opS (S, r) := by unfold opZ; rw [sig_op h1]; rfl
    have hj : j < (opS (S, r)).args.length := by rw [← ho]; exact hj
    rcases sig_kinds h1 with ⟨hn, hp⟩ | ⟨_, _, _, hp⟩
    · have hp : S = [3, 0] := hp
      subst hp
      rw [opS_pat rfl] at hj
      have hj : j < 1 := hj
      obtain ⟨x, z, rfl⟩ := len2 h2.symm
      have := typTL_pat_inv (pat_cmp hn) h3
      have hj : j = 0 := by omega
      subst hj
      simp only [List.getElem?_cons_zero, Option.some.injEq] at hy
      subst hy
      exact ⟨_, this.2.1⟩
    · cases hc : isCmpT tx with
      | false =>
        have := (typTL_plain_inv tx r hc S l _ _ _ h3 hp h2.symm).2
        have hl := (List.getElem?_eq_some_iff.1 hy).1
        exact ⟨_, this j _ y (List.getElem?_eq_getElem (by omega)) hy⟩
      | true =>
        have he := sig_cmp h1 hc
        injection he with e1 e2
        subst e1 e2
        obtain ⟨x, z, rfl⟩ := len2 h2.symm
        obtain ⟨_, u, h4, h5, _⟩ := typTL_cmp_inv hc h3
        match j with
        | 0 => simp only [List.getElem?_cons_zero, Option.some.injEq] at hy; subst hy; exact ⟨_, h4⟩
        | 1 => simp only [List.getElem?_cons_zero, List.getElem?_cons_succ, Option.some.injEq] at hy; subst hy; exact ⟨_, h5⟩
        | j + 2 => simp at hy
  · omega
theorem allTL_mem {p : Tx → Bool} : ∀ {l : List Tx}, allTL p l = true → ∀ x ∈ l, x.all p = true
  | [], _, x, hx => by cases hx
  | y :: l, h, x, hx => by
    unfold allTL at h
    rw [Bool.and_eq_true] at h
    rcases List.mem_cons.1 hx with rfl | hx
    · exact h.1
    · exact allTL_mem h.2 x hx
theorem all_parts {p : Tx → Bool} {k : Int} {t : List UInt8} {n : Int} {l : List Tx} (h : (Tx.node k t n l).all p = true) : p (.node k t n l) = true ∧ ∀ x ∈ l, x.all p = true := by
  unfold Tx.all at h
  rw [Bool.and_eq_true] at h
  exact ⟨h.1, allTL_mem h.2⟩
/-- The step of a node whose arguments are laid. -/
theorem step_ok {l : List St} {B : Nat} {k : Int} {t : List UInt8} {n : Int} {args : List Tx} {idx : List Int} {v : Int} (h : typT (.node k t n args) = .ok v) (hn : (Tx.node k t n args).all isNT = true)
    (hlen : idx.length = opsN (.node k t n args)) (hi : ∀ (j : Nat) (y : Tx), j < opsN (.node k t n args) → args[j]? = some y → ∃ a, idx[j]? = some a ∧ ArgOk l B y a) :
    stepE l B (stepR (.node k t n args) idx) = 0 ∧ (stepR (.node k t n args) idx).ty = v ∧ ∀ f, B ≤ f → nodeR (stepR (.node k t n args) idx) (idx.map fun a => growN f l a.toNat) = .node k t n args ∧ (stepR (.node k t n args) idx).args = idx := by
  obtain ⟨hn1, hn2⟩ := all_parts hn
  have hm1 : (if k = 1 then decide (0 ≤ n) && decide (t = []) && decide (args.length = 0) else if k = 2 ∨ k = 3 then decide (n = 0) && decide (args.length = 0) else if k = 4 then decide (n = 0) else false) = true := hn1
  clear hn1
  by_cases k1 : k = 1
  · subst k1
    rw [if_pos rfl] at hm1
    simp only [Bool.and_eq_true, decide_eq_true_eq] at hm1
    obtain ⟨⟨h1, h2⟩, h3⟩ := hm1
    have h3 : args = [] := List.eq_nil_of_length_eq_zero h3
    subst h2 h3
    have hidx : idx = [] := List.eq_nil_of_length_eq_zero hlen
    subst hidx
    have hv : (Except.ok 1 : Except Value Int) = .ok v := by rw [← h, typT, if_pos rfl]
    injection hv with hv
    refine ⟨?_, hv, fun f _ => ⟨rfl, rfl⟩⟩
    show stepE l B ⟨nNumber, [], n, [], 1⟩ = 0
    unfold stepE
    rw [show opR nNumber = some ⟨[], 1, false, false⟩ from by unfold opR; rw [if_pos rfl]]
    dsimp only
    rw [if_neg (by simp), if_neg (by simp), if_neg (by simp; omega), if_neg, if_neg (by simp)]
    unfold typedR
    simp [isCmpT, nNumber]
  by_cases k2 : k = 2 ∨ k = 3
  · rw [if_neg k1, if_pos k2] at hm1
    simp only [Bool.and_eq_true, decide_eq_true_eq] at hm1
    obtain ⟨h1, h3⟩ := hm1
    have h3 : args = [] := List.eq_nil_of_length_eq_zero h3
    subst h1 h3
    have hops : opsN (.node k t 0 []) = 0 := by unfold opsN; rw [if_neg (by show ¬ k = 4; omega)]
    rw [hops] at hlen
    have hidx : idx = [] := List.eq_nil_of_length_eq_zero hlen
    subst hidx
    have hv : (Except.ok 3 : Except Value Int) = .ok v := by rw [← h, typT, if_neg k1, if_neg (by omega)]
    injection hv with hv
    rcases k2 with rfl | rfl
    · refine ⟨?_, hv, fun f _ => ⟨rfl, rfl⟩⟩
      show stepE l B ⟨nString, [], 0, t, 3⟩ = 0
      unfold stepE
      rw [show opR nString = some ⟨[], 3, true, false⟩ from by unfold opR; rw [if_neg (by decide), if_pos (.inl rfl)]]
      dsimp only
      rw [if_neg (by simp), if_neg (by simp), if_neg (by simp), if_neg, if_neg (by simp)]
      unfold typedR
      simp [isCmpT, nString]
    · refine ⟨?_, hv, fun f _ => ⟨rfl, rfl⟩⟩
      show stepE l B ⟨nRef, [], 0, t, 3⟩ = 0
      unfold stepE
      rw [show opR nRef = some ⟨[], 3, true, false⟩ from by unfold opR; rw [if_neg (by decide), if_pos (.inr rfl)]]
      dsimp only
      rw [if_neg (by simp), if_neg (by simp), if_neg (by simp), if_neg, if_neg (by simp)]
      unfold typedR
      simp [isCmpT, nRef]
  rw [if_neg k1, if_neg k2] at hm1
  split at hm1
  · rename_i k4
    subst k4
    have hz1 : n = 0 := of_decide_eq_true hm1
    subst hz1
    obtain ⟨S, r, hs, hl, htl⟩ := typT_call_inv h
    have hop := sig_op hs
    have hoz : opZ t = opS (S, r) := by unfold opZ; rw [hop]; rfl
    have hopsN : opsN (.node 4 t 0 args) = (opS (S, r)).args.length := by
      show (opZ t).args.length = _
      rw [hoz]
    rw [hopsN] at hlen hi
    obtain ⟨m1, m2, m3, m4, m5, m6⟩ := sig_names hs
    have hst : stepR (.node 4 t 0 args) idx = ⟨t, idx, 0, if (opS (S, r)).regex = true then (args.getD (opS (S, r)).args.length (.node 0 [] 0 [])).text else [], (opS (S, r)).res⟩ := by
      unfold stepR
      rw [if_neg (by show ¬ (4 : Int) = 1; decide), if_neg (by show ¬ (4 : Int) = 2; decide), if_neg (by show ¬ (4 : Int) = 3; decide)]
      show St.mk t idx 0 (if (opZ t).regex = true then (args.getD (opZ t).args.length (.node 0 [] 0 [])).text else []) (opZ t).res = _
      rw [hoz]
    have hback : idx.any (fun a => decide (a < 0) || decide ((B : Int) ≤ a)) = false := by
      rw [List.any_eq_false]
      intro a ha
      obtain ⟨j, hj⟩ := List.getElem?_of_mem ha
      have hjl := (List.getElem?_eq_some_iff.1 hj).1
      have hsh := sig_shape hs
      obtain ⟨a', ha', hok⟩ := hi j _ (by omega) (List.getElem?_eq_getElem (by omega))
      rw [hj] at ha'
      injection ha' with ha'
      subst ha'
      obtain ⟨q1, q2, _⟩ := hok
      simp; omega
    rcases sig_kinds hs with ⟨hnm, hp⟩ | ⟨g1, g2, g3, hp⟩
    · have hp : S = [3, 0] := hp
      subst hp
      rw [opS_pat rfl] at hlen hi hst hop
      have hcf := pat_cmp hnm
      obtain ⟨x, y, rfl⟩ := len2 hl.symm
      obtain ⟨hv, hx, hk, hpr⟩ := typTL_pat_inv hcf htl
      obtain ⟨a, ha, q1, q2, q3, q4⟩ := hi 0 x (by simp) rfl
      obtain ⟨a', rfl⟩ : ∃ a', idx = [a'] := by
        match idx, hlen with
        | [a'], _ => exact ⟨a', rfl⟩
      simp only [List.getElem?_cons_zero, Option.some.injEq] at ha
      subst ha
      have hta : tyAt l a' = 3 := by rw [hx] at q3; injection q3 with q3; exact q3.symm
      have hy := hn2 y (by simp)
      obtain ⟨yk, yt, yn, yl⟩ := y
      have hk : yk = 2 := hk
      subst hk
      have hy1 := (all_parts hy).1
      have hy1 : (if (2 : Int) = 1 then _ else if (2 : Int) = 2 ∨ (2 : Int) = 3 then decide (yn = 0) && decide (yl.length = 0) else _) = true := hy1
      rw [if_neg (by decide), if_pos (by decide)] at hy1
      simp only [Bool.and_eq_true, decide_eq_true_eq] at hy1
      obtain ⟨hy1, hy2⟩ := hy1
      have hy2 : yl = [] := List.eq_nil_of_length_eq_zero hy2
      subst hy1 hy2
      have hst : stepR (.node 4 t 0 [x, .node 2 yt 0 []]) [a'] = ⟨t, [a'], 0, yt, r⟩ := hst
      rw [hst]
      refine ⟨?_, hv.symm, fun f hf => ⟨?_, rfl⟩⟩
      · unfold stepE
        dsimp only
        rw [hop]
        dsimp only
        rw [if_neg (by simp), hback, if_neg (by decide), if_neg (by simp), if_neg, if_pos rfl]
        · exact (patE_some yt).1 hpr
        · unfold typedR
          rw [if_neg (by rw [hcf]; decide)]
          simp [hta]
      · unfold nodeR
        rw [if_neg m1, if_neg m2, if_neg m3, if_pos hnm]
        show Tx.node 4 t 0 [growN f l a'.toNat, .node 2 yt 0 []] = _
        rw [q4 f hf]
    · have hp : ∀ s ∈ S, s ≠ 0 := hp
      rw [opS_plain hp] at hlen hi hst hop
      have hlen : idx.length = S.length := hlen
      have hi : ∀ (j : Nat) (y : Tx), j < S.length → args[j]? = some y → ∃ a, idx[j]? = some a ∧ ArgOk l B y a := hi
      have hst : stepR (.node 4 t 0 args) idx = ⟨t, idx, 0, [], r⟩ := by rw [hst]; rfl
      rw [hst]
      have hgr : ∀ f, B ≤ f → (idx.map fun a => growN f l a.toNat) = args := fun f hf => by
        apply List.ext_getElem?
        intro j
        rw [List.getElem?_map]
        by_cases hj : j < args.length
        · obtain ⟨a, ha, _, _, _, q4⟩ := hi j args[j] (by omega) (List.getElem?_eq_getElem hj)
          rw [ha, List.getElem?_eq_getElem hj, Option.map_some, q4 f hf]
        · rw [List.getElem?_eq_none (by omega), List.getElem?_eq_none (by omega)]
          rfl
      have hnode : ∀ f, B ≤ f → nodeR ⟨t, idx, 0, [], r⟩ (idx.map fun a => growN f l a.toNat) = .node 4 t 0 args := fun f hf => by
        unfold nodeR
        rw [if_neg m1, if_neg m2, if_neg m3, if_neg (by rintro (h | h | h) <;> contradiction), if_neg m4, if_neg m5, if_neg m6, hgr f hf]
      cases hc : isCmpT t with
      | false =>
        obtain ⟨hv, hty⟩ := typTL_plain_inv t r hc S args _ _ _ htl hp hl.symm
        refine ⟨?_, hv.symm, fun f hf => ⟨hnode f hf, rfl⟩⟩
        have hmap : idx.map (tyAt l) = S := by
          apply List.ext_getElem?
          intro j
          rw [List.getElem?_map]
          by_cases hj : j < S.length
          · obtain ⟨a, ha, _, _, q3, _⟩ := hi j (args[j]'(by omega)) hj (List.getElem?_eq_getElem (by omega))
            have h1 := hty j _ _ (List.getElem?_eq_getElem hj) (List.getElem?_eq_getElem (by omega))
            rw [h1] at q3
            injection q3 with q3
            rw [ha, List.getElem?_eq_getElem hj, q3]
            rfl
          · rw [List.getElem?_eq_none (by omega), List.getElem?_eq_none (by omega)]
            rfl
        unfold stepE
        dsimp only
        rw [hop]
        dsimp only
        rw [if_neg (by simp [hlen]), hback, if_neg (by decide), if_neg (by simp), if_neg, if_neg (by decide)]
        unfold typedR
        rw [if_neg (by rw [hc]; decide)]
        simp [hmap]
      | true =>
        have he := sig_cmp hs hc
        injection he with e1 e2
        subst e1 e2
        obtain ⟨x, y, rfl⟩ := len2 hl.symm
        obtain ⟨hv, u, hx, hy, hu⟩ := typTL_cmp_inv hc htl
        obtain ⟨a, b, rfl⟩ : ∃ a b, idx = [a, b] := by
          match idx, hlen with
          | [a, b], _ => exact ⟨a, b, rfl⟩
        refine ⟨?_, hv.symm, fun f hf => ⟨hnode f hf, rfl⟩⟩
        obtain ⟨a', ha, _, _, q3, _⟩ := hi 0 x (by simp) rfl
        obtain ⟨b', hb, _, _, p3, _⟩ := hi 1 y (by simp) rfl
        simp only [List.getElem?_cons_zero, List.getElem?_cons_succ, Option.some.injEq] at ha hb
        subst ha hb
        rw [hx] at q3
        rw [hy] at p3
        injection q3 with q3
        injection p3 with p3
        unfold stepE
        dsimp only
        rw [hop]
        dsimp only
        rw [if_neg (by simp), hback, if_neg (by decide), if_neg (by simp), if_neg, if_neg (by decide)]
        unfold typedR
        rw [if_pos hc]
        simp only [List.getD_cons_zero, List.getD_cons_succ, ← q3, ← p3]
        rcases hu with rfl | rfl | ⟨rfl, h⟩
        · simp
        · simp
        · simp [h]
  · cases hm1
end Go.Proofs.YtoegklpomlhneaaGreatDoor
namespace Go.Proofs.YtoegklpomlhneaaGreatDoor
open Go.RowKit
theorem ArgOk.mono {l : List St} {B B' : Nat} {y : Tx} {a : Int} (h : ArgOk l B y a) (hB : B ≤ B') : ArgOk l B' y a := by
  obtain ⟨h1, h2, h3, h4⟩ := h
  exact ⟨h1, by omega, h3, fun f hf => h4 f (Nat.le_trans hB hf)⟩
theorem layT_eq (n : Nat) (k : Int) (t : List UInt8) (m : Int) (args : List Tx) : layT n (.node k t m args) = (layL n (opsN (.node k t m args)) args).1 ++ [stepR (.node k t m args) (layL n (opsN (.node k t m args)) args).2] := by
  rw [layT]
theorem layL_nil (n m : Nat) : layL n m [] = ([], []) := by rw [layL]
mutual
theorem layT_ok : ∀ (x : Tx) (n : Nat) (l : List St) (v : Int), typT x = .ok v → x.all isNT = true → (∀ j s, (layT n x)[j]? = some s → l[n + j]? = some s) →
    (∀ j s, (layT n x)[j]? = some s → stepE l (n + j) s = 0) ∧ 0 < (layT n x).length ∧ ArgOk l (n + (layT n x).length) x (((n + (layT n x).length : Nat) : Int) - 1) ∧ tyAt l (((n + (layT n x).length : Nat) : Int) - 1) = v
  | .node k t m args, n, l, v, h, hn, hl => by
    rw [layT_eq] at hl ⊢
    have hL := layL_ok args n (opsN (.node k t m args)) l (fun j y hj hy => opsN_arg h hj hy) (all_parts hn).2 (fun j s hs => hl j s (by rw [List.getElem?_append_left (List.getElem?_eq_some_iff.1 hs).1]; exact hs))
    have hops := opsN_len h
    have hops : opsN (.node k t m args) ≤ args.length := hops
    generalize layL n (opsN (.node k t m args)) args = LL at hL hl
    obtain ⟨L1, idx⟩ := LL
    obtain ⟨h1, h2, h3⟩ := hL
    dsimp only at h1 h2 h3 hl ⊢
    have hlen : idx.length = opsN (.node k t m args) := by omega
    obtain ⟨s1, s2, s3⟩ := step_ok (B := n + L1.length) h hn hlen h3
    have hat : l[n + L1.length]? = some (stepR (.node k t m args) idx) := hl L1.length _ (by rw [List.getElem?_append_right (Nat.le_refl _), Nat.sub_self]; rfl)
    rw [List.length_append, List.length_singleton]
    have e1 : (((n + (L1.length + 1) : Nat) : Int) - 1) = ((n + L1.length : Nat) : Int) := by omega
    have hty : tyAt l ((n + L1.length : Nat) : Int) = v := by
      unfold tyAt
      rw [Int.toNat_natCast, hat]
      exact s2
    rw [e1]
    refine ⟨fun j s hs => ?_, by omega, ⟨by omega, by omega, by rw [hty]; exact h, fun f hf => ?_⟩, hty⟩
    · by_cases hj : j < L1.length
      · rw [List.getElem?_append_left hj] at hs
        exact h1 j s hs
      · have hjl := (List.getElem?_eq_some_iff.1 hs).1
        rw [List.length_append, List.length_singleton] at hjl
        have hj : j = L1.length := by omega
        subst hj
        rw [List.getElem?_append_right (Nat.le_refl _), Nat.sub_self] at hs
        simp only [List.getElem?_cons_zero, Option.some.injEq] at hs
        subst hs
        exact s1
    · obtain ⟨g, rfl⟩ : ∃ g, f = g + 1 := ⟨f - 1, by omega⟩
      rw [Int.toNat_natCast, growN, hat]
      dsimp only
      obtain ⟨q1, q2⟩ := s3 g (by omega)
      rw [q2, q1]
theorem layL_ok : ∀ (args : List Tx) (n m : Nat) (l : List St), (∀ j y, j < m → args[j]? = some y → ∃ v, typT y = .ok v) → (∀ x ∈ args, x.all isNT = true) → (∀ j s, (layL n m args).1[j]? = some s → l[n + j]? = some s) →
    (∀ j s, (layL n m args).1[j]? = some s → stepE l (n + j) s = 0) ∧ (layL n m args).2.length = min m args.length ∧ ∀ j y, j < m → args[j]? = some y → ∃ a, (layL n m args).2[j]? = some a ∧ ArgOk l (n + (layL n m args).1.length) y a
  | [], n, m, l, _, _, _ => by
    rw [layL_nil]
    exact ⟨fun j s hs => by simp at hs, by simp, fun j y _ hy => by simp at hy⟩
  | x :: args, n, m, l, ht, hn, hl => by
    by_cases hm : m = 0
    · subst hm
      rw [layL_zero]
      exact ⟨fun j s hs => by simp at hs, by simp, fun j y hj _ => by omega⟩
    · rw [layL_cons _ _ _ _ (by omega)] at hl ⊢
      dsimp only at hl ⊢
      obtain ⟨v, hv⟩ := ht 0 x (by omega) rfl
      obtain ⟨a1, a2, a3, _⟩ := layT_ok x n l v hv (hn x (List.mem_cons_self ..)) (fun j s hs => hl j s (by rw [List.getElem?_append_left (List.getElem?_eq_some_iff.1 hs).1]; exact hs))
      obtain ⟨b1, b2, b3⟩ := layL_ok args (n + (layT n x).length) (m - 1) l (fun j y hj hy => ht (j + 1) y (by omega) (by simpa using hy)) (fun y hy => hn y (List.mem_cons_of_mem _ hy)) (fun j s hs => by
        have := hl ((layT n x).length + j) s (by rw [List.getElem?_append_right (by omega), Nat.add_sub_cancel_left]; exact hs)
        rw [show n + (layT n x).length + j = n + ((layT n x).length + j) by omega]
        exact this)
      rw [List.length_append, List.length_cons, List.length_cons]
      refine ⟨fun j s hs => ?_, by omega, fun j y hj hy => ?_⟩
      · by_cases hj : j < (layT n x).length
        · rw [List.getElem?_append_left hj] at hs
          exact a1 j s hs
        · rw [List.getElem?_append_right (by omega)] at hs
          have := b1 _ s hs
          rwa [show n + (layT n x).length + (j - (layT n x).length) = n + j by omega] at this
      · cases j with
        | zero =>
          simp only [List.getElem?_cons_zero, Option.some.injEq] at hy
          subst hy
          exact ⟨_, rfl, a3.mono (by omega)⟩
        | succ j =>
          obtain ⟨a, ha, hok⟩ := b3 j y (by omega) (by simpa using hy)
          exact ⟨a, by simpa using ha, hok.mono (by omega)⟩
end
mutual
theorem layT_len : ∀ (x : Tx) (n : Nat), (layT n x).length ≤ x.size
  | .node k t m args, n => by
    rw [layT_eq, List.length_append, List.length_singleton, Tx.size]
    have := layL_len args n (opsN (.node k t m args))
    omega
theorem layL_len : ∀ (args : List Tx) (n m : Nat), (layL n m args).1.length ≤ sizeTL args
  | [], n, m => by rw [layL_nil]; exact Nat.le_refl _
  | x :: args, n, m => by
    by_cases hm : m = 0
    · subst hm; rw [layL_zero]; exact Nat.zero_le _
    · rw [layL_cons _ _ _ _ (by omega), sizeTL]
      dsimp only
      rw [List.length_append]
      have := layT_len x n
      have := layL_len args (n + (layT n x).length) (m - 1)
      omega
end
/-- The plan of a tree that has a type: no error, and the tree again. -/
theorem planT_ok {x : Tx} {v : Int} (h : typT x = .ok v) (hn : x.all isNT = true) (hs : x.size ≤ 4096) : checkR (planT x) = 0 ∧ 0 < (planT x).length ∧ growR (planT x) ((planT x).length - 1) = x ∧ tyAt (planT x) (((planT x).length : Int) - 1) = v := by
  obtain ⟨h1, h2, h3, h4⟩ := layT_ok x 0 (planT x) v h hn (fun j s hs => by rw [Nat.zero_add]; exact hs)
  have hlen := layT_len x 0
  simp only [Nat.zero_add] at h1 h3 h4
  have hP : (planT x).length = (layT 0 x).length := rfl
  refine ⟨?_, h2, ?_, h4⟩
  · unfold checkR
    rw [if_neg (by omega)]
    exact (checkF_zero _ _).2 (fun j s hs => by rw [Nat.zero_add]; exact h1 j s hs)
  · have := h3.2.2.2 (layT 0 x).length (Nat.le_refl _)
    unfold growR
    rw [hP, show (layT 0 x).length - 1 + 1 = (layT 0 x).length by omega]
    rw [show ((((layT 0 x).length : Nat) : Int) - 1).toNat = (layT 0 x).length - 1 by omega] at this
    exact this
theorem shortT_iff {m : Nat} {x : Tx} : shortT m x = true ↔ x.text.length ≤ m := ⟨of_decide_eq_true, decide_eq_true⟩
theorem root_all {p : Tx → Bool} {x : Tx} (h : x.all p = true) : p x = true := by
  obtain ⟨k, t, n, l⟩ := x
  exact (all_parts h).1
theorem stepR_short {m : Nat} {k : Int} {t : List UInt8} {n : Int} {args : List Tx} {idx : List Int} (h : (Tx.node k t n args).all (shortT m) = true) : (stepR (.node k t n args) idx).text.length ≤ m := by
  obtain ⟨h1, h2⟩ := all_parts h
  have h1 : t.length ≤ m := shortT_iff.1 h1
  have h3 : ∀ j, (args.getD j (.node 0 [] 0 [])).text.length ≤ m := fun j => by
    rw [List.getD_eq_getElem?_getD]
    cases hj : args[j]? with
    | none => exact Nat.zero_le _
    | some y => exact shortT_iff.1 (root_all (h2 y (List.mem_of_getElem? hj)))
  unfold stepR
  split
  · exact Nat.zero_le _
  split
  · exact h1
  split
  · exact h1
  dsimp only
  split
  · exact h3 _
  · exact Nat.zero_le _
mutual
theorem layT_short (m : Nat) : ∀ (x : Tx) (n : Nat), x.all (shortT m) = true → ∀ s ∈ layT n x, s.text.length ≤ m
  | .node k t q args, n, h, s, hs => by
    rw [layT_eq] at hs
    rcases List.mem_append.1 hs with hs | hs
    · exact layL_short m args n (opsN (.node k t q args)) (all_parts h).2 s hs
    · rw [List.mem_singleton] at hs
      subst hs
      exact stepR_short h
theorem layL_short (m : Nat) : ∀ (args : List Tx) (n k : Nat), (∀ x ∈ args, x.all (shortT m) = true) → ∀ s ∈ (layL n k args).1, s.text.length ≤ m
  | [], n, k, _, s, hs => by rw [layL_nil] at hs; cases hs
  | x :: args, n, k, h, s, hs => by
    by_cases hk : k = 0
    · subst hk; rw [layL_zero] at hs; cases hs
    · rw [layL_cons _ _ _ _ (by omega)] at hs
      rcases List.mem_append.1 hs with hs | hs
      · exact layT_short m x n (h x (List.mem_cons_self ..)) s hs
      · exact layL_short m args _ _ (fun y hy => h y (List.mem_cons_of_mem _ hy)) s hs
end
end Go.Proofs.YtoegklpomlhneaaGreatDoor
namespace Go.Proofs.YtoegklpomlhneaaGreatDoor
open Go.RowKit
theorem sizes_ok {l : List St} (hc : checkR l = 0) : ∀ k, k ≤ l.length → ∀ i, i < k → (zk l k).getD i 0 = min ((growR l i).size : Int) 4097
  | 0, _, i, hi => by omega
  | k + 1, hk, i, hi => by
    have hs : l[k]? = some l[k] := List.getElem?_eq_getElem hk
    obtain ⟨o, F⟩ := stepE_zero ((checkR_zero hc).2.2 k _ hs)
    have ih := sizes_ok hc k (by omega)
    have hlen := zk_length (l := l) (k := k) (by omega)
    rw [zk_succ hs, List.getD_eq_getElem?_getD]
    by_cases hik : i < k
    · rw [List.getElem?_append_left (by omega), ← List.getD_eq_getElem?_getD]
      exact ih i hik
    · have hik : i = k := by omega
      subst hik
      rw [List.getElem?_append_right (by omega), hlen, Nat.sub_self]
      show min (baseN l[i].op + sumAt (zk l i) l[i].args) 4097 = _
      rw [growR_eq (checkR_back hc) hs, nodeR_size F.op (by rw [List.length_map]; exact F.len)]
      exact (cap_sum (zk l i) (fun a => growR l a.toNat) (baseN l[i].op) (by have := baseN_bd l[i].op; omega) l[i].args (fun a ha => by
        have := F.back a ha
        exact ih a.toNat (by omega))).1
theorem sizesR_ok {l : List St} (hc : checkR l = 0) (i : Nat) (hi : i < l.length) : (sizesR l).getD i 0 = min ((growR l i).size : Int) 4097 := by
  rw [← zk_all]
  exact sizes_ok hc l.length (Nat.le_refl _) i hi
/-- The plan of k times t ++ t. -/
def largeL : Nat → List St
  | 0 => [⟨nRef, [], 0, [116], 3⟩]
  | k + 1 => largeL k ++ [⟨[43, 43], [(k : Int), (k : Int)], 0, [], 3⟩]
theorem largeL_length : ∀ k, (largeL k).length = k + 1
  | 0 => rfl
  | k + 1 => by rw [largeL, List.length_append, largeL_length k]; rfl
theorem largeL_get : ∀ (k i : Nat), i ≤ k → (largeL k)[i]? = some (if i = 0 then ⟨nRef, [], 0, [116], 3⟩ else ⟨[43, 43], [(i : Int) - 1, (i : Int) - 1], 0, [], 3⟩)
  | 0, i, hi => by
    have : i = 0 := by omega
    subst this
    rfl
  | k + 1, i, hi => by
    rw [largeL]
    by_cases h : i ≤ k
    · rw [List.getElem?_append_left (by rw [largeL_length]; omega)]
      exact largeL_get k i h
    · have : i = k + 1 := by omega
      subst this
      rw [List.getElem?_append_right (by rw [largeL_length]; omega), largeL_length, Nat.sub_self, if_neg (by omega)]
      show some _ = some _
      rw [show ((k + 1 : Nat) : Int) - 1 = (k : Int) by omega]
theorem largeL_ty (k : Nat) (a : Nat) (ha : a ≤ k) : tyAt (largeL k) (a : Int) = 3 := by
  unfold tyAt
  rw [Int.toNat_natCast, largeL_get k a ha]
  dsimp only
  split <;> rfl
theorem largeL_ok {k : Nat} (hk : k ≤ 4000) : checkR (largeL k) = 0 := by
  have hl := largeL_length k
  unfold checkR
  rw [if_neg (by omega)]
  refine (checkF_zero _ _).2 (fun j s hs => ?_)
  have hj := (List.getElem?_eq_some_iff.1 hs).1
  rw [largeL_get k j (by omega)] at hs
  injection hs with hs
  rw [Nat.zero_add]
  by_cases h0 : j = 0
  · subst h0
    rw [if_pos rfl] at hs
    subst hs
    unfold stepE
    rw [show opR (St.mk nRef [] 0 [116] 3).op = some ⟨[], 3, true, false⟩ from by show opR nRef = _; unfold opR; rw [if_neg (by decide), if_pos (.inr rfl)]]
    dsimp only
    rw [if_neg (by simp), if_neg (by simp), if_neg (by simp), if_neg, if_neg (by simp)]
    unfold typedR
    simp [isCmpT, nRef]
  · rw [if_neg h0] at hs
    subst hs
    obtain ⟨m, rfl⟩ : ∃ m, j = m + 1 := ⟨j - 1, by omega⟩
    have ht := largeL_ty k m (by omega)
    rw [show ((m + 1 : Nat) : Int) - 1 = (m : Int) by omega]
    unfold stepE
    rw [show opR (St.mk [43, 43] [(m : Int), (m : Int)] 0 [] 3).op = some ⟨[3, 3], 3, false, false⟩ from by show opR [43, 43] = _; rw [sig_op (q := ([3, 3], 3)) (by kernel_rfl)]; rfl]
    dsimp only
    rw [if_neg (by simp), if_neg (by simp; omega), if_neg (by simp), if_neg, if_neg (by simp)]
    unfold typedR
    rw [if_neg (show ¬ isCmpT [43, 43] = true by decide)]
    simp [ht]
theorem largeL_size {k : Nat} (hk : k ≤ 4000) : ∀ i, i ≤ k → ((growR (largeL k) i).size : Int) + 1 = 2 ^ (i + 1)
  | 0, _ => by
    have hs := largeL_get k 0 (Nat.zero_le _)
    rw [growR_eq (checkR_back (largeL_ok hk)) hs]
    rfl
  | i + 1, hi => by
    have hs := largeL_get k (i + 1) hi
    rw [if_neg (by omega), show ((i + 1 : Nat) : Int) - 1 = (i : Int) by omega] at hs
    have ih := largeL_size hk i (by omega)
    rw [growR_eq (checkR_back (largeL_ok hk)) hs, nodeR_size (o := ⟨[3, 3], 3, false, false⟩) (by show opR [43, 43] = _; rw [sig_op (q := ([3, 3], 3)) (by kernel_rfl)]; rfl) rfl]
    show (baseN [43, 43] + sumZ [growR (largeL k) (i : Int).toNat, growR (largeL k) (i : Int).toNat]) + 1 = _
    rw [sumZ_cons, sumZ_cons, sumZ_nil, Int.toNat_natCast, show baseN [43, 43] = 1 by decide, Int.pow_succ]
    omega
theorem large_small {k : Nat} (hk : k ≤ 11) : ((growR (largeL k) k).size : Int) ≤ 4095 := by
  have h := largeL_size (k := k) (by omega) k (Nat.le_refl _)
  have : (2 : Int) ^ (k + 1) ≤ 2 ^ 12 := by
    have := Nat.pow_le_pow_right (n := 2) (by decide) (show k + 1 ≤ 12 by omega)
    exact_mod_cast this
  have : (2 : Int) ^ 12 = 4096 := by decide
  omega
theorem large_large {k : Nat} (hk : 11 < k) (hk2 : k ≤ 4000) : 4097 ≤ ((growR (largeL k) k).size : Int) := by
  have h := largeL_size hk2 k (Nat.le_refl _)
  have : (2 : Int) ^ 13 ≤ 2 ^ (k + 1) := by
    have := Nat.pow_le_pow_right (n := 2) (by decide) (show 13 ≤ k + 1 by omega)
    exact_mod_cast this
  have : (2 : Int) ^ 13 = 8192 := by decide
  omega
end Go.Proofs.YtoegklpomlhneaaGreatDoor
