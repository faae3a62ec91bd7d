/- Plain laws of plans: the sizes of the trees, and the types. -/
import Derived.Test.YtniefnjcimempaaqPoP
namespace Go.Proofs.Ytniefnjcimempaa
open Go.RowKit
def sumZ (l : List Tx) : Int := (l.map fun t => (t.size : Int)).sum
theorem sizeTL_sum : ∀ l : List Tx, (sizeTL l : Int) = sumZ l
  | [] => rfl
  | x :: l => by
    unfold sizeTL sumZ
    rw [List.map_cons, List.sum_cons, Int.natCast_add, sizeTL_sum l]
    rfl
theorem node_size (k : Int) (t : List UInt8) (n : Int) (l : List Tx) : ((Tx.node k t n l).size : Int) = 1 + sumZ l := by
  rw [Tx.size, Int.natCast_add, sizeTL_sum]; rfl
theorem sumZ_cons (x : Tx) (l : List Tx) : sumZ (x :: l) = x.size + sumZ l := by unfold sumZ; rw [List.map_cons, List.sum_cons]
theorem sumZ_nil : sumZ [] = 0 := rfl
theorem opR_spec {n : List UInt8} {o : OpI} (h : opR n = some o) :
    (n = nNumber ∧ o = ⟨[], 1, false, false⟩) ∨ ((n = nString ∨ n = nRef) ∧ o = ⟨[], 3, true, false⟩) ∨ (n = nMatches ∧ o = ⟨[3], 1, true, true⟩) ∨ (n = nFirstfind ∧ o = ⟨[3, 1], 4, true, true⟩) ∨ (n = nLencut ∧ o = ⟨[3, 1, 1], 1, false, false⟩) ∨
    (∃ q, sig n = some q ∧ o = opS q ∧ n ≠ nNumber ∧ n ≠ nString ∧ n ≠ nRef ∧ n ≠ nMatches ∧ n ≠ nFirstfind ∧ n ≠ nLencut) := by
  unfold opR at h
  split at h
  · rename_i e; injection h with h; exact .inl ⟨e, h.symm⟩
  rename_i e1
  split at h
  · rename_i e; injection h with h; exact .inr (.inl ⟨e, h.symm⟩)
  rename_i e2
  split at h
  · rename_i e; injection h with h; exact .inr (.inr (.inl ⟨e, h.symm⟩))
  rename_i e3
  split at h
  · rename_i e; injection h with h; exact .inr (.inr (.inr (.inl ⟨e, h.symm⟩)))
  rename_i e4
  split at h
  · rename_i e; injection h with h; exact .inr (.inr (.inr (.inr (.inl ⟨e, h.symm⟩))))
  rename_i e5
  split at h
  · cases h
  rename_i q hq
  injection h with h
  exact .inr (.inr (.inr (.inr (.inr ⟨q, hq, h.symm, e1, fun e => e2 (.inl e), fun e => e2 (.inr e), e3, e4, e5⟩))))
/-- The rows of the table. -/
theorem sig_rows {p : List UInt8 → List Int × Int → Bool} (hp : (sigT.all fun q => p q.1 q.2) = true) {n : List UInt8} {q : List Int × Int} (h : sig n = some q) : p n q = true := by
  have hh : ∀ L : List (List UInt8 × List Int × Int), (∀ q ∈ L, p q.1 q.2 = true) → sigF n L = some q → p n q = true := fun L => by
    induction L with
    | nil => intro _ h; cases h
    | cons r L ih =>
      obtain ⟨m, a, b⟩ := r
      intro hq h
      rw [sigF] at h
      split at h
      · rename_i e
        injection h with h
        subst h e
        exact hq _ (List.mem_cons_self ..)
      · exact ih (fun r hm => hq r (List.mem_cons_of_mem _ hm)) h
  exact hh sigT (fun r hr => List.all_eq_true.1 hp r hr) h
/-- A call with a pattern, or one without. -/
theorem sig_kinds {n : List UInt8} {q : List Int × Int} (h : sig n = some q) : ((n = nCount ∨ n = nHas ∨ n = nFind) ∧ q.1 = [3, 0]) ∨ (n ≠ nCount ∧ n ≠ nHas ∧ n ≠ nFind ∧ (∀ s ∈ q.1, s ≠ 0)) := by
  have := sig_rows (p := fun n q => (decide (n = nCount ∨ n = nHas ∨ n = nFind) && decide (q.1 = [3, 0])) || (decide (n ≠ nCount) && decide (n ≠ nHas) && decide (n ≠ nFind) && q.1.all fun s => decide (s ≠ 0))) (by decide +kernel) h
  simp only [Bool.or_eq_true, Bool.and_eq_true, decide_eq_true_eq, List.all_eq_true] at this
  rcases this with h | h
  · exact .inl h
  · exact .inr ⟨h.1.1.1, h.1.1.2, h.1.2, h.2⟩
theorem opS_plain {q : List Int × Int} (h : ∀ s ∈ q.1, s ≠ 0) : opS q = ⟨q.1, q.2, false, false⟩ := by
  have h1 : q.1.filter (fun t => decide (t ≠ 0)) = q.1 := List.filter_eq_self.2 (fun a ha => by simpa using h a ha)
  have h2 : q.1.any (fun t => decide (t = 0)) = false := by
    rw [List.any_eq_false]
    intro a ha
    simpa using h a ha
  unfold opS
  rw [h1, h2]
theorem opS_pat {q : List Int × Int} (h : q.1 = [3, 0]) : opS q = ⟨[3], q.2, true, true⟩ := by
  unfold opS
  rw [h]
  rfl
theorem len1 {l : List Tx} (h : l.length = 1) : ∃ x, l = [x] := by
  match l, h with
  | [x], _ => exact ⟨x, rfl⟩
theorem len2 {l : List Tx} (h : l.length = 2) : ∃ x y, l = [x, y] := by
  match l, h with
  | [x, y], _ => exact ⟨x, y, rfl⟩
/-- A node's size. -/
theorem nodeR_size {s : St} {o : OpI} {a : List Tx} (ho : opR s.op = some o) (hl : a.length = o.args.length) : ((nodeR s a).size : Int) = baseN s.op + sumZ a := by
  obtain ⟨op, args, num, text, ty⟩ := s
  dsimp only at ho ⊢
  rcases opR_spec ho with ⟨rfl, rfl⟩ | ⟨h, rfl⟩ | ⟨rfl, rfl⟩ | ⟨rfl, rfl⟩ | ⟨rfl, rfl⟩ | ⟨q, hq, rfl, h1, h2, h3, h4, h5, h6⟩
  · have : a = [] := List.eq_nil_of_length_eq_zero hl
    subst this
    rfl
  · have : a = [] := List.eq_nil_of_length_eq_zero hl
    subst this
    rcases h with rfl | rfl <;> rfl
  · obtain ⟨x, rfl⟩ := len1 hl
    show ((Tx.node 4 nSize 0 [.node 4 nFind 0 [x, .node 2 text 0 []]]).size : Int) = 3 + _
    simp only [node_size, sumZ_cons, sumZ_nil]; omega
  · obtain ⟨x, y, rfl⟩ := len2 hl
    show ((Tx.node 4 nFirst 0 [.node 4 nFind 0 [x, .node 2 text 0 []], y]).size : Int) = 3 + _
    simp only [node_size, sumZ_cons, sumZ_nil]; omega
  · show ((Tx.node 4 nLen 0 [.node 4 nCut 0 a]).size : Int) = 2 + _
    simp only [node_size, sumZ_cons, sumZ_nil]; omega
  · rcases sig_kinds hq with ⟨h, hp⟩ | ⟨g1, g2, g3, hp⟩
    · rw [opS_pat hp] at hl
      obtain ⟨x, rfl⟩ := len1 hl
      have hb : baseN op = 2 := by rcases h with rfl | rfl | rfl <;> rfl
      have hn : nodeR ⟨op, args, num, text, ty⟩ [x] = .node 4 op 0 [x, .node 2 text 0 []] := by
        unfold nodeR
        rw [if_neg h1, if_neg h2, if_neg h3, if_pos h]
        rfl
      rw [hb, hn]
      simp only [node_size, sumZ_cons, sumZ_nil]; omega
    · have hb : baseN op = 1 := by
        unfold baseN
        rw [if_neg (by rintro (h | h | h | h) <;> contradiction), if_neg (by rintro (h | h) <;> contradiction)]
      have hn : nodeR ⟨op, args, num, text, ty⟩ a = .node 4 op 0 a := by
        unfold nodeR
        rw [if_neg h1, if_neg h2, if_neg h3, if_neg (by rintro (h | h | h) <;> contradiction), if_neg h4, if_neg h5, if_neg h6]
      rw [hb, hn, node_size]
theorem cap_sum (z : List Int) (f : Int → Tx) (b : Int) (hb : 0 ≤ b) : ∀ args : List Int, (∀ a ∈ args, z.getD a.toNat 0 = min ((f a).size : Int) 4097) → min (b + sumAt z args) 4097 = min (b + sumZ (args.map f)) 4097 ∧ 0 ≤ sumAt z args ∧ 0 ≤ sumZ (args.map f)
  | [], _ => by unfold sumAt sumZ; simp
  | a :: args, h => by
    obtain ⟨h1, h2, h3⟩ := cap_sum z f b hb args (fun c hc => h c (List.mem_cons_of_mem _ hc))
    have h4 := h a (List.mem_cons_self ..)
    have e1 : sumAt z (a :: args) = z.getD a.toNat 0 + sumAt z args := by unfold sumAt; rw [List.map_cons, List.sum_cons]
    rw [e1, List.map_cons, sumZ_cons, h4]
    omega
/-- The types of the nodes. -/
theorem typTL_plain (t : List UInt8) (r : Int) (hc : isCmpT t = false) : ∀ (S : List Int) (l : List Tx) (ck : Nat) (fs : Int), (∀ s ∈ S, s ≠ 0) → l.length = S.length → (∀ (j : Nat) (s : Int) (y : Tx), S[j]? = some s → l[j]? = some y → typT y = .ok s) → typTL t r S l ck fs = .ok r
  | [], [], _, _, _, _, _ => by rw [typTL]
  | [], _ :: _, _, _, _, h, _ => by simp at h
  | _ :: _, [], _, _, _, h, _ => by simp at h
  | s :: S, y :: l, ck, fs, h0, hl, h => by
    rw [typTL, if_neg (h0 s (List.mem_cons_self ..)), h 0 s y rfl rfl]
    dsimp only
    unfold takeR
    rw [if_neg (by rw [hc]; decide), if_pos rfl]
    exact typTL_plain t r hc S l (ck + 1) fs (fun s hs => h0 s (List.mem_cons_of_mem _ hs)) (by simpa using hl) (fun j s y h1 h2 => h (j + 1) s y (by simpa using h1) (by simpa using h2))
theorem typT_call {t : List UInt8} {n : Int} {l : List Tx} {S : List Int} {r : Int} (h : sig t = some (S, r)) (hl : S.length = l.length) : typT (.node 4 t n l) = typTL t r S l 0 0 := by
  rw [typT, if_neg (by decide), if_pos rfl, h]
  dsimp only
  rw [if_pos hl]
theorem typ_pat {t : List UInt8} {n r m : Int} {x : Tx} {p : List UInt8} {l : List Tx} (h : sig t = some ([3, 0], r)) (hc : isCmpT t = false) (hx : typT x = .ok 3) (hp : (parseR p).isSome = true) : typT (.node 4 t n [x, .node 2 p m l]) = .ok r := by
  rw [typT_call h rfl, typTL, if_neg (by decide), hx]
  dsimp only
  unfold takeR
  rw [if_neg (by rw [hc]; decide), if_pos rfl]
  dsimp only
  rw [typTL, if_pos rfl]
  show (if (2 : Int) = 2 then (if (parseR p).isSome = true then _ else _) else _) = _
  rw [if_pos rfl, if_pos hp, typTL]
theorem sig_cmp {t : List UInt8} {q : List Int × Int} (h : sig t = some q) (hc : isCmpT t = true) : q = ([1, 1], 2) := by
  have := sig_rows (p := fun n q => !isCmpT n || decide (q = ([1, 1], 2))) (by decide +kernel) h
  simpa [hc] using this
theorem sig_names {t : List UInt8} {q : List Int × Int} (h : sig t = some q) : t ≠ nNumber ∧ t ≠ nString ∧ t ≠ nRef ∧ t ≠ nMatches ∧ t ≠ nFirstfind ∧ t ≠ nLencut := by
  have := sig_rows (p := fun n q => decide (n ≠ nNumber ∧ n ≠ nString ∧ n ≠ nRef ∧ n ≠ nMatches ∧ n ≠ nFirstfind ∧ n ≠ nLencut)) (by decide +kernel) h
  simpa using this
theorem sig_short {t : List UInt8} {q : List Int × Int} (h : sig t = some q) : t.length ≤ 100 := by
  have := sig_rows (p := fun n q => decide (n.length ≤ 100)) (by decide +kernel) h
  simpa using this
theorem pat_cmp {t : List UInt8} (h : t = nCount ∨ t = nHas ∨ t = nFind) : isCmpT t = false := by rcases h with rfl | rfl | rfl <;> decide
theorem map3 {l : List St} {s : St} {o : OpI} (hc : isCmpT s.op = false) (h : typedR l s o = true) : s.args.map (tyAt l) = o.args := by
  unfold typedR at h
  rw [if_neg (by rw [hc]; decide)] at h
  exact of_decide_eq_true h
/-- The type of a step's tree. -/
theorem nodeR_typ {l : List St} {i : Nat} {s : St} {o : OpI} (F : Fine l i s o) {f : Int → Tx} (hf : ∀ a ∈ s.args, typT (f a) = .ok (tyAt l a)) : typT (nodeR s (s.args.map f)) = .ok s.ty := by
  have ho := F.op
  have hl := F.len
  have hty := F.ty
  have htd := F.typed
  have hpt := F.pat
  obtain ⟨op, args, num, text, ty⟩ := s
  dsimp only at ho hl hty hpt hf ⊢
  rcases opR_spec ho with ⟨rfl, rfl⟩ | ⟨h, rfl⟩ | ⟨rfl, rfl⟩ | ⟨rfl, rfl⟩ | ⟨rfl, rfl⟩ | ⟨q, hq, rfl, h1, h2, h3, h4, h5, h6⟩
  · have : args = [] := List.eq_nil_of_length_eq_zero hl
    subst this hty
    rfl
  · have : args = [] := List.eq_nil_of_length_eq_zero hl
    subst this hty
    rcases h with rfl | rfl <;> rfl
  · have hm := map3 (s := ⟨nMatches, args, num, text, ty⟩) (show isCmpT nMatches = false by decide) htd
    have hm : args.map (tyAt l) = [3] := hm
    obtain ⟨a, rfl⟩ : ∃ a, args = [a] := by
      match args, hl with
      | [a], _ => exact ⟨a, rfl⟩
    have hm : tyAt l a = 3 := by simpa using hm
    have hx := hf a (by simp)
    rw [hm] at hx
    have hfi := typ_pat (t := nFind) (n := 0) (m := 0) (l := []) (r := 4) (by kernel_rfl) (by decide) hx ((patE_some text).2 (hpt rfl))
    show typT (.node 4 nSize 0 [.node 4 nFind 0 [f a, .node 2 text 0 []]]) = _
    rw [typT_call (S := [4]) (r := 1) (by kernel_rfl) rfl, typTL_plain nSize 1 (by decide) [4] _ _ _ (by decide) rfl, hty]
    intro j s y hs hy
    cases j with
    | zero =>
      simp only [List.getElem?_cons_zero, Option.some.injEq] at hs hy
      subst hs hy
      exact hfi
    | succ j => simp at hs
  · have hm := map3 (s := ⟨nFirstfind, args, num, text, ty⟩) (show isCmpT nFirstfind = false by decide) htd
    have hm : args.map (tyAt l) = [3, 1] := hm
    obtain ⟨a, b, rfl⟩ : ∃ a b, args = [a, b] := by
      match args, hl with
      | [a, b], _ => exact ⟨a, b, rfl⟩
    obtain ⟨hm, hm2⟩ : tyAt l a = 3 ∧ tyAt l b = 1 := by simpa using hm
    have hx := hf a (by simp)
    have hb := hf b (by simp)
    rw [hm] at hx
    rw [hm2] at hb
    have hfi := typ_pat (t := nFind) (n := 0) (m := 0) (l := []) (r := 4) (by kernel_rfl) (by decide) hx ((patE_some text).2 (hpt rfl))
    show typT (.node 4 nFirst 0 [.node 4 nFind 0 [f a, .node 2 text 0 []], f b]) = _
    rw [typT_call (S := [4, 1]) (r := 4) (by kernel_rfl) rfl, typTL_plain nFirst 4 (by decide) [4, 1] _ _ _ (by decide) rfl, hty]
    intro j s y hs hy
    match j with
    | 0 =>
      simp only [List.getElem?_cons_zero, Option.some.injEq] at hs hy
      subst hs hy
      exact hfi
    | 1 =>
      simp only [List.getElem?_cons_zero, List.getElem?_cons_succ, Option.some.injEq] at hs hy
      subst hs hy
      exact hb
    | j + 2 => simp at hs
  · have hm := map3 (s := ⟨nLencut, args, num, text, ty⟩) (show isCmpT nLencut = false by decide) htd
    have hm : args.map (tyAt l) = [3, 1, 1] := hm
    show typT (.node 4 nLen 0 [.node 4 nCut 0 (args.map f)]) = _
    have hcu : typT (.node 4 nCut 0 (args.map f)) = .ok 3 := by
      rw [typT_call (S := [3, 1, 1]) (r := 3) (by kernel_rfl) (by rw [List.length_map]; exact hl.symm), typTL_plain nCut 3 (by decide) [3, 1, 1] _ _ _ (by decide) (by rw [List.length_map]; exact hl)]
      intro j s y hs hy
      rw [List.getElem?_map] at hy
      obtain ⟨a, ha, rfl⟩ := Option.map_eq_some_iff.1 hy
      rw [hf a (List.mem_of_getElem? ha)]
      rw [← hm, List.getElem?_map, ha] at hs
      simp only [Option.map_some, Option.some.injEq] at hs
      rw [hs]
    rw [typT_call (S := [3]) (r := 1) (by kernel_rfl) rfl, typTL_plain nLen 1 (by decide) [3] _ _ _ (by decide) rfl, hty]
    intro j s y hs hy
    cases j with
    | zero =>
      simp only [List.getElem?_cons_zero, Option.some.injEq] at hs hy
      subst hs hy
      exact hcu
    | succ j => simp at hs
  · obtain ⟨S, r⟩ := q
    rcases sig_kinds hq with ⟨h, hp⟩ | ⟨g1, g2, g3, hp⟩
    · have hp : S = [3, 0] := hp
      subst hp
      rw [opS_pat rfl] at hl hty hpt htd
      have hcf := pat_cmp h
      have hm := map3 (s := ⟨op, args, num, text, ty⟩) hcf htd
      have hm : args.map (tyAt l) = [3] := hm
      obtain ⟨a, rfl⟩ : ∃ a, args = [a] := by
        match args, hl with
        | [a], _ => exact ⟨a, rfl⟩
      have hm : tyAt l a = 3 := by simpa using hm
      have hx := hf a (by simp)
      rw [hm] at hx
      have hn : nodeR ⟨op, [a], num, text, ty⟩ ([a].map f) = .node 4 op 0 [f a, .node 2 text 0 []] := by
        unfold nodeR
        rw [if_neg h1, if_neg h2, if_neg h3, if_pos h]
        rfl
      rw [hn, typ_pat hq hcf hx ((patE_some text).2 (hpt rfl)), hty]
    · have hp : ∀ s ∈ S, s ≠ 0 := hp
      rw [opS_plain hp] at hl hty hpt htd
      have hn : nodeR ⟨op, args, num, text, ty⟩ (args.map f) = .node 4 op 0 (args.map f) := by
        unfold nodeR
        rw [if_neg h1, if_neg h2, if_neg h3, if_neg (by rintro (h | h | h) <;> contradiction), if_neg h4, if_neg h5, if_neg h6]
      have hl : args.length = S.length := hl
      rw [hn, typT_call hq (by rw [List.length_map]; exact hl.symm), hty]
      cases hc : isCmpT op with
      | false =>
        have hm := map3 (s := ⟨op, args, num, text, ty⟩) hc htd
        have hm : args.map (tyAt l) = S := hm
        refine typTL_plain op r hc S _ _ _ hp (by rw [List.length_map]; exact hl) ?_
        intro j s y hs hy
        rw [List.getElem?_map] at hy
        obtain ⟨a, ha, rfl⟩ := Option.map_eq_some_iff.1 hy
        rw [hf a (List.mem_of_getElem? ha)]
        rw [← hm, List.getElem?_map, ha] at hs
        simp only [Option.map_some, Option.some.injEq] at hs
        rw [hs]
      | true =>
        have he := sig_cmp hq hc
        injection he with e1 e2
        subst e1 e2
        obtain ⟨a, b, rfl⟩ : ∃ a b, args = [a, b] := by
          match args, hl with
          | [a, b], _ => exact ⟨a, b, rfl⟩
        unfold typedR at htd
        rw [if_pos hc] at htd
        have ha := hf a (by simp)
        have hb := hf b (by simp)
        simp only [List.getD_cons_zero, List.getD_cons_succ] at htd
        split at htd
        · cases htd
        · rename_i heq
          have heq : tyAt l a = tyAt l b := by simpa using heq
          rw [← heq] at hb
          have hok : tyAt l a = 1 ∨ tyAt l a = 3 ∨ (tyAt l a = 2 ∧ isEqT op = true) := by
            split at htd
            · rename_i h2; exact .inr (.inr ⟨h2, htd⟩)
            · have := of_decide_eq_true htd
              rcases this with h | h
              · exact .inl h
              · exact .inr (.inl h)
          show typTL op 2 [1, 1] [f a, f b] 0 0 = _
          rw [typTL, if_neg (by decide), ha]
          dsimp only
          unfold takeR
          rw [if_pos hc, if_pos rfl, if_pos hok]
          dsimp only
          rw [typTL, if_neg (by decide), hb]
          dsimp only
          unfold takeR
          rw [if_pos hc, if_neg (by decide), if_pos rfl]
          dsimp only
          rw [typTL]
theorem growR_typ {l : List St} (hc : checkR l = 0) : ∀ (i : Nat) (s : St), l[i]? = some s → typT (growR l i) = .ok s.ty := by
  have hz := (checkR_zero hc).2.2
  have hback := checkR_back hc
  intro i
  induction i using Nat.strongRecOn with
  | _ i ih =>
    intro s hs
    obtain ⟨o, F⟩ := stepE_zero (hz i s hs)
    have hi := (List.getElem?_eq_some_iff.1 hs).1
    rw [growR_eq hback hs]
    refine nodeR_typ F (f := fun a => growR l a.toNat) ?_
    intro a ha
    have := F.back a ha
    obtain ⟨s', hs'⟩ : ∃ s', l[a.toNat]? = some s' := ⟨l[a.toNat]'(by omega), List.getElem?_eq_getElem _⟩
    rw [ih a.toNat (by omega) s' hs']
    unfold tyAt
    rw [hs']
theorem all_node {p : Tx → Bool} {k : Int} {t : List UInt8} {n : Int} {l : List Tx} (h : p (.node k t n l) = true) (hl : ∀ x ∈ l, x.all p = true) : (Tx.node k t n l).all p = true := by
  have hal : ∀ l : List Tx, (∀ x ∈ l, x.all p = true) → allTL p l = true := fun l => by
    induction l with
    | nil => intro _; rfl
    | cons x l ih =>
      intro h
      unfold allTL
      rw [h x (List.mem_cons_self ..), ih (fun y hy => h y (List.mem_cons_of_mem _ hy))]
      rfl
  unfold Tx.all
  rw [h, hal l hl]
  rfl
theorem nodeR_all {l : List St} {i : Nat} {s : St} {o : OpI} (F : Fine l i s o) {a : List Tx} (hl : a.length = o.args.length) (p : Tx → Bool) (p1 : s.op = nNumber → p (.node 1 [] s.num []) = true) (p2 : p (.node 2 s.text 0 []) = true) (p3 : p (.node 3 s.text 0 []) = true)
    (p4 : ∀ l q, sig s.op = some q → p (.node 4 s.op 0 l) = true) (p5 : ∀ n l, n = nSize ∨ n = nFind ∨ n = nFirst ∨ n = nLen ∨ n = nCut → p (.node 4 n 0 l) = true) (ha : ∀ x ∈ a, x.all p = true) : (nodeR s a).all p = true := by
  have ho := F.op
  obtain ⟨op, args, num, text, ty⟩ := s
  dsimp only at ho p1 p2 p3 p4 ⊢
  have hs : ∀ x ∈ ([] : List Tx), x.all p = true := fun x hx => by cases hx
  have hstr : (Tx.node 2 text 0 []).all p = true := all_node p2 hs
  rcases opR_spec ho with ⟨rfl, rfl⟩ | ⟨h, rfl⟩ | ⟨rfl, rfl⟩ | ⟨rfl, rfl⟩ | ⟨rfl, rfl⟩ | ⟨q, hq, rfl, h1, h2, h3, h4, h5, h6⟩
  · exact all_node (p1 rfl) hs
  · rcases h with rfl | rfl
    · exact hstr
    · exact all_node p3 hs
  · obtain ⟨x, rfl⟩ := len1 hl
    have hx := ha x (by simp)
    show (Tx.node 4 nSize 0 [.node 4 nFind 0 [x, .node 2 text 0 []]]).all p = true
    refine all_node (p5 _ _ (by simp)) (fun y hy => ?_)
    rw [List.mem_singleton] at hy
    subst hy
    refine all_node (p5 _ _ (by simp)) (fun y hy => ?_)
    simp only [List.mem_cons, List.not_mem_nil, or_false] at hy
    rcases hy with rfl | rfl
    · exact hx
    · exact hstr
  · obtain ⟨x, z, rfl⟩ := len2 hl
    have hx := ha x (by simp)
    have hz := ha z (by simp)
    show (Tx.node 4 nFirst 0 [.node 4 nFind 0 [x, .node 2 text 0 []], z]).all p = true
    refine all_node (p5 _ _ (by simp)) (fun y hy => ?_)
    simp only [List.mem_cons, List.not_mem_nil, or_false] at hy
    rcases hy with rfl | rfl
    · refine all_node (p5 _ _ (by simp)) (fun y hy => ?_)
      simp only [List.mem_cons, List.not_mem_nil, or_false] at hy
      rcases hy with rfl | rfl
      · exact hx
      · exact hstr
    · exact hz
  · show (Tx.node 4 nLen 0 [.node 4 nCut 0 a]).all p = true
    refine all_node (p5 _ _ (by simp)) (fun y hy => ?_)
    rw [List.mem_singleton] at hy
    subst hy
    exact all_node (p5 _ _ (by simp)) ha
  · rcases sig_kinds hq with ⟨h, hp⟩ | ⟨g1, g2, g3, hp⟩
    · rw [opS_pat hp] at hl
      obtain ⟨x, rfl⟩ := len1 hl
      have hx := ha x (by simp)
      have hn : nodeR ⟨op, args, num, text, ty⟩ [x] = .node 4 op 0 [x, .node 2 text 0 []] := by
        unfold nodeR
        rw [if_neg h1, if_neg h2, if_neg h3, if_pos h]
        rfl
      rw [hn]
      refine all_node (p4 _ _ hq) (fun y hy => ?_)
      simp only [List.mem_cons, List.not_mem_nil, or_false] at hy
      rcases hy with rfl | rfl
      · exact hx
      · exact hstr
    · have hn : nodeR ⟨op, args, num, text, ty⟩ a = .node 4 op 0 a := by
        unfold nodeR
        rw [if_neg h1, if_neg h2, if_neg h3, if_neg (by rintro (h | h | h) <;> contradiction), if_neg h4, if_neg h5, if_neg h6]
      rw [hn]
      exact all_node (p4 _ _ hq) ha
theorem growR_all {l : List St} (hc : checkR l = 0) (p : Tx → Bool) (p1 : ∀ n, 0 ≤ n → p (.node 1 [] n []) = true) (p2 : ∀ s ∈ l, p (.node 2 s.text 0 []) = true) (p3 : ∀ s ∈ l, p (.node 3 s.text 0 []) = true)
    (p4 : ∀ n l q, sig n = some q → p (.node 4 n 0 l) = true) : ∀ (i : Nat), i < l.length → (growR l i).all p = true := by
  have hz := (checkR_zero hc).2.2
  have hback := checkR_back hc
  have hsome : ∀ n, (sig n).isSome = true → ∃ q, sig n = some q := fun n h => Option.isSome_iff_exists.1 h
  intro i
  induction i using Nat.strongRecOn with
  | _ i ih =>
    intro hi
    have hs : l[i]? = some l[i] := List.getElem?_eq_getElem hi
    obtain ⟨o, F⟩ := stepE_zero (hz i _ hs)
    have hm : l[i] ∈ l := List.getElem_mem hi
    rw [growR_eq hback hs]
    refine nodeR_all F (by rw [List.length_map]; exact F.len) p (fun _ => p1 _ F.num) (p2 _ hm) (p3 _ hm) (fun l' q hq => p4 _ _ _ hq) (fun n l' hn => ?_) (fun x hx => ?_)
    · rcases hn with rfl | rfl | rfl | rfl | rfl
      · exact p4 _ _ ([4], 1) (by kernel_rfl)
      · exact p4 _ _ ([3, 0], 4) (by kernel_rfl)
      · exact p4 _ _ ([4, 1], 4) (by kernel_rfl)
      · exact p4 _ _ ([3], 1) (by kernel_rfl)
      · exact p4 _ _ ([3, 1, 1], 3) (by kernel_rfl)
    · obtain ⟨a, ha, rfl⟩ := List.mem_map.1 hx
      have := F.back a ha
      exact ih a.toNat (by omega) (by omega)
theorem growR_isNT {l : List St} (hc : checkR l = 0) (i : Nat) (hi : i < l.length) : (growR l i).all isNT = true := by
  refine growR_all hc isNT (fun n hn => ?_) (fun s _ => rfl) (fun s _ => rfl) (fun n l q _ => rfl) i hi
  show (if (1 : Int) = 1 then decide (0 ≤ n) && decide (([] : List UInt8) = []) && decide (([] : List Tx).length = 0) else _) = true
  rw [if_pos rfl]
  simp [hn]
theorem growR_short {l : List St} (hc : checkR l = 0) {m : Nat} (hm : 100 ≤ m) (h : ∀ s ∈ l, s.text.length ≤ m) (i : Nat) (hi : i < l.length) : (growR l i).all (shortT m) = true := by
  refine growR_all hc (shortT m) (fun n hn => ?_) (fun s hs => ?_) (fun s hs => ?_) (fun n l q hq => ?_) i hi
  · exact decide_eq_true (Nat.zero_le m)
  · exact decide_eq_true (h s hs)
  · exact decide_eq_true (h s hs)
  · exact decide_eq_true (Nat.le_trans (sig_short hq) hm)
end Go.Proofs.Ytniefnjcimempaa
