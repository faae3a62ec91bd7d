/- Plain laws: what the document says of a plan's parts: costs, sizes, uses, the text. -/
import Derived.Test.YtniefnjcimempaaqCkP
import Derived.Test.YtniefnjcimempaaqRx1
namespace Go.Proofs.Ytniefnjcimempaa
open Go.RowKit
def okCost (n : List UInt8) : Bool := match firstR n with
  | some r => decide (r.cost = costR n) && decide ((1 + (if r.regex = true then 1 else 0) + (if n = nMatches ∨ n = nFirstfind ∨ n = nLencut then 1 else 0) : Int) = baseN n)
  | none => false
theorem okCosts : opNames.all okCost = true := by decide +kernel
theorem name_cost {n : List UInt8} (h : n ∈ opNames) : ∃ r, firstR n = some r ∧ r.cost = costR n ∧ (1 + (if r.regex = true then 1 else 0) + (if n = nMatches ∨ n = nFirstfind ∨ n = nLencut then 1 else 0) : Int) = baseN n := by
  have h1 := List.all_eq_true.1 okCosts n h
  unfold okCost at h1
  cases hr : firstR n with
  | none => rw [hr] at h1; cases h1
  | some r =>
    rw [hr] at h1
    simp only [Bool.and_eq_true, decide_eq_true_eq] at h1
    exact ⟨r, rfl, h1.1, h1.2⟩
/-- The document's sizes: at most 5000. -/
def nodF : List Int → List St → List Int
  | z, [] => z
  | z, s :: t => nodF (z ++ [min (baseN s.op + sumAt z s.args) 5000]) t
def nodR (l : List St) : List Int := nodF [] l
def nk (l : List St) (k : Nat) : List Int := nodF [] (l.take k)
theorem nodF_append : ∀ (t t' : List St) (z : List Int), nodF z (t ++ t') = nodF (nodF z t) t'
  | [], _, _ => rfl
  | s :: t, t', z => by rw [List.cons_append, nodF, nodF]; exact nodF_append t t' _
theorem nodF_length : ∀ (t : List St) (z : List Int), (nodF z t).length = z.length + t.length
  | [], z => by simp [nodF]
  | s :: t, z => by rw [nodF, nodF_length t]; simp; omega
theorem nk_length {l : List St} {k : Nat} (h : k ≤ l.length) : (nk l k).length = k := by unfold nk; rw [nodF_length]; simp; omega
theorem nk_succ {l : List St} {k : Nat} {s : St} (h : l[k]? = some s) : nk l (k + 1) = nk l k ++ [min (baseN s.op + sumAt (nk l k) s.args) 5000] := by
  unfold nk
  rw [List.take_add_one, h, Option.toList_some, nodF_append]
  rfl
theorem nk_all (l : List St) : nk l l.length = nodR l := by unfold nk nodR; rw [List.take_length]
theorem sumAt_bdM {M : Int} {z : List Int} (hM : 0 ≤ M) (hz : ∀ x ∈ z, 0 ≤ x ∧ x ≤ M) : ∀ args : List Int, 0 ≤ sumAt z args ∧ sumAt z args ≤ M * args.length
  | [] => by unfold sumAt; simp
  | a :: args => by
    have ih := sumAt_bdM hM hz args
    have e : sumAt z (a :: args) = z.getD a.toNat 0 + sumAt z args := by unfold sumAt; rw [List.map_cons, List.sum_cons]
    have h1 : 0 ≤ z.getD a.toNat 0 ∧ z.getD a.toNat 0 ≤ M := by
      rw [List.getD_eq_getElem?_getD]
      cases h : z[a.toNat]? with
      | none => simpa using hM
      | some x => exact hz x (List.mem_of_getElem? h)
    rw [e, List.length_cons]
    have : M * ((args.length + 1 : Nat) : Int) = M * args.length + M := by rw [Int.natCast_add, Int.mul_add]; simp
    omega
theorem nodF_bd : ∀ (t : List St) (z : List Int), (∀ x ∈ z, 0 ≤ x ∧ x ≤ 5000) → ∀ x ∈ nodF z t, 0 ≤ x ∧ x ≤ 5000
  | [], _, h => h
  | s :: t, z, h => by
    rw [nodF]
    refine nodF_bd t _ fun x hx => ?_
    rcases List.mem_append.1 hx with hx | hx
    · exact h x hx
    · have hb := baseN_bd s.op
      have hs := sumAt_bdM (by omega) h s.args
      have : x = min (baseN s.op + sumAt z s.args) 5000 := by simpa using hx
      omega
theorem nk_bd (l : List St) (k : Nat) : ∀ x ∈ nk l k, 0 ≤ x ∧ x ≤ 5000 := nodF_bd _ _ (fun x hx => by cases hx)
/-- The two lists of sizes agree up to 4097. -/
def Caps (y z : List Int) : Prop := y.length = z.length ∧ ∀ j : Nat, min (y.getD j 0) 4097 = z.getD j 0 ∧ 0 ≤ y.getD j 0
theorem Caps.sum {y z : List Int} (h : Caps y z) (b : Int) (hb : 0 ≤ b) : ∀ args : List Int, min (b + sumAt y args) 4097 = min (b + sumAt z args) 4097 ∧ 0 ≤ sumAt y args ∧ 0 ≤ sumAt z args
  | [] => by unfold sumAt; simp
  | a :: args => by
    obtain ⟨h1, h2, h3⟩ := h.sum b hb args
    have h4 := h.2 a.toNat
    have e1 : sumAt y (a :: args) = y.getD a.toNat 0 + sumAt y args := by unfold sumAt; rw [List.map_cons, List.sum_cons]
    have e2 : sumAt z (a :: args) = z.getD a.toNat 0 + sumAt z args := by unfold sumAt; rw [List.map_cons, List.sum_cons]
    rw [e1, e2]
    omega
theorem Caps.snoc {y z : List Int} (h : Caps y z) {p q : Int} (hp : min p 4097 = q) (h0 : 0 ≤ p) : Caps (y ++ [p]) (z ++ [q]) := by
  refine ⟨by simp [h.1], fun j => ?_⟩
  by_cases hj : j < y.length
  · have := h.2 j
    simp only [List.getD_eq_getElem?_getD] at this ⊢
    rw [List.getElem?_append_left hj, List.getElem?_append_left (by rw [← h.1]; exact hj)]
    exact this
  · by_cases he : j = y.length
    · subst he
      simp only [List.getD_eq_getElem?_getD]
      rw [List.getElem?_append_right (Nat.le_refl _), List.getElem?_append_right (by rw [h.1]; exact Nat.le_refl _), h.1]
      simp [hp, h0]
    · simp only [List.getD_eq_getElem?_getD]
      rw [List.getElem?_eq_none (by simp; omega), List.getElem?_eq_none (by simp; have := h.1; omega)]
      decide
theorem caps_all : ∀ (t : List St) (y z : List Int), Caps y z → Caps (nodF y t) (sizesF z t)
  | [], _, _, h => h
  | s :: t, y, z, h => by
    rw [nodF, sizesF]
    have hb := baseN_bd s.op
    obtain ⟨h1, h2, h3⟩ := h.sum (baseN s.op) (by omega) s.args
    exact caps_all t _ _ (h.snoc (by omega) (by omega))
theorem nod_sizes (l : List St) (i : Nat) : 4096 < (nodR l).getD i 0 ↔ 4096 < (sizesR l).getD i 0 := by
  have h := (caps_all l [] [] ⟨rfl, fun j => by simp; decide⟩).2 i
  unfold nodR sizesR
  omega
/-- The uses of the steps, one more. -/
def bump (z : List Int) (a : Int) : List Int := z.set a.toNat (z.getD a.toNat 0 + 1)
def bumps (z : List Int) (args : List Int) : List Int := args.foldl bump z
def usesK (l : List St) (k : Nat) : List Int := (l.take k).foldl (fun z s => bumps z s.args) (List.replicate l.length 0)
def usesR (l : List St) : List Int := usesK l l.length
theorem bump_len (z : List Int) (a : Int) : (bump z a).length = z.length := by unfold bump; simp
theorem bumps_len : ∀ (args z : List Int), (bumps z args).length = z.length
  | [], _ => rfl
  | a :: args, z => by unfold bumps; rw [List.foldl_cons]; exact (bumps_len args _).trans (bump_len z a)
theorem bumps_snoc (z args : List Int) (a : Int) : bumps z (args ++ [a]) = bump (bumps z args) a := by unfold bumps; rw [List.foldl_append]; rfl
theorem usesK_zero (l : List St) : usesK l 0 = List.replicate l.length 0 := by unfold usesK; simp
theorem usesK_succ {l : List St} {k : Nat} {s : St} (h : l[k]? = some s) : usesK l (k + 1) = bumps (usesK l k) s.args := by
  unfold usesK
  rw [List.take_add_one, h, Option.toList_some, List.foldl_append]
  rfl
theorem foldl_len (n : Nat) : ∀ (t : List St) (z : List Int), z.length = n → (t.foldl (fun z s => bumps z s.args) z).length = n
  | [], _, h => h
  | s :: t, z, h => by rw [List.foldl_cons]; exact foldl_len n t _ ((bumps_len _ _).trans h)
theorem usesK_len (l : List St) (k : Nat) : (usesK l k).length = l.length := by unfold usesK; exact foldl_len _ _ _ (by simp)
def Upto (M : Int) (z : List Int) : Prop := ∀ x ∈ z, 0 ≤ x ∧ x ≤ M
theorem Upto.get {M : Int} {z : List Int} (h : Upto M z) (hM : 0 ≤ M) (a : Nat) : 0 ≤ z.getD a 0 ∧ z.getD a 0 ≤ M := by
  rw [List.getD_eq_getElem?_getD]
  cases e : z[a]? with
  | none => simpa using hM
  | some x => exact h x (List.mem_of_getElem? e)
theorem Upto.bump {M : Int} {z : List Int} (h : Upto M z) (hM : 0 ≤ M) (a : Int) : Upto (M + 1) (bump z a) := fun x hx => by
  rcases List.mem_or_eq_of_mem_set hx with hx | rfl
  · have := h x hx; omega
  · have := h.get hM a.toNat; omega
theorem Upto.bumps : ∀ (args : List Int) {M : Int} {z : List Int}, Upto M z → 0 ≤ M → Upto (M + args.length) (bumps z args)
  | [], M, z, h, _ => by simpa [Go.Proofs.Ytniefnjcimempaa.bumps] using h
  | a :: args, M, z, h, hM => by
    have := Upto.bumps args (h.bump hM a) (by omega)
    have e : M + 1 + (args.length : Int) = M + ((a :: args).length : Int) := by simp; omega
    rw [e] at this
    exact this
theorem upto_fold : ∀ (t : List St) (M : Int) (z : List Int), (∀ s ∈ t, s.args.length ≤ 3) → Upto M z → 0 ≤ M → Upto (M + 3 * t.length) (t.foldl (fun z s => Go.Proofs.Ytniefnjcimempaa.bumps z s.args) z)
  | [], M, z, _, h, _ => by simpa using h
  | s :: t, M, z, hs, h, hM => by
    rw [List.foldl_cons]
    have h3 := hs s (List.mem_cons_self ..)
    have h1 : Upto (M + 3) (Go.Proofs.Ytniefnjcimempaa.bumps z s.args) := fun x hx => by have := h.bumps s.args hM x hx; omega
    have := upto_fold t (M + 3) _ (fun s h => hs s (List.mem_cons_of_mem _ h)) h1 (by omega)
    have e : M + 3 + 3 * (t.length : Int) = M + 3 * ((s :: t).length : Int) := by simp; omega
    rw [e] at this
    exact this
theorem usesK_bd {l : List St} (hs : ∀ s ∈ l, s.args.length ≤ 3) (hl : l.length ≤ 100000) (k : Nat) : Upto 300000 (usesK l k) := fun x hx => by
  have h0 : Upto 0 (List.replicate l.length (0 : Int)) := fun x hx => by have := List.eq_of_mem_replicate hx; omega
  have := upto_fold (l.take k) 0 _ (fun s h => hs s (List.mem_of_mem_take h)) h0 (by omega) x hx
  have hlt : (l.take k).length ≤ l.length := by rw [List.length_take]; omega
  omega
def uarr (z : List Int) : Array Value := (z.map (Value.int .i64)).toArray
theorem uarr_get {z : List Int} {a : Nat} (h : a < z.length) : (uarr z)[a]? = some (.int .i64 (z.getD a 0)) := by
  unfold uarr
  rw [List.getElem?_toArray, List.getElem?_map, List.getElem?_eq_getElem h, List.getD_eq_getElem?_getD, List.getElem?_eq_getElem h]
  rfl
theorem uarr_set (z : List Int) (a : Nat) : (uarr z).setIfInBounds a (.int .i64 (z.getD a 0 + 1)) = uarr (bump z (a : Int)) := by
  unfold uarr bump
  rw [List.setIfInBounds_toArray, ← List.map_set, Int.toNat_natCast]
end Go.Proofs.Ytniefnjcimempaa
