/- The rules of a store, in plain words: what Letter and Pair add, and what is known of an ID. -/
import Derived.Test.YtphpfkhpihlalaaWtOf
namespace Go.Proofs.Ytphpfkhpihlalaa
structure Ru where
  kind : Int
  letter : Int
  left : Int
  right : Int
  times : Int
deriving DecidableEq
def Ru.none_ : Ru := ⟨0, 0, 0, 0, 0⟩
def Ru.one (b : UInt8) : Ru := ⟨1, b.toNat, 0, 0, 0⟩
def Ru.pair (l r : Nat) : Ru := ⟨2, 0, l, r, 0⟩
/-- What a store knows of a rule; t is the text itself, which stands nowhere in memory. -/
structure En where
  ru : Ru
  wt : Wt
  depth : Nat
  even : Bool
  t : List UInt8
def En.unit : En := ⟨Ru.none_, Wt.unit, 0, true, []⟩
def En.one (b : UInt8) : En := ⟨Ru.one b, Wt.letter b, 0, true, [b]⟩
def near (a b : Nat) : Bool := decide (a ≤ b + 1) && decide (b ≤ a + 1)
def En.pair (l r : Nat) (x y : En) : En := ⟨Ru.pair l r, x.wt.join y.wt, 1 + max x.depth y.depth, x.even && y.even && near x.depth y.depth, x.t ++ y.t⟩
/-- What is known of a known ID. -/
def atE (E : List En) (id : Nat) : Option En := if id = 0 then some En.unit else E[id - 1]?
/-- The ID of a rule. -/
def idF (k : Nat) (r : Ru) : List En → Option Nat
  | [] => none
  | e :: E => if e.ru = r then some (k + 1) else idF (k + 1) r E
def idOf (E : List En) (r : Ru) : Option Nat := idF 0 r E
theorem idF_some {r : Ru} : ∀ {E : List En} {k i : Nat}, idF k r E = some i → ∃ e, k < i ∧ E[i - k - 1]? = some e ∧ e.ru = r
  | [], _, _, h => by cases h
  | e :: E, k, i, h => by
    unfold idF at h
    split at h
    · rename_i hr
      cases h
      exact ⟨e, by omega, by rw [show k + 1 - k - 1 = 0 by omega]; rfl, hr⟩
    · obtain ⟨x, h1, h2, h3⟩ := idF_some h
      exact ⟨x, by omega, by rw [show i - k - 1 = (i - (k + 1) - 1) + 1 by omega]; exact h2, h3⟩
theorem idF_none {r : Ru} : ∀ {E : List En} {k : Nat}, idF k r E = none → ∀ e ∈ E, e.ru ≠ r
  | [], _, _, _, h => by cases h
  | e :: E, k, h, x, hx => by
    unfold idF at h
    split at h
    · cases h
    · rcases List.mem_cons.1 hx with rfl | hx
      · assumption
      · exact idF_none h x hx
/-- A rule stands in order: its parts are earlier ones. -/
inductive EnOk (E : List En) : Nat → En → Prop where
  | one (i : Nat) (b : UInt8) : EnOk E i (En.one b)
  | pair (i l r : Nat) (x y : En) : 0 < l → l ≤ i → 0 < r → r ≤ i → atE E l = some x → atE E r = some y → x.wt.len + y.wt.len ≤ 1152921504606846976 → EnOk E i (En.pair l r x y)
structure EOk (E : List En) : Prop where
  row : ∀ i e, E[i]? = some e → EnOk E i e
theorem EOk.nil : EOk [] := ⟨fun i e h => by simp at h⟩
theorem atE_lt {E : List En} {id : Nat} {e : En} (h : atE E id = some e) : id ≤ E.length := by
  unfold atE at h
  split at h
  · omega
  · rcases Nat.lt_or_ge (id - 1) E.length with h1 | h1
    · omega
    · rw [List.getElem?_eq_none h1] at h; cases h
theorem atE_of {E : List En} {id : Nat} (h : id ≤ E.length) : ∃ e, atE E id = some e := by
  unfold atE
  split
  · exact ⟨_, rfl⟩
  · exact ⟨_, List.getElem?_eq_getElem (by omega)⟩
theorem atE_app {E X : List En} {id : Nat} {e : En} (h : atE E id = some e) : atE (E ++ X) id = some e := by
  have := atE_lt h
  unfold atE at h ⊢
  split
  · rename_i h0; rw [if_pos h0] at h; exact h
  · rename_i h0; rw [if_neg h0] at h
    rw [List.getElem?_append_left (by omega)]
    exact h
theorem EnOk.app {E : List En} {i : Nat} {e : En} (h : EnOk E i e) (X : List En) : EnOk (E ++ X) i e := by
  cases h with
  | one => exact .one ..
  | pair l r x y h1 h2 h3 h4 h5 h6 h7 => exact .pair _ l r x y h1 h2 h3 h4 (atE_app h5) (atE_app h6) h7
theorem EOk.push {E : List En} {e : En} (h : EOk E) (he : EnOk E E.length e) : EOk (E ++ [e]) := by
  refine ⟨fun i x hx => ?_⟩
  rcases Nat.lt_trichotomy i E.length with hi | hi | hi
  · rw [List.getElem?_append_left hi] at hx
    exact (h.row i x hx).app _
  · subst hi
    simp at hx
    subst hx
    exact he.app _
  · rw [List.getElem?_eq_none (by simp; omega)] at hx; cases hx
theorem EnOk.kind {E : List En} {i : Nat} {e : En} (h : EnOk E i e) : e.ru.kind = 1 ∨ e.ru.kind = 2 := by cases h <;> simp [En.one, En.pair, Ru.one, Ru.pair]
def fibL : Nat → Nat
  | 0 => 1
  | 1 => 2
  | n + 2 => fibL n + fibL (n + 1)
theorem fibL_step (n : Nat) : fibL n ≤ fibL (n + 1) := by
  match n with
  | 0 => decide
  | 1 => decide
  | n + 2 => show fibL (n + 2) ≤ fibL (n + 1) + fibL (n + 2); omega
theorem fibL_mono {a b : Nat} (h : a ≤ b) : fibL a ≤ fibL b := by
  induction h with
  | refl => exact Nat.le_refl _
  | step h ih => exact Nat.le_trans ih (fibL_step _)
theorem fibL_near {a b : Nat} (h : near a b = true) : fibL (1 + max a b) ≤ fibL a + fibL b := by
  simp only [near, Bool.and_eq_true, decide_eq_true_eq] at h
  rcases Nat.le_total b a with hab | hab
  · rw [Nat.max_eq_left hab]
    cases a with
    | zero => obtain rfl : b = 0 := by omega
              decide
    | succ a => rw [show 1 + (a + 1) = a + 2 by omega]; show fibL a + fibL (a + 1) ≤ _; have := fibL_mono (show a ≤ b by omega); omega
  · rw [Nat.max_eq_right hab]
    cases b with
    | zero => obtain rfl : a = 0 := by omega
              decide
    | succ b => rw [show 1 + (b + 1) = b + 2 by omega]; show fibL b + fibL (b + 1) ≤ _; have := fibL_mono (show b ≤ a by omega); omega
/-- What is known of an ID is what belongs to its text. -/
structure Fit (id : Nat) (e : En) : Prop where
  wt : e.wt = Wt.of e.t
  len : e.t.length ≤ 1152921504606846976
  pos : 0 < id → 0 < e.t.length
  depth : 0 < id → e.even = true → fibL e.depth ≤ e.t.length
theorem Fit.ok {id : Nat} {e : En} (h : Fit id e) : e.wt.ok := by rw [h.wt]; exact Wt.of_ok _ h.len
theorem Fit.length {id : Nat} {e : En} (h : Fit id e) : e.wt.len = e.t.length := by rw [h.wt]; rfl
theorem fit_unit : Fit 0 En.unit := ⟨Wt.of_nil.symm, by simp [En.unit], fun h => absurd h (by omega), fun h => absurd h (by omega)⟩
theorem EOk.fit {E : List En} (h : EOk E) : ∀ (id : Nat) (e : En), atE E id = some e → Fit id e := by
  intro id
  induction id using Nat.strongRecOn with
  | _ id ih =>
    intro e he
    unfold atE at he
    split at he
    · rename_i h0; subst h0; cases he; exact fit_unit
    · cases h.row _ _ he with
      | one b => exact ⟨(Wt.of_one b).symm, by simp [En.one], fun _ => by simp [En.one], fun _ _ => by simp [En.one, fibL]⟩
      | pair l r x y h1 h2 h3 h4 h5 h6 h7 =>
        have fx := ih l (by omega) x h5
        have fy := ih r (by omega) y h6
        have px := fx.pos h1
        have py := fy.pos h3
        refine ⟨?_, ?_, fun _ => ?_, fun _ hev => ?_⟩
        · show x.wt.join y.wt = Wt.of (x.t ++ y.t)
          rw [fx.wt, fy.wt, Wt.of_append]
        · show (x.t ++ y.t).length ≤ _
          rw [List.length_append]
          have := fx.length; have := fy.length
          omega
        · show 0 < (x.t ++ y.t).length
          rw [List.length_append]; omega
        · have hev : (x.even && y.even && near x.depth y.depth) = true := hev
          simp only [Bool.and_eq_true] at hev
          show fibL (1 + max x.depth y.depth) ≤ (x.t ++ y.t).length
          rw [List.length_append]
          have := fibL_near hev.2
          have := fx.depth h1 hev.1.1
          have := fy.depth h3 hev.1.2
          omega
theorem fib_big : 1152921504606846976 < fibL 87 := by
  have h : ∀ n : Nat, fibL (n + 2) = fibL n + fibL (n + 1) := fun _ => rfl
  have step : ∀ n a b : Nat, fibL n = a → fibL (n + 1) = b → fibL (n + 2) = a + b := fun n a b ha hb => by rw [h, ha, hb]
  have g0 : fibL 0 = 1 := rfl
  have g1 : fibL 1 = 2 := rfl
  have g2 : fibL 2 = 3 := step 0 1 2 g0 g1
  have g3 : fibL 3 = 5 := step 1 2 3 g1 g2
  have g4 : fibL 4 = 8 := step 2 3 5 g2 g3
  have g5 : fibL 5 = 13 := step 3 5 8 g3 g4
  have g6 : fibL 6 = 21 := step 4 8 13 g4 g5
  have g7 : fibL 7 = 34 := step 5 13 21 g5 g6
  have g8 : fibL 8 = 55 := step 6 21 34 g6 g7
  have g9 : fibL 9 = 89 := step 7 34 55 g7 g8
  have g10 : fibL 10 = 144 := step 8 55 89 g8 g9
  have g11 : fibL 11 = 233 := step 9 89 144 g9 g10
  have g12 : fibL 12 = 377 := step 10 144 233 g10 g11
  have g13 : fibL 13 = 610 := step 11 233 377 g11 g12
  have g14 : fibL 14 = 987 := step 12 377 610 g12 g13
  have g15 : fibL 15 = 1597 := step 13 610 987 g13 g14
  have g16 : fibL 16 = 2584 := step 14 987 1597 g14 g15
  have g17 : fibL 17 = 4181 := step 15 1597 2584 g15 g16
  have g18 : fibL 18 = 6765 := step 16 2584 4181 g16 g17
  have g19 : fibL 19 = 10946 := step 17 4181 6765 g17 g18
  have g20 : fibL 20 = 17711 := step 18 6765 10946 g18 g19
  have g21 : fibL 21 = 28657 := step 19 10946 17711 g19 g20
  have g22 : fibL 22 = 46368 := step 20 17711 28657 g20 g21
  have g23 : fibL 23 = 75025 := step 21 28657 46368 g21 g22
  have g24 : fibL 24 = 121393 := step 22 46368 75025 g22 g23
  have g25 : fibL 25 = 196418 := step 23 75025 121393 g23 g24
  have g26 : fibL 26 = 317811 := step 24 121393 196418 g24 g25
  have g27 : fibL 27 = 514229 := step 25 196418 317811 g25 g26
  have g28 : fibL 28 = 832040 := step 26 317811 514229 g26 g27
  have g29 : fibL 29 = 1346269 := step 27 514229 832040 g27 g28
  have g30 : fibL 30 = 2178309 := step 28 832040 1346269 g28 g29
  have g31 : fibL 31 = 3524578 := step 29 1346269 2178309 g29 g30
  have g32 : fibL 32 = 5702887 := step 30 2178309 3524578 g30 g31
  have g33 : fibL 33 = 9227465 := step 31 3524578 5702887 g31 g32
  have g34 : fibL 34 = 14930352 := step 32 5702887 9227465 g32 g33
  have g35 : fibL 35 = 24157817 := step 33 9227465 14930352 g33 g34
  have g36 : fibL 36 = 39088169 := step 34 14930352 24157817 g34 g35
  have g37 : fibL 37 = 63245986 := step 35 24157817 39088169 g35 g36
  have g38 : fibL 38 = 102334155 := step 36 39088169 63245986 g36 g37
  have g39 : fibL 39 = 165580141 := step 37 63245986 102334155 g37 g38
  have g40 : fibL 40 = 267914296 := step 38 102334155 165580141 g38 g39
  have g41 : fibL 41 = 433494437 := step 39 165580141 267914296 g39 g40
  have g42 : fibL 42 = 701408733 := step 40 267914296 433494437 g40 g41
  have g43 : fibL 43 = 1134903170 := step 41 433494437 701408733 g41 g42
  have g44 : fibL 44 = 1836311903 := step 42 701408733 1134903170 g42 g43
  have g45 : fibL 45 = 2971215073 := step 43 1134903170 1836311903 g43 g44
  have g46 : fibL 46 = 4807526976 := step 44 1836311903 2971215073 g44 g45
  have g47 : fibL 47 = 7778742049 := step 45 2971215073 4807526976 g45 g46
  have g48 : fibL 48 = 12586269025 := step 46 4807526976 7778742049 g46 g47
  have g49 : fibL 49 = 20365011074 := step 47 7778742049 12586269025 g47 g48
  have g50 : fibL 50 = 32951280099 := step 48 12586269025 20365011074 g48 g49
  have g51 : fibL 51 = 53316291173 := step 49 20365011074 32951280099 g49 g50
  have g52 : fibL 52 = 86267571272 := step 50 32951280099 53316291173 g50 g51
  have g53 : fibL 53 = 139583862445 := step 51 53316291173 86267571272 g51 g52
  have g54 : fibL 54 = 225851433717 := step 52 86267571272 139583862445 g52 g53
  have g55 : fibL 55 = 365435296162 := step 53 139583862445 225851433717 g53 g54
  have g56 : fibL 56 = 591286729879 := step 54 225851433717 365435296162 g54 g55
  have g57 : fibL 57 = 956722026041 := step 55 365435296162 591286729879 g55 g56
  have g58 : fibL 58 = 1548008755920 := step 56 591286729879 956722026041 g56 g57
  have g59 : fibL 59 = 2504730781961 := step 57 956722026041 1548008755920 g57 g58
  have g60 : fibL 60 = 4052739537881 := step 58 1548008755920 2504730781961 g58 g59
  have g61 : fibL 61 = 6557470319842 := step 59 2504730781961 4052739537881 g59 g60
  have g62 : fibL 62 = 10610209857723 := step 60 4052739537881 6557470319842 g60 g61
  have g63 : fibL 63 = 17167680177565 := step 61 6557470319842 10610209857723 g61 g62
  have g64 : fibL 64 = 27777890035288 := step 62 10610209857723 17167680177565 g62 g63
  have g65 : fibL 65 = 44945570212853 := step 63 17167680177565 27777890035288 g63 g64
  have g66 : fibL 66 = 72723460248141 := step 64 27777890035288 44945570212853 g64 g65
  have g67 : fibL 67 = 117669030460994 := step 65 44945570212853 72723460248141 g65 g66
  have g68 : fibL 68 = 190392490709135 := step 66 72723460248141 117669030460994 g66 g67
  have g69 : fibL 69 = 308061521170129 := step 67 117669030460994 190392490709135 g67 g68
  have g70 : fibL 70 = 498454011879264 := step 68 190392490709135 308061521170129 g68 g69
  have g71 : fibL 71 = 806515533049393 := step 69 308061521170129 498454011879264 g69 g70
  have g72 : fibL 72 = 1304969544928657 := step 70 498454011879264 806515533049393 g70 g71
  have g73 : fibL 73 = 2111485077978050 := step 71 806515533049393 1304969544928657 g71 g72
  have g74 : fibL 74 = 3416454622906707 := step 72 1304969544928657 2111485077978050 g72 g73
  have g75 : fibL 75 = 5527939700884757 := step 73 2111485077978050 3416454622906707 g73 g74
  have g76 : fibL 76 = 8944394323791464 := step 74 3416454622906707 5527939700884757 g74 g75
  have g77 : fibL 77 = 14472334024676221 := step 75 5527939700884757 8944394323791464 g75 g76
  have g78 : fibL 78 = 23416728348467685 := step 76 8944394323791464 14472334024676221 g76 g77
  have g79 : fibL 79 = 37889062373143906 := step 77 14472334024676221 23416728348467685 g77 g78
  have g80 : fibL 80 = 61305790721611591 := step 78 23416728348467685 37889062373143906 g78 g79
  have g81 : fibL 81 = 99194853094755497 := step 79 37889062373143906 61305790721611591 g79 g80
  have g82 : fibL 82 = 160500643816367088 := step 80 61305790721611591 99194853094755497 g80 g81
  have g83 : fibL 83 = 259695496911122585 := step 81 99194853094755497 160500643816367088 g81 g82
  have g84 : fibL 84 = 420196140727489673 := step 82 160500643816367088 259695496911122585 g82 g83
  have g85 : fibL 85 = 679891637638612258 := step 83 259695496911122585 420196140727489673 g83 g84
  have g86 : fibL 86 = 1100087778366101931 := step 84 420196140727489673 679891637638612258 g84 g85
  have g87 : fibL 87 = 1779979416004714189 := step 85 679891637638612258 1100087778366101931 g85 g86
  omega
theorem Fit.deep {id : Nat} {e : En} (h : Fit id e) (hi : 0 < id) (he : e.even = true) : e.depth < 87 := by
  rcases Nat.lt_or_ge e.depth 87 with h1 | h1
  · exact h1
  · have := fibL_mono h1
    have := h.depth hi he
    have := h.len
    have := fib_big
    omega
/-- The store is at least as great. -/
def Ext (E E' : List En) : Prop := ∃ X, E' = E ++ X
theorem Ext.refl (E : List En) : Ext E E := ⟨[], by simp⟩
theorem Ext.trans {A B C : List En} (h : Ext A B) (k : Ext B C) : Ext A C := by
  obtain ⟨X, rfl⟩ := h
  obtain ⟨Y, rfl⟩ := k
  exact ⟨X ++ Y, by simp⟩
theorem Ext.len {A B : List En} (h : Ext A B) : A.length ≤ B.length := by obtain ⟨X, rfl⟩ := h; simp
theorem Ext.at_ {A B : List En} (h : Ext A B) {id : Nat} {e : En} (he : atE A id = some e) : atE B id = some e := by obtain ⟨X, rfl⟩ := h; exact atE_app he
theorem one_only {E : List En} {i : Nat} {x : En} {b : UInt8} (h : EnOk E i x) (hr : x.ru = (En.one b).ru) : x = En.one b := by
  cases h with
  | one b' =>
    simp only [En.one, Ru.one, Ru.mk.injEq, true_and, and_true] at hr
    have : b' = b := UInt8.toNat_inj.1 (by omega)
    rw [this]
  | pair => simp [En.one, En.pair, Ru.one, Ru.pair] at hr
theorem pair_only {E : List En} {i : Nat} {x a b : En} {l r : Nat} (h : EnOk E i x) (ha : atE E l = some a) (hb : atE E r = some b) (hr : x.ru = (En.pair l r a b).ru) : x = En.pair l r a b := by
  cases h with
  | one b' => simp [En.one, En.pair, Ru.one, Ru.pair] at hr
  | pair l' r' x' y' h1 h2 h3 h4 h5 h6 h7 =>
    simp only [En.pair, Ru.pair, Ru.mk.injEq, true_and, and_true] at hr
    obtain ⟨e1, e2⟩ := hr
    have e1 : l' = l := by omega
    have e2 : r' = r := by omega
    subst e1 e2
    rw [ha] at h5; rw [hb] at h6
    cases h5; cases h6
    rfl
/-- A rule is looked for, and added where it is not there; none where there is no room. -/
def addR (m : Nat) (E : List En) (e : En) : List En × Option Nat :=
  match idOf E e.ru with
  | some i => (E, some i)
  | none => if m ≤ E.length then (E, none) else (E ++ [e], some (E.length + 1))
/-- What a call does to the rules: it adds at most c, and gives an ID of which `good` holds, or finds no room. -/
structure Out (m : Nat) (E : List En) (c : Nat) (good : List En → Nat → Prop) (o : List En × Option Nat) : Prop where
  ok : EOk o.1
  ext : Ext E o.1
  len : o.1.length ≤ E.length + c
  full : o.2 = none → m ≤ o.1.length
  good : ∀ id, o.2 = some id → good o.1 id
theorem Out.relax {m c c' : Nat} {E : List En} {g g' : List En → Nat → Prop} {o : List En × Option Nat} (h : Out m E c g o) (hc : c ≤ c') (hg : ∀ id, g o.1 id → g' o.1 id) : Out m E c' g' o :=
  ⟨h.ok, h.ext, by have := h.len; omega, h.full, fun id hi => hg id (h.good id hi)⟩
theorem Out.next {m c c1 : Nat} {E E1 : List En} {g : List En → Nat → Prop} {o : List En × Option Nat} (h : Out m E1 c g o) (he : Ext E E1) (hl : E1.length ≤ E.length + c1) : Out m E (c1 + c) g o :=
  ⟨h.ok, he.trans h.ext, by have := h.len; omega, h.full, h.good⟩
theorem Out.fail {m c c' : Nat} {E E' : List En} {g g' : List En → Nat → Prop} (h : Out m E c g (E', none)) (hc : c ≤ c') : Out m E c' g' (E', none) :=
  ⟨h.ok, h.ext, by have := h.len; omega, h.full, fun id hi => by cases hi⟩
theorem Out.same {m c : Nat} {E : List En} {g : List En → Nat → Prop} {id : Nat} (h : EOk E) (hg : g E id) : Out m E c g (E, some id) :=
  ⟨h, .refl _, by simp, fun h => by (cases h), fun i hi => by cases hi; exact hg⟩
theorem addR_out {m : Nat} {E : List En} {e : En} (h : EOk E) (he : EnOk E E.length e) (hu : ∀ i x, EnOk E i x → x.ru = e.ru → x = e) : Out m E 1 (fun E' id => 0 < id ∧ atE E' id = some e) (addR m E e) := by
  unfold addR
  split
  · rename_i i hi
    obtain ⟨x, h1, h2, h3⟩ := idF_some hi
    rw [show i - 0 - 1 = i - 1 by omega] at h2
    have := hu _ _ (h.row _ _ h2) h3
    subst this
    exact .same h ⟨by omega, by unfold atE; rw [if_neg (by omega)]; exact h2⟩
  · split
    · exact ⟨h, .refl _, by simp, fun _ => by assumption, fun i hi => by cases hi⟩
    · exact ⟨h.push he, ⟨_, rfl⟩, by simp, fun h => by (cases h), fun i hi => by cases hi; exact ⟨by omega, by simp [atE]⟩⟩
/-- A balanced text of a known ID, with its depth. -/
structure Tx (E : List En) (id : Nat) (t : List UInt8) (d : Nat) : Prop where
  pos : 0 < id
  at_ : ∃ z, atE E id = some z ∧ z.t = t ∧ z.depth = d ∧ z.even = true
theorem Tx.ext {E E' : List En} {id d : Nat} {t : List UInt8} (h : Tx E id t d) (he : Ext E E') : Tx E' id t d := by
  obtain ⟨p, z, h1, h2⟩ := h
  exact ⟨p, z, he.at_ h1, h2⟩
theorem Tx.len {E : List En} {id d : Nat} {t : List UInt8} (h : Tx E id t d) (k : EOk E) : 0 < t.length ∧ t.length ≤ 1152921504606846976 ∧ d < 87 := by
  obtain ⟨p, z, h1, rfl, rfl, h4⟩ := h
  have f := k.fit id z h1
  exact ⟨f.pos p, f.len, f.deep p h4⟩
theorem letter_out {m : Nat} {E : List En} (h : EOk E) (b : UInt8) : Out m E 1 (fun E' id => Tx E' id [b] 0) (addR m E (En.one b)) :=
  (addR_out h (.one _ b) fun _ _ hx hr => one_only hx hr).relax (Nat.le_refl _) fun _ hg => ⟨hg.1, _, hg.2, rfl, rfl, rfl⟩
theorem pair_out {m : Nat} {E : List En} {l r dl dr : Nat} {tl tr : List UInt8} {x y : En} (h : EOk E) (hl : Tx E l tl dl) (hr : Tx E r tr dr) (hx : atE E l = some x) (hy : atE E r = some y) (hd : near dl dr = true) (hs : tl.length + tr.length ≤ 1152921504606846976) :
    Out m E 1 (fun E' id => Tx E' id (tl ++ tr) (1 + max dl dr)) (addR m E (En.pair l r x y)) := by
  obtain ⟨pl, x', h1, rfl, rfl, ex⟩ := hl
  obtain ⟨pr, y', h2, rfl, rfl, ey⟩ := hr
  obtain rfl : x' = x := by rw [h1] at hx; injection hx
  obtain rfl : y' = y := by rw [h2] at hy; injection hy
  have fx := h.fit l x' h1
  have fy := h.fit r y' h2
  refine (addR_out h (.pair _ l r x' y' pl (atE_lt h1) pr (atE_lt h2) h1 h2 ?_) fun _ _ hz hr => pair_only hz h1 h2 hr).relax (Nat.le_refl _) fun _ hg => ⟨hg.1, _, hg.2, rfl, rfl, ?_⟩
  · rw [fx.length, fy.length]; omega
  · show (x'.even && y'.even && near x'.depth y'.depth) = true
    rw [ex, ey, hd]; rfl
/-- A balanced text is a letter, or a pair of two balanced texts of nearly the same depth. -/
theorem Tx.parts {E : List En} {id d : Nat} {t : List UInt8} (h : Tx E id t d) (k : EOk E) : ∃ z, atE E id = some z ∧
    ((∃ b, t = [b] ∧ d = 0 ∧ z = En.one b) ∨ ∃ l r tl tr dl dr x y, Tx E l tl dl ∧ Tx E r tr dr ∧ near dl dr = true ∧ t = tl ++ tr ∧ d = 1 + max dl dr ∧ z = En.pair l r x y ∧ atE E l = some x ∧ atE E r = some y ∧ l < id ∧ r < id) := by
  obtain ⟨p, z, h1, rfl, rfl, h4⟩ := h
  refine ⟨z, h1, ?_⟩
  have h5 := h1
  unfold atE at h5
  rw [if_neg (by omega)] at h5
  cases k.row _ _ h5 with
  | one b => exact .inl ⟨b, rfl, rfl, rfl⟩
  | pair l r x y g1 g2 g3 g4 g5 g6 g7 =>
    have hev : (x.even && y.even && near x.depth y.depth) = true := h4
    simp only [Bool.and_eq_true] at hev
    exact .inr ⟨l, r, x.t, y.t, x.depth, y.depth, x, y, ⟨g1, x, g5, rfl, rfl, hev.1.1⟩, ⟨g3, y, g6, rfl, rfl, hev.1.2⟩, hev.2, rfl, rfl, rfl, g5, g6, by omega, by omega⟩
/-- The depth of the balanced text of n letters. -/
def dpN (n : Nat) : Nat := if h : n ≤ 1 then 0 else 1 + max (dpN (n / 2)) (dpN (n - n / 2))
termination_by n
theorem dpN_step : ∀ n : Nat, dpN n ≤ dpN (n + 1) ∧ dpN (n + 1) ≤ dpN n + 1 := by
  intro n
  induction n using Nat.strongRecOn with
  | _ n ih =>
    by_cases h1 : n ≤ 1
    · have h : n = 0 ∨ n = 1 := by omega
      rcases h with rfl | rfl
      · simp [dpN]
      · have h2 : dpN 2 = 1 := by rw [dpN]; simp [dpN]
        have h3 : dpN 1 = 0 := by rw [dpN]; simp
        rw [h2, h3]; omega
    · have mono : ∀ a b : Nat, a ≤ b → b ≤ a + 1 → b ≤ n → dpN a ≤ dpN b ∧ dpN b ≤ dpN a + 1 := fun a b h2 h3 h4 => by
        rcases Nat.lt_or_ge a b with h5 | h5
        · obtain rfl : b = a + 1 := by omega
          exact ih a (by omega)
        · obtain rfl : b = a := by omega
          omega
      have e1 : dpN n = 1 + max (dpN (n / 2)) (dpN (n - n / 2)) := by rw [dpN]; simp [h1]
      have e2 : dpN (n + 1) = 1 + max (dpN ((n + 1) / 2)) (dpN (n + 1 - (n + 1) / 2)) := by rw [dpN]; simp [show ¬ n + 1 ≤ 1 by omega]
      have m1 := mono (n / 2) (n - n / 2) (by omega) (by omega) (by omega)
      have m2 := mono ((n + 1) / 2) (n + 1 - (n + 1) / 2) (by omega) (by omega) (by omega)
      have m3 := mono (n - n / 2) (n + 1 - (n + 1) / 2) (by omega) (by omega) (by omega)
      omega
theorem dpN_near (n : Nat) : near (dpN (n / 2)) (dpN (n - n / 2)) = true := by
  have h : n - n / 2 = n / 2 ∨ n - n / 2 = n / 2 + 1 := by omega
  rcases h with h | h <;> rw [h]
  · simp [near]
  · have := dpN_step (n / 2)
    simp [near]; omega
theorem dpN_one : dpN 1 = 0 := by rw [dpN]; simp
theorem dpN_two {n : Nat} (h : ¬ n ≤ 1) : dpN n = 1 + max (dpN (n / 2)) (dpN (n - n / 2)) := by rw [dpN]; simp [h]
end Go.Proofs.Ytphpfkhpihlalaa
