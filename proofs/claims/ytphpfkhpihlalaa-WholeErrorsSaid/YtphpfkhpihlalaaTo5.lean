/- The steps of build at texts that stand in a store. -/
import Derived.Test.YtphpfkhpihlalaaTo4
import Derived.Test.YtphpfkhpihlalaaNew
namespace Go.Proofs.Ytphpfkhpihlalaa
open Go.RowKit
/-- The texts made so far, and the store of them; T says which texts they are. -/
def BI (T : Nat → List ByteArray → Prop) (p k : Nat) (xs : List (Nat × ByteArray)) (F : Nat → Prop) (w : World) : Prop :=
  ∃ E, EOk E ∧ StAt w F p 1048576 E ∧ E.length ≤ 34000 * k ∧ xs.length ≤ k ∧ T k (xs.map (·.2)) ∧ ∀ x ∈ xs, x.2.size ≤ 400 ∧ ∃ d, TxO E x.1 x.2.data.toList d
/-- What plain and made do at a step. -/
def StepOk (p : Nat) (I : Nat → List (Nat × ByteArray) → (Nat → Prop) → World → Prop) (k : Nat) (xs : List (Nat × ByteArray)) (F : Nat → Prop) (w : World) (m : Mk) : Prop :=
  ∀ (A8 : Option Addr) (c8 : Nat), Reads w w.heap.size 1 A8 xs.length (txC xs) →
    Calls Try.prog 76 #[.slice A8 xs.length c8, m.val] w fun e w1 => Below w.heap.size w w1 ∧ ((e = .returned (.tuple #[.string ⟨#[]⟩, .bool false]) ∧ False) ∨ ∃ t, e = .returned (.tuple #[.string t, .bool true]) ∧
      ∀ (A7 : Option Addr) (c7 : Nat) (A8 : Option Addr) (c8 : Nat), Reads w1 w1.heap.size 1 A7 xs.length (idC xs) → Reads w1 w1.heap.size 1 A8 xs.length (txC xs) →
        Calls Try.prog 77 #[ptr p, .slice A7 xs.length c7, .slice A8 xs.length c8, m.val] w1 fun e w2 => ∃ (id : Nat) (F2 : Nat → Prop), e = .returned (.tuple #[.int .i64 (id : Int), .nilIface]) ∧ (0 < id ↔ 0 < t.size) ∧ Kept F w1 w2 ∧ (∀ i, i < w1.heap.size → F2 i → F i) ∧ I (k + 1) (xs ++ [(id, t)]) F2 w2)
theorem bi_fin {T : Nat → List ByteArray → Prop} {p k c : Nat} {xs : List (Nat × ByteArray)} {F : Nat → Prop} {w w2 : World} {E : List En} {t : ByteArray} {e : Ending} {good : List En → Nat → Prop} (hl : E.length ≤ 34000 * k) (hk : k < 30) (hx : xs.length ≤ k) (ht : ∀ x ∈ xs, x.2.size ≤ 400 ∧ ∃ d, TxO E x.1 x.2.data.toList d)
    (hc : c ≤ 34000) (hT : T (k + 1) (xs.map (·.2) ++ [t])) (hs : t.size ≤ 400) (hg : ∀ E' id, good E' id → ∃ d, TxO E' id t.data.toList d) (h : Ids (AvR w F p 1048576 E c good) e w2) :
    ∃ (id : Nat) (F2 : Nat → Prop), e = .returned (.tuple #[.int .i64 (id : Int), .nilIface]) ∧ (0 < id ↔ 0 < t.size) ∧ Kept F w w2 ∧ (∀ i, i < w.heap.size → F2 i → F i) ∧ BI T p (k + 1) (xs ++ [(id, t)]) F2 w2 := by
  obtain ⟨o, rfl, E1, o1, k1, st1⟩ := h
  have hlen : E1.length ≤ E.length + c := o1.len
  cases o with
  | none =>
    have : 1048576 ≤ E1.length := o1.full rfl
    omega
  | some id =>
    obtain ⟨d, hd⟩ := hg _ _ (o1.good id rfl)
    have hd : TxO E1 id t.data.toList d := hd
    refine ⟨id, NewF F w w2, rfl, ?_, k1, newF_old, E1, o1.ok, st1, by omega, by rw [List.length_append]; simp; omega, by rw [List.map_append]; exact hT, fun x hx' => ?_⟩
    · have h1 := (hd.len o1.ok).2.2
      have h2 : t.data.toList = [] ↔ t.size = 0 := by
        rw [← List.length_eq_zero_iff]
        rfl
      rw [h2] at h1
      omega
    · rcases List.mem_append.1 hx' with hx' | hx'
      · obtain ⟨h1, d1, h2⟩ := ht x hx'
        exact ⟨h1, d1, h2.ext o1.ext⟩
      · rw [List.mem_singleton] at hx'
        subst hx'
        exact ⟨hs, d, hd⟩
theorem step_text {T : Nat → List ByteArray → Prop} {p k : Nat} {xs : List (Nat × ByteArray)} {F : Nat → Prop} {w : World} {m : Mk} (hi : BI T p k xs F w) (hk : k < 30) (h0 : m.kd % 6 = 0) (h1 : m.tx.size ≤ 60) (hT : T (k + 1) (xs.map (·.2) ++ [m.tx])) : StepOk p (BI T p) k xs F w m := by
  intro A8 c8 _
  obtain ⟨E, hE, st, hl, hx, _, ht⟩ := hi
  obtain ⟨kd, ka, kb, kn, km, tx⟩ := m
  refine (plain_text kd ka kb kn km tx A8 xs.length c8 w h0 h1).mono ?_
  rintro _ w1 ⟨rfl, hb⟩
  refine ⟨hb, .inr ⟨tx, rfl, fun A7 c7 A8 c8 _ _ => ?_⟩⟩
  have st1 := st.below hb
  refine (made_text p kd ka kb kn km tx A7 A8 xs.length c7 xs.length c8 w1 (R := AvR w1 F p 1048576 E (2 * tx.size) (fun E' id => TxO E' id tx.data.toList (dpN tx.size))) h0 fun W c hW hc => ?_).mono fun e w2 he => bi_fin hl hk hx ht (by simp only at h1; omega) hT (by simp only at h1; omega) (fun E' id h => ⟨_, h⟩) he
  have hB : Below w1.heap.size w1 (Lib.bytesWorld W 5 tx) := hW.trans ((bytes_below W 5 tx).mono hW.size)
  have stB := st1.below hB
  exact (Text_any hE stB (A := some ⟨W.heap.size, 0, none⟩) (n := tx.size) (c := c) (bs := tx.data.toList) (fun _ => ⟨_, _, rfl, bytes_slB W 5 tx F fun i hi => (st1.below hW).lt i hi⟩) rfl hc (by simp only at h1; omega)).mono fun e w2 he => (he.over hB).ids
theorem xs_idC {xs : List (Nat × ByteArray)} {i : Nat} {x : Nat × ByteArray} (h : xs[i]? = some x) : (idC xs)[i]? = some (.int .i64 (x.1 : Int)) := by unfold idC; rw [List.getElem?_map, h]; rfl
theorem xs_txC {xs : List (Nat × ByteArray)} {i : Nat} {x : Nat × ByteArray} (h : xs[i]? = some x) : (txC xs)[i]? = some (.string x.2) := by unfold txC; rw [List.getElem?_map, h]; rfl
theorem xs_pos {xs : List (Nat × ByteArray)} {i : Nat} {x : Nat × ByteArray} (h : xs[i]? = some x) : 0 < xs.length := by
  rcases Nat.eq_zero_or_pos xs.length with h0 | h0
  · rw [List.length_eq_zero_iff] at h0; subst h0; simp at h
  · exact h0
theorem app_list (x y : ByteArray) : (x ++ y).data.toList = x.data.toList ++ y.data.toList := by simp
theorem cut_list (x : ByteArray) (f q : Nat) : (x.extract f (f + q)).data.toList = (x.data.toList.drop f).take q := by
  rw [ByteArray.data_extract, Array.toList_extract, List.extract_eq_take_drop]
  simp
theorem step_join {T : Nat → List ByteArray → Prop} {p k : Nat} {xs : List (Nat × ByteArray)} {F : Nat → Prop} {w : World} {m : Mk} (hi : BI T p k xs F w) (hk : k < 30) (h0 : m.kd % 6 = 1) (i j : Nat) (x y : Nat × ByteArray) (h1 : m.ka % (xs.length : Int) = (i : Int)) (h2 : m.kb % (xs.length : Int) = (j : Int)) (hxi : xs[i]? = some x) (hyj : xs[j]? = some y) (hs : x.2.size + y.2.size ≤ 400)
    (hT : T (k + 1) (xs.map (·.2) ++ [x.2 ++ y.2])) : StepOk p (BI T p) k xs F w m := by
  intro A8 c8 hr8
  obtain ⟨E, hE, st, hl, hx, _, ht⟩ := hi
  obtain ⟨kd, ka, kb, kn, km, tx⟩ := m
  have hpos := xs_pos hxi
  obtain ⟨g, o, rfl, hg, hc⟩ := hr8.form hpos
  refine (plain_join kd ka kb kn km tx g o xs.length c8 w x.2 y.2 h0 hpos (by omega) i j h1 h2 (hc i _ (xs_txC hxi)) (hc j _ (xs_txC hyj)) hg hs).mono ?_
  rintro _ w1 ⟨rfl, hb⟩
  refine ⟨hb, .inr ⟨x.2 ++ y.2, rfl, fun A7 c7 A8 c8 hr7 hr8 => ?_⟩⟩
  obtain ⟨g1, o1, rfl, hg1, hc1⟩ := hr7.form hpos
  obtain ⟨g2, o2, rfl, hg2, hc2⟩ := hr8.form hpos
  have st1 := st.below hb
  obtain ⟨s1, d1, x1⟩ := ht x (List.mem_of_getElem? hxi)
  obtain ⟨s2, d2, x2⟩ := ht y (List.mem_of_getElem? hyj)
  have hgap := gap_lt hE x1 x2
  exact (made_join p kd ka kb kn km tx g1 o1 g2 o2 xs.length c7 c8 w1 (R := AvR w1 F p 1048576 E (3 * gap d1 d2 + 1) (joGood x.2.data.toList y.2.data.toList d1 d2)) x.1 y.1 x.2 h0 hpos (by omega) i j h1 h2 (hc1 i _ (xs_idC hxi)) (hc1 j _ (xs_idC hyj)) (hc2 i _ (xs_txC hxi)) hg1 hg2
    fun W hW => (Join_any hE (st1.below hW) x1 x2 (by show x.2.size + y.2.size ≤ _; omega)).mono fun e w2 he => (he.over hW).ids).mono fun e w2 he =>
      bi_fin hl hk hx ht (by omega) hT (by rw [ByteArray.size_append]; exact hs) (fun E' id ⟨d, h, _⟩ => ⟨d, by rw [app_list]; exact h⟩) he
theorem step_sect {T : Nat → List ByteArray → Prop} {p k : Nat} {xs : List (Nat × ByteArray)} {F : Nat → Prop} {w : World} {m : Mk} (hi : BI T p k xs F w) (hk : k < 30) (h0 : m.kd % 6 = 3) (i j : Nat) (x y : Nat × ByteArray) (h1 : m.ka % (xs.length : Int) = (i : Int)) (h2 : m.kb % (xs.length : Int) = (j : Int)) (hxi : xs[i]? = some x) (hyj : xs[j]? = some y)
    (f q : Nat) (h3 : m.kn % ((x.2.size : Int) + 1) = (f : Int)) (h4 : m.km % ((x.2.size : Int) - (f : Int) + 1) = (q : Int)) (hT : T (k + 1) (xs.map (·.2) ++ [x.2.extract f (f + q)])) : StepOk p (BI T p) k xs F w m := by
  intro A8 c8 hr8
  obtain ⟨E, hE, st, hl, hx, _, ht⟩ := hi
  obtain ⟨kd, ka, kb, kn, km, tx⟩ := m
  have hpos := xs_pos hxi
  obtain ⟨g, o, rfl, hg, hc⟩ := hr8.form hpos
  obtain ⟨s1, d1, x1⟩ := ht x (List.mem_of_getElem? hxi)
  have hf : f ≤ x.2.size := by have := Int.emod_lt_of_pos kn (show (0 : Int) < (x.2.size : Int) + 1 by omega); simp only at h3; omega
  have hq : f + q ≤ x.2.size := by have := Int.emod_lt_of_pos km (show (0 : Int) < (x.2.size : Int) - (f : Int) + 1 by omega); simp only at h4; omega
  refine (plain_sect kd ka kb kn km tx g o xs.length c8 w x.2 y.2 h0 hpos (by omega) i j h1 h2 (hc i _ (xs_txC hxi)) (hc j _ (xs_txC hyj)) hg s1 f q h3 h4 hf).mono ?_
  rintro _ w1 ⟨rfl, hb⟩
  refine ⟨hb, .inr ⟨x.2.extract f (f + q), rfl, fun A7 c7 A8 c8 hr7 hr8 => ?_⟩⟩
  obtain ⟨g1, o1, rfl, hg1, hc1⟩ := hr7.form hpos
  obtain ⟨g2, o2, rfl, hg2, hc2⟩ := hr8.form hpos
  have st1 := st.below hb
  exact (made_sect p kd ka kb kn km tx g1 o1 g2 o2 xs.length c7 c8 w1 (R := AvR w1 F p 1048576 E 1480 (fun E' i => ∃ r, TxO E' i ((x.2.data.toList.drop f).take q) r)) x.1 y.1 x.2 h0 hpos (by omega) i j h1 h2 (hc1 i _ (xs_idC hxi)) (hc1 j _ (xs_idC hyj)) (hc2 i _ (xs_txC hxi)) hg1 hg2 s1 f q h3 h4 hf
    fun W hW => (Section_any hE (st1.below hW) x1 f q hq).mono fun e w2 he => (he.over hW).ids).mono fun e w2 he =>
      bi_fin hl hk hx ht (by omega) hT (by rw [ByteArray.size_extract]; omega) (fun E' id ⟨d, h⟩ => ⟨d, by rw [cut_list]; exact h⟩) he
theorem bi_all {T : Nat → List ByteArray → Prop} {p : Nat} {L : List Mk} (h : ∀ {k xs F w m}, BI T p k xs F w → L[k]? = some m → k < 30 → StepOk p (BI T p) k xs F w m) : BdI p (BI T p) L :=
  ⟨fun ⟨_, _, st, _⟩ => st.lt, fun ⟨E, hE, st, rest⟩ hk hs => ⟨E, hE, st.keep hk (fun _ h => h) (fun i hi => Nat.lt_of_lt_of_le (st.lt i hi) hs), rest⟩, fun hi hm hk => h hi hm hk⟩
set_option maxRecDepth 100000 in
theorem begin_walk (A : Option Addr) (L : List Mk) (n c : Nat) (w : World) (T : Nat → List ByteArray → Prop) (hn : L.length = n) (hn1 : n ≤ 1048576) (hA : ArgMk w (fun _ => False) A L) (hT : T 0 [])
    (H : ∀ {p k xs F w m}, BI T p k xs F w → L[k]? = some m → k < 30 → StepOk p (BI T p) k xs F w m) :
    Calls Try.prog 22 #[.slice A n c] w fun e w' => ∃ p xs v7 v8 F1 F w1, e = .returned (.tuple #[ptr p, v7, v8, .bool true]) ∧ BdS w1 F (BI T p) (min n 30) xs v7 v8 F1 w' ∧ Below w.heap.size w w1 ∧ (∀ i, F i → w.heap.size ≤ i) := by
  have hw := new_any 1048576 w
  rw [show (max 0 (min (1048576 : Int) 1048576)).toNat = 1048576 by decide] at hw
  unfold ptr at hw
  go_enter Try.func22, Try.ntmps22
  go_wp2_with fail
  refine hw.mono ?_
  rintro _ w1 ⟨p, hp, rfl, hb1, hst⟩
  have hb := build_walk p A L n c w1 (fun i => w.heap.size ≤ i ∧ i < w1.heap.size) (BI T p) hn hn1 (fun i m hi => by
    obtain ⟨g, o, e1, e2, e3, e4⟩ := hA i m hi
    exact ⟨g, o, e1, Nat.lt_of_lt_of_le e2 hb1.size, by omega, fun j u hu => (hb1.cell (p := ⟨g, o + i * 6 + j, none⟩) e2).trans (e4 j u hu)⟩) (bi_all H) ⟨[], EOk.nil, hst, by simp, by simp, hT, by simp⟩
  unfold ptr at hb
  clear hw hst H hA hT hp
  go_wp2_with fail
  refine hb.mono ?_
  rintro _ w2 ⟨xs, v7, v8, F1, rfl, hS⟩
  have HS := Lib.hid hS
  have HB := Lib.hid hb1
  clear hb hS hb1
  go_wp2_with fail
  refine bodyPost_ret (v := .tuple #[ptr p, v7, v8, .bool true]) (by simp [results, Try.results22, go_sem, ptr]) rfl ?_
  exact ⟨p, xs, v7, v8, F1, _, w1, rfl, HS.out, HB.out, fun i h => h.1⟩
end Go.Proofs.Ytphpfkhpihlalaa
