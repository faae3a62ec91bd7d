/- The reference's rows in memory; the walks of its Find and put. -/
import Derived.Test.YtmondfckpgjikaaRValid
import Derived.IntWalk
namespace Go.Proofs.Ytmondfckpgjikaa
open Go.RowKit Go.WideMaps
def strV (l : List UInt8) : Value := .string ⟨l.toArray⟩
theorem strV_of (s : ByteArray) : strV s.data.toList = .string s := by unfold strV; simp
def rowV (r : Row) : List Value := [strV r.name, .int .i64 r.n, .bool r.tag]
def cellsR (l : List Row) : List Value := l.flatMap rowV
theorem cellsR_len (l : List Row) : (cellsR l).length = l.length * 3 := by
  induction l with
  | nil => rfl
  | cons r t ih => simp only [cellsR, List.flatMap_cons, List.length_append, List.length_cons] at ih ⊢; rw [ih]; simp [rowV]; omega
theorem cellsR_append (a b : List Row) : cellsR (a ++ b) = cellsR a ++ cellsR b := by simp [cellsR]
theorem cellsR_at (l : List Row) (k : Nat) (hk : k < l.length) : (cellsR l)[k * 3]? = some (strV l[k].name) ∧ (cellsR l)[k * 3 + 1]? = some (.int .i64 l[k].n) ∧ (cellsR l)[k * 3 + 2]? = some (.bool l[k].tag) := by
  have e : l = l.take k ++ l[k] :: l.drop (k + 1) := by rw [← List.drop_eq_getElem_cons hk, List.take_append_drop]
  have h : cellsR l = cellsR (l.take k) ++ (rowV l[k] ++ cellsR (l.drop (k + 1))) := by
    conv => lhs; rw [e]
    rw [cellsR_append]; rfl
  have hl : (cellsR (l.take k)).length = k * 3 := by rw [cellsR_len, List.length_take]; congr 1; omega
  rw [h]
  refine ⟨?_, ?_, ?_⟩
  · rw [List.getElem?_append_right (by omega), hl, Nat.sub_self]; rfl
  · rw [List.getElem?_append_right (by omega), hl, Nat.add_sub_cancel_left]; rfl
  · rw [List.getElem?_append_right (by omega), hl, Nat.add_sub_cancel_left]; rfl
theorem cellsR_take (l : List Row) (k : Nat) : (cellsR l).take (k * 3) = cellsR (l.take k) := by
  by_cases hk : k ≤ l.length
  · have hl : (cellsR (l.take k)).length = k * 3 := by rw [cellsR_len, List.length_take]; congr 1; omega
    conv => lhs; rw [← List.take_append_drop k l, cellsR_append]
    rw [← hl, List.take_left]
  · rw [List.take_of_length_le (by rw [cellsR_len]; omega), List.take_of_length_le (by omega)]
theorem cellsR_drop (l : List Row) (k : Nat) : (cellsR l).drop (k * 3) = cellsR (l.drop k) := by
  by_cases hk : k ≤ l.length
  · have hl : (cellsR (l.take k)).length = k * 3 := by rw [cellsR_len, List.length_take]; congr 1; omega
    conv => lhs; rw [← List.take_append_drop k l, cellsR_append]
    rw [← hl, List.drop_left]
  · rw [List.drop_of_length_le (by rw [cellsR_len]; omega), List.drop_of_length_le (by omega)]; rfl
theorem cellsR_one (l : List Row) : ∀ u ∈ cellsR l, u.oneCell' = true := by
  intro u hu
  simp only [cellsR, List.mem_flatMap, rowV] at hu
  obtain ⟨r, _, hr⟩ := hu
  simp at hr
  rcases hr with rfl | rfl | rfl <;> rfl
/-- The address written out, for rows of any number of cells. -/
theorem Reads.formN {w : World} {B n size : Nat} {A : Option Addr} {xs : List Value} (h : Reads w B size A n xs) (hn : 0 < n) (hs : 0 < size) :
    ∃ b o, A = some ⟨b, o, none⟩ ∧ b < B ∧ ∀ k u, xs[k]? = some u → w.cell? ⟨b, o + k, none⟩ = some u := by
  obtain ⟨ad, rfl, hb, hc⟩ := h.2 hn
  obtain ⟨b, o, spot⟩ := ad
  have hl : 0 < xs.length := by rw [h.1]; exact Nat.mul_pos hn hs
  have hspot : spot = none := by simpa [Addr.add] using World.cell?_spot (hc 0 _ (List.getElem?_eq_getElem hl))
  subst hspot
  exact ⟨b, o, rfl, hb, fun k u hu => by rw [← addr_add]; exact hc k u hu⟩
theorem Reads.takeN {w : World} {B n k size : Nat} {A : Option Addr} {xs : List Value} (h : Reads w B size A n xs) (hk : k ≤ n) : Reads w B size A k (xs.take (k * size)) := by
  have hks := Nat.mul_le_mul_right size hk
  refine ⟨by have := h.1; simp; omega, fun hn => ?_⟩
  obtain ⟨ad, e, hb, hc⟩ := h.2 (by omega)
  exact ⟨ad, e, hb, fun j u hu => hc j u (by rw [List.getElem?_take] at hu; split at hu; exact hu; cases hu)⟩
theorem less_before : ∀ a b : List UInt8, Op.bytesLess a b = bytesBefore a b
  | [], [] => rfl
  | [], _ :: _ => rfl
  | _ :: _, [] => rfl
  | a :: x, b :: y => by simp only [Op.bytesLess, bytesBefore, less_before x y]
/-- Where a name is, or would be. -/
def idxR (nm : List UInt8) : List Row → Nat
  | [] => 0
  | r :: t => if bytesBefore r.name nm = true then idxR nm t + 1 else 0
theorem idxR_le (nm : List UInt8) : ∀ l : List Row, idxR nm l ≤ l.length
  | [] => Nat.le_refl _
  | r :: t => by simp only [idxR]; split <;> simp; have := idxR_le nm t; omega
theorem idxR_step (nm : List UInt8) : ∀ (l : List Row) (k : Nat) (_ : ∀ j (hj : j < l.length), j < k → bytesBefore l[j].name nm = true) (hk : k < l.length), bytesBefore l[k].name nm = false → idxR nm l = k
  | [], k, _, hk, _ => by simp at hk
  | r :: t, 0, _, _, h => by simp at h; simp [idxR, h]
  | r :: t, k + 1, ha, hk, h => by
    have h0 := ha 0 (by simp) (by omega)
    simp at h0
    simp only [idxR, h0, if_true]
    rw [idxR_step nm t k (fun j hj hjk => by have := ha (j + 1) (by simp; omega) (by omega); simpa using this) (by simpa using hk) (by simpa using h)]
theorem idxR_end (nm : List UInt8) : ∀ (l : List Row), (∀ j (hj : j < l.length), bytesBefore l[j].name nm = true) → idxR nm l = l.length ∧ findR nm l = none
  | [], _ => ⟨rfl, rfl⟩
  | r :: t, h => by
    have h0 := h 0 (by simp)
    simp at h0
    have ih := idxR_end nm t (fun j hj => by have := h (j + 1) (by simp; omega); simpa using this)
    have hne : ¬ r.name = nm := fun e => by rw [e, WideAt.bytes_irrefl] at h0; cases h0
    simp only [idxR, h0, if_true, findR, hne, if_false, List.length_cons]
    exact ⟨by rw [ih.1], ih.2⟩
/-- In a rising list the name is there just if it stands at its place. -/
theorem findR_at (nm : List UInt8) : ∀ (l : List Row), Rising l → (hk : idxR nm l < l.length) → findR nm l = if l[idxR nm l].name = nm then some l[idxR nm l] else none
  | [], _, hk => by simp [idxR] at hk
  | r :: t, h, hk => by
    have hy : ∀ x ∈ t, bytesBefore r.name x.name = true := (List.pairwise_cons.1 h).1
    have ht : Rising t := (List.pairwise_cons.1 h).2
    by_cases hb : bytesBefore r.name nm = true
    · have hne : ¬ r.name = nm := fun e => by rw [e, WideAt.bytes_irrefl] at hb; cases hb
      have e1 : idxR nm (r :: t) = idxR nm t + 1 := by simp [idxR, hb]
      simp only [e1, List.getElem_cons_succ, findR, hne, if_false]
      exact findR_at nm t ht (by rw [e1] at hk; simpa using hk)
    · have e1 : idxR nm (r :: t) = 0 := by simp [idxR, hb]
      simp only [e1, List.getElem_cons_zero, findR]
      by_cases e : r.name = nm
      · simp [e]
      · simp only [e, if_false]
        have hlt : bytesBefore nm r.name = true := by
          rcases WideAt.bytes_total _ _ e with h1 | h1
          · exact absurd h1 hb
          · exact h1
        have none_after : ∀ l : List Row, (∀ x ∈ l, bytesBefore nm x.name = true) → findR nm l = none := by
          intro l
          induction l with
          | nil => intro _; rfl
          | cons x l ih =>
            intro hx
            have h1 := hx x (by simp)
            have h2 : ¬ x.name = nm := fun e => by rw [e, WideAt.bytes_irrefl] at h1; cases h1
            simp only [findR, h2, if_false]
            exact ih (fun y hy => hx y (by simp [hy]))
        exact none_after t (fun x hx => WideShapes.bytes_trans _ _ _ hlt (hy x hx))
/-- put, by places. -/
theorem putR_at (x : Row) : ∀ (l : List Row), Rising l → putR x l = l.take (idxR x.name l) ++ x :: l.drop (idxR x.name l + if (findR x.name l).isSome then 1 else 0)
  | [], _ => rfl
  | r :: t, h => by
    have hy : ∀ y ∈ t, bytesBefore r.name y.name = true := (List.pairwise_cons.1 h).1
    have ht : Rising t := (List.pairwise_cons.1 h).2
    by_cases e : r.name = x.name
    · have hb : ¬ bytesBefore r.name x.name = true := by rw [e, WideAt.bytes_irrefl]; decide
      simp [putR, idxR, findR, e, WideAt.bytes_irrefl]
    · by_cases hb : bytesBefore r.name x.name = true
      · have hb2 : ¬ bytesBefore x.name r.name = true := fun h2 => by
          have := WideShapes.bytes_trans _ _ _ hb h2
          rw [WideAt.bytes_irrefl] at this; cases this
        have ih := putR_at x t ht
        simp only [putR, e, if_false, hb2, idxR, hb, if_true, findR, List.take_succ_cons, List.cons_append]
        rw [ih, Nat.add_right_comm, List.drop_succ_cons]
        simp
      · have hb2 : bytesBefore x.name r.name = true := by
          rcases WideAt.bytes_total _ _ e with h1 | h1
          · exact absurd h1 hb
          · exact h1
        have hf : findR x.name (r :: t) = none := by
          have hk : idxR x.name (r :: t) = 0 := by simp [idxR, hb]
          rw [findR_at x.name (r :: t) h (by rw [hk]; simp)]
          simp [hk, e]
        simp [putR, e, hb2, idxR, hb, hf]
theorem dropR_at (nm : List UInt8) : ∀ (l : List Row), Rising l → (findR nm l).isSome = true → dropR nm l = l.take (idxR nm l) ++ l.drop (idxR nm l + 1)
  | [], _, h => by simp [findR] at h
  | r :: t, h, hf => by
    have hy : ∀ y ∈ t, bytesBefore r.name y.name = true := (List.pairwise_cons.1 h).1
    have ht : Rising t := (List.pairwise_cons.1 h).2
    by_cases e : r.name = nm
    · have h1 : t.filter (fun r => !(r.name == nm)) = t := by
        rw [List.filter_eq_self]
        intro y hyt
        have h2 := hy y hyt
        have : ¬ y.name = nm := fun e2 => by rw [e, e2, WideAt.bytes_irrefl] at h2; cases h2
        simp [this]
      simp [dropR, idxR, e, WideAt.bytes_irrefl, h1]
    · have hft : (findR nm t).isSome = true := by simpa [findR, e] using hf
      have hb : bytesBefore r.name nm = true := by
        rcases WideAt.bytes_total _ _ e with h1 | h1
        · exact h1
        · exfalso
          cases hfx : findR nm t with
          | none => rw [hfx] at hft; cases hft
          | some y =>
            have hy2 := findR_name hfx
            have h2 := hy y hy2.2
            rw [hy2.1] at h2
            have := WideShapes.bytes_trans _ _ _ h1 h2
            rw [WideAt.bytes_irrefl] at this; cases this
      have ih := dropR_at nm t ht hft
      simp only [dropR] at ih ⊢
      simp only [List.filter_cons, idxR, hb, if_true, List.take_succ_cons, List.cons_append]
      rw [ih]
      simp [e]
/-! ### the walks -/
def RS (w : World) (v : Value) (l : List Row) : Prop := ∃ A c, v = .slice A l.length c ∧ l.length ≤ c ∧ Reads w w.heap.size 3 A l.length (cellsR l)
theorem RS.below {w w' : World} {v : Value} {l : List Row} (h : RS w v l) (hb : Below w.heap.size w w') : RS w' v l := by
  obtain ⟨A, c, rfl, hc, hr⟩ := h
  exact ⟨A, c, rfl, hc, (hr.below hb).more hb.size⟩
theorem less_toList (l : List UInt8) (s : ByteArray) : Op.bytesLess l s.toList = bytesBefore l s.data.toList := by
  rw [ByteArray.toList_eq, less_before]
theorem eq_toList (l : List UInt8) (s : ByteArray) : (l == s.toList) = decide (l = s.data.toList) := by
  rw [ByteArray.toList_eq]
  rw [Bool.eq_iff_iff]; simp
def FdEnd (w : World) (nm : List UInt8) (l : List Row) (e : Ending) (w' : World) : Prop :=
  e = .returned (.tuple #[.int .i64 (idxR nm l : Nat), .bool (findR nm l).isSome]) ∧ ∃ k, w' = w.drewN k
set_option maxRecDepth 100000 in
set_option maxHeartbeats 400000 in
theorem find_any (A : Option Addr) (n c B : Nat) (l : List Row) (s : ByteArray) (w : World) (hr : Reads w B 3 A n (cellsR l)) (hl : l.length = n) (hn : n ≤ 1000000000) (hs : Rising l) :
    Calls Try.prog 22 #[.slice A n c, .string s] w (FdEnd w s.data.toList l) := by
  go_enter Try.func22, Try.ntmps22
  go_wp2_with fail
  go_loop [6] (fun i => ∃ k : Nat, k ≤ n ∧ i = .int .i64 k ∧ ∀ j (hj : j < l.length), j < k → bytesBefore l[j].name s.data.toList = true) (fun i => n - (intOf i).toNat)
  case atStart => exact ⟨0, by omega, rfl, fun j _ h => absurd h (by omega)⟩
  case round =>
    obtain ⟨k, hk, rfl, hall⟩ := hrel
    have HALL := Lib.hid hall
    have HL := Lib.hid hl
    clear hall hl
    by_cases hlt : k < n
    · have hkl : k < l.length := by have := HL.out; omega
      obtain ⟨b, o, rfl, _, hc⟩ := hr.formN (by omega) (by decide)
      have hcell := hc _ _ (cellsR_at l k hkl).1
      unfold strV at hcell
      clear hc
      have hless := less_toList l[k].name s
      have heqs := eq_toList l[k].name s
      cases hbf : bytesBefore l[k].name s.data.toList with
      | true =>
        rw [hbf] at hless
        have hnext : Hid (∀ j (hj : j < l.length), j < k + 1 → bytesBefore l[j].name s.data.toList = true) := by
          intro j hj hjk
          by_cases e : j = k
          · subst e; exact hbf
          · exact HALL.out j hj (by omega)
        clear hbf heqs
        generalize l[k].name = nm at *
        go_wp2_with fail
        go_round
        case rel => exact ⟨k + 1, by omega, by go_num, hnext.out⟩
        case measure => simp [intOf]; omega
      | false =>
        rw [hbf] at hless
        have hi := idxR_step s.data.toList l k HALL.out hkl hbf
        have hf : (findR s.data.toList l).isSome = decide (l[k].name = s.data.toList) := by
          rw [findR_at s.data.toList l hs (by rw [hi]; exact hkl)]
          simp only [hi]
          by_cases e : l[k].name = s.data.toList <;> simp [e]
        have HI := Lib.hid hi
        have HF := Lib.hid hf
        clear hi hf hbf
        generalize l[k].name = nm at *
        generalize decide (nm = s.data.toList) = q at *
        go_wp2_with fail
        go_quiet (fail)
        go_wp2_with fail
        go_ret2
        unfold FdEnd
        rw [HI.out, HF.out]
        exact ⟨rfl, _, rfl⟩
    · have hkn : k = n := by omega
      obtain ⟨h1, h2⟩ := idxR_end s.data.toList l (fun j hj => HALL.out j hj (by have := HL.out; omega))
      rw [HL.out] at h1
      have H1 := Lib.hid h1
      have H2 := Lib.hid h2
      clear h1 h2 hkn
      go_wp2_with fail
      go_ret2
      unfold FdEnd
      rw [H1.out, H2.out]
      exact ⟨rfl, 0, rfl⟩
end Go.Proofs.Ytmondfckpgjikaa
