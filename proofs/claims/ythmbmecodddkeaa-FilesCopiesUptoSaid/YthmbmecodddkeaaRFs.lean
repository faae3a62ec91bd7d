/- Plain, and words for memory: the reference's files as a list of pairs (the file, the value of its bytes). -/
import Derived.Test.YthmbmecodddkeaaCrash
import Derived.Test.YthmbmecodddkeaaKeep
import Derived.IntWalk
namespace Go.Proofs.Ythmbmecodddkeaa
open Go.RowKit Go.WideMaps
section
variable {α : Type} {nm : α → List UInt8}
/-- How many of the first entries have a name before s. -/
def leadG (nm : α → List UInt8) (s : List UInt8) : List α → Nat
  | [] => 0
  | r :: t => if bytesBefore (nm r) s = true then leadG nm s t + 1 else 0
theorem leadG_le (s : List UInt8) : ∀ l : List α, leadG nm s l ≤ l.length
  | [] => Nat.le_refl _
  | r :: t => by simp only [leadG]; split <;> simp; have := leadG_le s t; omega
theorem leadG_step (s : List UInt8) : ∀ (l : List α) (k : Nat) (_ : ∀ j (hj : j < l.length), j < k → bytesBefore (nm l[j]) s = true) (hk : k < l.length), bytesBefore (nm l[k]) s = false → leadG nm s l = k
  | [], k, _, hk, _ => by simp at hk
  | r :: t, 0, _, _, h => by simp at h; simp [leadG, h]
  | r :: t, k + 1, ha, hk, h => by
    have h0 := ha 0 (by simp) (by omega)
    simp at h0
    simp only [leadG, h0, if_true]
    rw [leadG_step s t k (fun j hj hjk => by have := ha (j + 1) (by simp; omega) (by omega); simpa using this) (by simpa using hk) (by simpa using h)]
theorem leadG_end (s : List UInt8) : ∀ (l : List α), (∀ j (hj : j < l.length), bytesBefore (nm l[j]) s = true) → leadG nm s l = l.length
  | [], _ => rfl
  | r :: t, h => by
    have h0 := h 0 (by simp)
    simp at h0
    simp only [leadG, h0, if_true, List.length_cons]
    rw [leadG_end s t (fun j hj => by have := h (j + 1) (by simp; omega); simpa using this)]
theorem dropG_all {s : List UInt8} {l : List α} (h : ∀ r ∈ l, nm r ≠ s) : dropG nm s l = l := by
  unfold dropG
  rw [List.filter_eq_self]
  intro r hr
  simp [h r hr]
theorem putG_cut (x : α) : ∀ (l : List α), RisingG nm l → putG nm x l = (dropG nm (nm x) l).take (leadG nm (nm x) (dropG nm (nm x) l)) ++ x :: (dropG nm (nm x) l).drop (leadG nm (nm x) (dropG nm (nm x) l))
  | [], _ => rfl
  | y :: t, h => by
    have hy : ∀ r ∈ t, bytesBefore (nm y) (nm r) = true := (List.pairwise_cons.1 h).1
    have ht : RisingG nm t := (List.pairwise_cons.1 h).2
    by_cases e : nm y = nm x
    · have hne : ∀ r ∈ t, nm r ≠ nm x := fun r hr e2 => by have := hy r hr; rw [e, e2, WideAt.bytes_irrefl] at this; cases this
      have hd : dropG nm (nm x) (y :: t) = t := by
        have : dropG nm (nm x) (y :: t) = dropG nm (nm x) t := by unfold dropG; simp [e]
        rw [this, dropG_all hne]
      have hl : leadG nm (nm x) t = 0 := by
        cases t with
        | nil => rfl
        | cons z t =>
          have hz := hy z (by simp)
          rw [e] at hz
          simp only [leadG]
          rw [if_neg]
          intro hb
          have := WideShapes.bytes_trans _ _ _ hz hb
          rw [WideAt.bytes_irrefl] at this; cases this
      rw [hd, hl]
      simp [putG, e]
    · have hd : dropG nm (nm x) (y :: t) = y :: dropG nm (nm x) t := by unfold dropG; simp [e]
      by_cases hb : bytesBefore (nm x) (nm y) = true
      · have hne : ∀ r ∈ t, nm r ≠ nm x := fun r hr e2 => by
          have := WideShapes.bytes_trans _ _ _ hb (hy r hr)
          rw [e2, WideAt.bytes_irrefl] at this; cases this
        have hnb : ¬ bytesBefore (nm y) (nm x) = true := fun h2 => by
          have := WideShapes.bytes_trans _ _ _ hb h2
          rw [WideAt.bytes_irrefl] at this; cases this
        rw [hd, dropG_all hne]
        simp [putG, e, hb, leadG, hnb]
      · have hyb : bytesBefore (nm y) (nm x) = true := by
          rcases WideAt.bytes_total _ _ e with h1 | h1
          · exact h1
          · exact absurd h1 hb
        have ih := putG_cut x t ht
        rw [hd]
        simp only [putG, e, hb, if_false, leadG, hyb, if_true, List.take_succ_cons, List.drop_succ_cons, List.cons_append]
        rw [← ih]
        simp
theorem findG_isSome_drop {s : List UInt8} {l : List α} (h : findG nm s l = none) : dropG nm s l = l := dropG_all (findG_none h)
end
/-! ### payloads whose blocks lie in a set -/
def PayG (G : Nat → Prop) (w : World) (v : Value) (p : List UInt8) : Prop :=
  ∃ A n c, v = .slice A n c ∧ n ≤ c ∧ p.length = n ∧ (0 < n → ∃ ad : Addr, A = some ad ∧ ad.block < w.heap.size ∧ G ad.block ∧ ∀ j u, (p.map byteV)[j]? = some u → w.cell? (ad.add j) = some u)
section
variable {G G' F : Nat → Prop} {w w' : World} {v : Value} {p : List UInt8} {vs : List Value} {ps : List (List UInt8)}
theorem PayG.mono (h : PayG G w v p) (hG : ∀ i, i < w.heap.size → G i → G' i) : PayG G' w v p := by
  obtain ⟨A, n, c, h1, h2, h3, h⟩ := h
  refine ⟨A, n, c, h1, h2, h3, fun hn => ?_⟩
  obtain ⟨ad, e, hb, hg, hc⟩ := h hn
  exact ⟨ad, e, hb, hG _ hb hg, hc⟩
theorem PayG.keptF (h : PayG G w v p) (hk : Kept F w w') (hF : ∀ i, i < w.heap.size → G i → ¬ F i) : PayG G w' v p := by
  obtain ⟨A, n, c, h1, h2, h3, h⟩ := h
  refine ⟨A, n, c, h1, h2, h3, fun hn => ?_⟩
  obtain ⟨ad, e, hb, hg, hc⟩ := h hn
  refine ⟨ad, e, Nat.lt_of_lt_of_le hb hk.size, hg, fun j u hu => ?_⟩
  rw [← hc j u hu]
  exact hk.cell (by rw [block_of_add]; exact hb) (by rw [block_of_add]; exact hF _ hb hg)
theorem PayG.of_own {base n c : Nat} {A : Option Addr} (h : w.ownsRow base 5 1 (.slice A n c) n (p.map byteV)) (hc : n ≤ c) (hG : ∀ g, base ≤ g → g < w.heap.size → G g) : PayG G w (.slice A n c) p := by
  have hr := Reads.of_own h
  refine ⟨A, n, c, rfl, hc, by have := hr.1; simpa using this, fun hn => ?_⟩
  obtain ⟨ad, e, hb, hcell⟩ := hr.2 hn
  obtain ⟨g, cap, hv, hbase, _⟩ := h.form hn
  have e2 : A = some ⟨g, 0, none⟩ := by injection hv
  rw [e] at e2
  injection e2 with e2
  exact ⟨ad, e, hb, hG _ (by rw [e2]; exact hbase) hb, hcell⟩
theorem PayG.reads {A : Option Addr} {n c : Nat} (h : PayG G w (.slice A n c) p) : p.length = n ∧ n ≤ c ∧ Reads w w.heap.size 1 A n (p.map byteV) := by
  obtain ⟨A', n', c', e, h2, h3, h⟩ := h
  injection e with e1 e2 e3
  subst e1 e2 e3
  refine ⟨h3, h2, by simp [h3], fun hn => ?_⟩
  obtain ⟨ad, e, hb, _, hc⟩ := h hn
  exact ⟨ad, e, hb, hc⟩
theorem PayG.form (h : PayG G w v p) : ∃ A c, v = .slice A p.length c ∧ p.length ≤ c := by
  obtain ⟨A, n, c, rfl, h2, h3, _⟩ := h
  exact ⟨A, c, by rw [h3], by omega⟩
theorem PayG.nil (G : Nat → Prop) (w : World) : PayG G w (.slice none 0 0) [] := ⟨none, 0, 0, rfl, Nat.le_refl _, rfl, fun h => absurd h (Nat.lt_irrefl 0)⟩
theorem PayG.take {A : Option Addr} {n c k : Nat} {p : List UInt8} (h : PayG G w (.slice A n c) p) (hk : k ≤ n) : PayG G w (.slice A k c) (p.take k) := by
  obtain ⟨A', n', c', e, h2, h3, h⟩ := h
  injection e with e1 e2 e3
  subst e1 e2 e3
  refine ⟨A, k, c, rfl, by omega, by rw [List.length_take]; omega, fun hn => ?_⟩
  obtain ⟨ad, e, hb, hg, hc⟩ := h (by omega)
  refine ⟨ad, e, hb, hg, fun j u hu => hc j u ?_⟩
  rw [List.map_take, List.getElem?_take] at hu
  split at hu
  · exact hu
  · cases hu
end
/-! ### the files -/
def strV (l : List UInt8) : Value := .string ⟨l.toArray⟩
theorem strV_of (s : ByteArray) : strV s.data.toList = .string s := by unfold strV; simp
abbrev PF := AF × Value
def pn (p : PF) : List UInt8 := p.1.name
def rowP (p : PF) : List Value := [strV p.1.name, p.2, .int .i64 (p.1.sync : Int)]
def cellsP (l : List PF) : List Value := l.flatMap rowP
theorem cellsP_len (l : List PF) : (cellsP l).length = l.length * 3 := by
  induction l with
  | nil => rfl
  | cons r t ih => simp only [cellsP, List.flatMap_cons, List.length_append, List.length_cons] at ih ⊢; rw [ih]; simp [rowP]; omega
theorem cellsP_append (a b : List PF) : cellsP (a ++ b) = cellsP a ++ cellsP b := by simp [cellsP]
theorem cellsP_at (l : List PF) (k : Nat) (hk : k < l.length) : (cellsP l)[k * 3]? = some (strV l[k].1.name) ∧ (cellsP l)[k * 3 + 1]? = some l[k].2 ∧ (cellsP l)[k * 3 + 2]? = some (.int .i64 (l[k].1.sync : Int)) := by
  have e : l = l.take k ++ l[k] :: l.drop (k + 1) := by rw [← List.drop_eq_getElem_cons hk, List.take_append_drop]
  have h : cellsP l = cellsP (l.take k) ++ (rowP l[k] ++ cellsP (l.drop (k + 1))) := by
    conv => lhs; rw [e]
    rw [cellsP_append]; rfl
  have hl : (cellsP (l.take k)).length = k * 3 := by rw [cellsP_len, List.length_take]; congr 1; omega
  rw [h]
  refine ⟨?_, ?_, ?_⟩
  · rw [List.getElem?_append_right (by omega), hl, Nat.sub_self]; rfl
  · rw [List.getElem?_append_right (by omega), hl, Nat.add_sub_cancel_left]; rfl
  · rw [List.getElem?_append_right (by omega), hl, Nat.add_sub_cancel_left]; rfl
theorem cellsP_take (l : List PF) (k : Nat) : (cellsP l).take (k * 3) = cellsP (l.take k) := by
  by_cases hk : k ≤ l.length
  · have hl : (cellsP (l.take k)).length = k * 3 := by rw [cellsP_len, List.length_take]; congr 1; omega
    conv => lhs; rw [← List.take_append_drop k l, cellsP_append]
    rw [← hl, List.take_left]
  · rw [List.take_of_length_le (by rw [cellsP_len]; omega), List.take_of_length_le (by omega)]
theorem cellsP_drop (l : List PF) (k : Nat) : (cellsP l).drop (k * 3) = cellsP (l.drop k) := by
  by_cases hk : k ≤ l.length
  · have hl : (cellsP (l.take k)).length = k * 3 := by rw [cellsP_len, List.length_take]; congr 1; omega
    conv => lhs; rw [← List.take_append_drop k l, cellsP_append]
    rw [← hl, List.drop_left]
  · rw [List.drop_of_length_le (by rw [cellsP_len]; omega), List.drop_of_length_le (by omega)]; rfl
/-- The address written out, for rows of any number of cells. -/
theorem Reads.formN {w : World} {B n size : Nat} {A : Option Addr} {xs : List Value} (h : Reads w B size A n xs) (hn : 0 < n) (hs : 0 < size) :
    ∃ b o, A = some ⟨b, o, none⟩ ∧ b < B ∧ ∀ k u, xs[k]? = some u → w.cell? ⟨b, o + k, none⟩ = some u := by
  obtain ⟨ad, rfl, hb, hc⟩ := h.2 hn
  obtain ⟨b, o, spot⟩ := ad
  have hl : 0 < xs.length := by rw [h.1]; exact Nat.mul_pos hn hs
  have hspot : spot = none := by simpa [Addr.add] using World.cell?_spot (hc 0 _ (List.getElem?_eq_getElem hl))
  subst hspot
  exact ⟨b, o, rfl, hb, fun k u hu => by rw [← addr_add]; exact hc k u hu⟩
theorem Reads.takeN {w : World} {B n k size : Nat} {A : Option Addr} {xs : List Value} (h : Reads w B size A n xs) (hk : k ≤ n) : Reads w B size A k (xs.take (k * size)) := by
  have hks := Nat.mul_le_mul_right size hk
  refine ⟨by have := h.1; simp; omega, fun hn => ?_⟩
  obtain ⟨ad, e, hb, hc⟩ := h.2 (by omega)
  exact ⟨ad, e, hb, fun j u hu => hc j u (by rw [List.getElem?_take] at hu; split at hu; exact hu; cases hu)⟩
theorem less_before : ∀ a b : List UInt8, Op.bytesLess a b = bytesBefore a b
  | [], [] => rfl
  | [], _ :: _ => rfl
  | _ :: _, [] => rfl
  | a :: x, b :: y => by simp only [Op.bytesLess, bytesBefore, less_before x y]
theorem less_toList (l : List UInt8) (s : ByteArray) : Op.bytesLess l s.toList = bytesBefore l s.data.toList := by
  rw [ByteArray.toList_eq, less_before]
theorem eq_toList (l : List UInt8) (s : ByteArray) : (l == s.toList) = decide (l = s.data.toList) := by
  rw [ByteArray.toList_eq]
  rw [Bool.eq_iff_iff]; simp
def PsG (G : Nat → Prop) (w : World) (l : List PF) : Prop := ∀ p ∈ l, PayG G w p.2 p.1.data
def FsM (G : Nat → Prop) (w : World) (v : Value) (l : List PF) : Prop :=
  ∃ A c, v = .slice A l.length c ∧ l.length ≤ c ∧ Reads w w.heap.size 3 A l.length (cellsP l) ∧ (∀ ad : Addr, A = some ad → 0 < l.length → G ad.block) ∧ PsG G w l
structure RY where
  files : List AF
  left : Int
  off : Bool
def RYM (G : Nat → Prop) (w : World) (v : Value) (y : RY) : Prop := ∃ fv l, v = .agg #[fv, .int .i64 y.left, .bool y.off] ∧ FsM G w fv l ∧ l.map Prod.fst = y.files
section
variable {G G' F : Nat → Prop} {w w' : World} {v : Value} {l : List PF} {y : RY}
theorem PsG.one (h : PsG G w l) : ∀ u ∈ cellsP l, u.oneCell' = true := by
  intro u hu
  simp only [cellsP, List.mem_flatMap, rowP] at hu
  obtain ⟨r, hr, hu⟩ := hu
  simp at hu
  rcases hu with rfl | rfl | rfl
  · rfl
  · obtain ⟨A, c, e, _⟩ := (h r hr).form; rw [e]; rfl
  · rfl
theorem PsG.mono (h : PsG G w l) (hG : ∀ i, i < w.heap.size → G i → G' i) : PsG G' w l := fun p hp => (h p hp).mono hG
theorem PsG.keptF (h : PsG G w l) (hk : Kept F w w') (hF : ∀ i, i < w.heap.size → G i → ¬ F i) : PsG G w' l := fun p hp => (h p hp).keptF hk hF
theorem PsG.below (h : PsG G w l) (hb : Below w.heap.size w w') : PsG G w' l := h.keptF (F := fun _ => False) (Kept.of_below hb) fun _ _ _ h => h
theorem FsM.mono (h : FsM G w v l) (hG : ∀ i, i < w.heap.size → G i → G' i) : FsM G' w v l := by
  obtain ⟨A, c, h1, h2, h3, h4, h5⟩ := h
  refine ⟨A, c, h1, h2, h3, fun ad e hn => hG _ ?_ (h4 ad e hn), h5.mono hG⟩
  obtain ⟨ad', e', hb, _⟩ := h3.2 hn
  rw [e] at e'; injection e' with e'; rw [e']; exact hb
theorem FsM.keptF (h : FsM G w v l) (hk : Kept F w w') (hF : ∀ i, i < w.heap.size → G i → ¬ F i) : FsM G w' v l := by
  obtain ⟨A, c, h1, h2, h3, h4, h5⟩ := h
  refine ⟨A, c, h1, h2, (reads_keptP h3 hk (Nat.le_refl _) fun ad e hn => ?_).more hk.size, h4, h5.keptF hk hF⟩
  obtain ⟨ad', e', hb, _⟩ := h3.2 hn
  rw [e] at e'; injection e' with e'
  exact hF _ (by rw [e']; exact hb) (h4 ad e hn)
theorem FsM.below (h : FsM G w v l) (hb : Below w.heap.size w w') : FsM G w' v l := h.keptF (F := fun _ => False) (Kept.of_below hb) fun _ _ _ h => h
theorem FsM.nil (G : Nat → Prop) (w : World) : FsM G w (.slice none 0 0) [] := ⟨none, 0, rfl, Nat.le_refl _, Reads.none_, (fun ad e => by cases e), (fun p hp => by cases hp)⟩
theorem RYM.mono (h : RYM G w v y) (hG : ∀ i, i < w.heap.size → G i → G' i) : RYM G' w v y := by
  obtain ⟨fv, l, h1, h2, h3⟩ := h
  exact ⟨fv, l, h1, h2.mono hG, h3⟩
theorem RYM.keptF (h : RYM G w v y) (hk : Kept F w w') (hF : ∀ i, i < w.heap.size → G i → ¬ F i) : RYM G w' v y := by
  obtain ⟨fv, l, h1, h2, h3⟩ := h
  exact ⟨fv, l, h1, h2.keptF hk hF, h3⟩
theorem RYM.below (h : RYM G w v y) (hb : Below w.heap.size w w') : RYM G w' v y := h.keptF (F := fun _ => False) (Kept.of_below hb) fun _ _ _ h => h
/-- A list that the call made itself. -/
theorem FsM.of_own {base : Nat} {A : Option Addr} {n c : Nat} (h : w.ownsRow base 86 3 (.slice A n c) n (cellsP l)) (hl : l.length = n) (hc : n ≤ c) (hG : ∀ g, base ≤ g → g < w.heap.size → G g) (hp : PsG G w l) : FsM G w (.slice A n c) l := by
  subst hl
  refine ⟨A, c, rfl, hc, Reads.of_own h, fun ad e hn => ?_, hp⟩
  obtain ⟨g, cap, hv, hbase, hlt⟩ := h.form hn
  have e2 : A = some ⟨g, 0, none⟩ := by injection hv
  rw [e] at e2
  injection e2 with e2
  rw [e2]
  exact hG _ hbase hlt
end
/-! ### the reference, in plain words -/
def rBegin (y : RY) (ok : Bool) : RY × Int := if ok = false then (y, 13) else if y.off = true ∨ y.left = 0 then (⟨y.files, y.left, true⟩, 8) else (y, 0)
def rDone (y : RY) : RY := if 0 < y.left then ⟨y.files, y.left - 1, y.off⟩ else y
def rAppend (y : RY) (nm : ByteArray) (b : List UInt8) : RY × Int :=
  if (rBegin y (validN nm)).2 ≠ 0 then rBegin y (validN nm)
  else if 16777216 < ((findA nm.data.toList y.files).getD ⟨nm.data.toList, [], 0⟩).data.length + b.length then (y, 9)
  else (rDone ⟨putG AF.name ⟨nm.data.toList, ((findA nm.data.toList y.files).getD ⟨nm.data.toList, [], 0⟩).data ++ b, ((findA nm.data.toList y.files).getD ⟨nm.data.toList, [], 0⟩).sync⟩ y.files, y.left, y.off⟩, 0)
def rSync (y : RY) (nm : ByteArray) : RY × Int :=
  if (rBegin y (validN nm)).2 ≠ 0 then rBegin y (validN nm)
  else match findA nm.data.toList y.files with
    | none => (y, 5)
    | some f => (rDone ⟨putG AF.name ⟨nm.data.toList, f.data, f.data.length⟩ y.files, y.left, y.off⟩, 0)
def rTrunc (y : RY) (nm : ByteArray) (k : Int) : RY × Int :=
  if (rBegin y (validN nm)).2 ≠ 0 then rBegin y (validN nm)
  else match findA nm.data.toList y.files with
    | none => (y, 5)
    | some f => if k < 0 ∨ (f.data.length : Int) < k then (y, 1) else (rDone ⟨putG AF.name ⟨nm.data.toList, f.data.take k.toNat, min f.sync k.toNat⟩ y.files, y.left, y.off⟩, 0)
def rRename (y : RY) (nm nw : ByteArray) : RY × Int :=
  if (rBegin y (validN nm && validN nw)).2 ≠ 0 then rBegin y (validN nm && validN nw)
  else match findA nm.data.toList y.files with
    | none => (y, 5)
    | some f => (rDone ⟨putG AF.name ⟨nw.data.toList, f.data, f.sync⟩ (dropG AF.name nm.data.toList y.files), y.left, y.off⟩, 0)
def rRemove (y : RY) (nm : ByteArray) : RY × Int :=
  if (rBegin y (validN nm)).2 ≠ 0 then rBegin y (validN nm)
  else match findA nm.data.toList y.files with
    | none => (y, 5)
    | some _ => (rDone ⟨dropG AF.name nm.data.toList y.files, y.left, y.off⟩, 0)
def rCrash (y : RY) (ks : List Int) : RY := ⟨crashL y.files ks, -1, false⟩
end Go.Proofs.Ythmbmecodddkeaa
