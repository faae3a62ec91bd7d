/- Plain facts for the law WalBits, and some more words for memory. No function of the program is named. -/
import Derived.Test.YtcppmmdkblmfoaaLFrames
import Derived.Deep.Matrix
import Derived.Test.YtcppmmdkblmfoaaArgs
namespace Go.Proofs.Ytcppmmdkblmfoaa
open Go.RowKit Go.Deep
theorem rd4_take (a b : List UInt8) (h : 4 ≤ a.length) : rd4 (a ++ b) = rd4 a := by
  match a, h with
  | b0 :: b1 :: b2 :: b3 :: r, _ => rfl
/-- A frame with a changed byte behind its length is no frame. -/
theorem bad_frame (p r : List UInt8) (q : Nat) (y : UInt8) (h1 : 1 ≤ p.length) (h2 : p.length ≤ 1048576) (hq : 4 ≤ q) (hq2 : q < (frameL p).length) (hy : (frameL p)[q] ≠ y) :
    step1 ((frameL p).set q y ++ r) = none := by
  have hS := Crc.sum_lt _ (bytes_lt p)
  have hlen : (frameL p).length = 8 + p.length := by unfold frameL; simp [be4b]; omega
  by_cases h8 : q < 8
  · have hset : (frameL p).set q y = be4b p.length ++ ((be4b (Crc.sum (bytes p))).set (q - 4) y ++ p) := by
      unfold frameL
      rw [List.append_assoc, List.set_append_right _ _ (by rw [be4b_len]; omega), be4b_len, List.set_append_left _ _ (by rw [be4b_len]; omega)]
    have hy2 : (be4b (Crc.sum (bytes p)))[q - 4]? ≠ some y := by
      rw [List.getElem?_eq_getElem (by rw [be4b_len]; omega)]
      intro h; injection h with h; apply hy; rw [← h]
      unfold frameL
      simp only [List.append_assoc]
      rw [List.getElem_append_right (by rw [be4b_len]; omega), List.getElem_append_left (by simp [be4b_len]; omega)]
      simp [be4b_len]
    rw [hset]
    generalize hc : be4b (Crc.sum (bytes p)) = cs at *
    have hcl : cs.length = 4 := by rw [← hc]; rfl
    have e1 : rd4 (be4b p.length ++ (cs.set (q - 4) y ++ p) ++ r) = p.length := by rw [List.append_assoc]; exact rd4_be4b _ (by omega) _
    have e2 : (be4b p.length ++ (cs.set (q - 4) y ++ p) ++ r).drop 4 = cs.set (q - 4) y ++ (p ++ r) := by simp [be4b]
    have e3 : (be4b p.length ++ (cs.set (q - 4) y ++ p) ++ r).drop 8 = p ++ r := by
      rw [show 8 = 4 + 4 from rfl, ← List.drop_drop, e2, List.drop_append_of_le_length (by simp; omega), List.drop_of_length_le (by simp; omega)]; rfl
    have e5 : (be4b p.length ++ (cs.set (q - 4) y ++ p) ++ r).length = 8 + p.length + r.length := by simp [be4b_len]; omega
    unfold step1
    rw [e1, e2, e3, e5]
    have e4 : (p ++ r).take p.length = p := by simp
    rw [e4]
    rw [if_neg (by omega), if_neg (by omega), if_neg]
    intro h
    have h5 := (rd4_eq (cs.set (q - 4) y ++ (p ++ r)) (Crc.sum (bytes p)) (by simp; omega) hS).1 h.symm
    rw [hc, List.take_append_of_le_length (by simp; omega), List.take_of_length_le (by simp; omega)] at h5
    apply hy2
    have h6 : (cs.set (q - 4) y)[q - 4]? = cs[q - 4]? := by rw [h5]
    rw [List.getElem?_set_self (by omega)] at h6
    exact h6.symm
  · have hset : (frameL p).set q y = be4b p.length ++ (be4b (Crc.sum (bytes p)) ++ p.set (q - 8) y) := by
      unfold frameL
      rw [List.append_assoc, List.set_append_right _ _ (by rw [be4b_len]; omega), be4b_len, List.set_append_right _ _ (by rw [be4b_len]; omega), be4b_len]
      congr 3
    have hy2 : p[q - 8]'(by omega) ≠ y := by
      intro h; apply hy; rw [← h]
      unfold frameL
      simp only [List.append_assoc]
      rw [List.getElem_append_right (by rw [be4b_len]; omega), List.getElem_append_right (by simp [be4b_len]; omega)]
      simp only [be4b_len]
      congr 1
    rw [hset]
    have hpl : (p.set (q - 8) y).length = p.length := by simp
    have hch : Crc.sum (bytes (p.set (q - 8) y)) ≠ Crc.sum (bytes p) := by
      have e1 : p.set (q - 8) y = p.take (q - 8) ++ y :: p.drop (q - 8 + 1) := by rw [List.set_eq_take_append_cons_drop, if_pos (by omega)]
      have e2 : p = p.take (q - 8) ++ p[q - 8]'(by omega) :: p.drop (q - 8 + 1) := by
        rw [← List.drop_eq_getElem_cons (by omega), List.take_append_drop]
      intro h
      rw [e1] at h
      have h3 : Crc.sum (bytes p) = Crc.sum (bytes (p.take (q - 8) ++ p[q - 8]'(by omega) :: p.drop (q - 8 + 1))) := by rw [← e2]
      rw [h3] at h
      unfold bytes at h
      rw [List.map_append, List.map_append, List.map_cons, List.map_cons] at h
      exact Crc.sum_change _ _ _ _ (bytes_lt _) (bytes_lt _) y.toNat_lt (UInt8.toNat_lt _) (fun e => hy2 (UInt8.toNat_inj.1 e.symm)) h
    generalize p.set (q - 8) y = p' at *
    have e1 : rd4 (be4b p.length ++ (be4b (Crc.sum (bytes p)) ++ p') ++ r) = p.length := by rw [List.append_assoc]; exact rd4_be4b _ (by omega) _
    have e2 : (be4b p.length ++ (be4b (Crc.sum (bytes p)) ++ p') ++ r).drop 4 = be4b (Crc.sum (bytes p)) ++ (p' ++ r) := by simp [be4b]
    have e3 : (be4b p.length ++ (be4b (Crc.sum (bytes p)) ++ p') ++ r).drop 8 = p' ++ r := by simp [be4b]
    have e5 : (be4b p.length ++ (be4b (Crc.sum (bytes p)) ++ p') ++ r).length = 8 + p.length + r.length := by simp [be4b_len]; omega
    unfold step1
    rw [e1, e2, e3, e5]
    have e4 : (p' ++ r).take p.length = p' := by rw [← hpl]; simp
    rw [e4]
    rw [if_neg (by omega), if_neg (by omega), if_neg]
    rw [rd4_be4b _ hS]; exact hch
/-- Good frames, and then what is none. -/
def cat (fs : List (List UInt8)) : List UInt8 := fs.foldr (fun f r => f ++ r) []
theorem cat_append (a b : List (List UInt8)) : cat (a ++ b) = cat a ++ cat b := by
  induction a with
  | nil => rfl
  | cons x a ih => simp only [cat, List.cons_append, List.foldr_cons, List.append_assoc] at ih ⊢; rw [ih]
theorem cat_snoc (a : List (List UInt8)) (b : List UInt8) : cat (a ++ [b]) = cat a ++ b := by rw [cat_append]; simp [cat]
def total (ps : List (List UInt8)) : Nat := ps.foldr (fun p n => 8 + p.length + n) 0
theorem total_append (a b : List (List UInt8)) : total (a ++ b) = total a + total b := by
  induction a with
  | nil => simp [total]
  | cons x a ih => simp only [total, List.cons_append, List.foldr_cons] at ih ⊢; omega
theorem total_snoc (a : List (List UInt8)) (b : List UInt8) : total (a ++ [b]) = total a + (8 + b.length) := by rw [total_append]; simp [total]
theorem frames_cat (ps : List (List UInt8)) (r : List UInt8) (h : ∀ p ∈ ps, 1 ≤ p.length ∧ p.length ≤ 1048576) :
    frames (cat (ps.map frameL) ++ r) = (ps ++ (frames r).1, total ps + (frames r).2) := by
  induction ps with
  | nil => simp [cat, total]
  | cons p ps ih =>
    have hp := h p (by simp)
    have e : cat ((p :: ps).map frameL) ++ r = frameL p ++ (cat (ps.map frameL) ++ r) := by simp [cat]
    rw [e, frames_frame p _ hp.1 hp.2, ih (fun x hx => h x (by simp [hx]))]
    simp [total]; omega
theorem own_ne {w : World} {b1 b2 e1 e2 s1 s2 n1 n2 : Nat} {v1 v2 : Value} {xs1 xs2 : List Value} (h1 : w.ownsRow b1 e1 s1 v1 n1 xs1) (h2 : w.ownsRow b2 e2 s2 v2 n2 xs2) (hne : e1 ≠ e2) :
    v1.ownBlock = none ∨ v1.ownBlock ≠ v2.ownBlock := by
  rcases h1.2 with ⟨rfl, _⟩ | ⟨g1, c1, r1, rfl, _, k1, _⟩
  · exact .inl rfl
  · refine .inr ?_
    rcases h2.2 with ⟨rfl, _⟩ | ⟨g2, c2, r2, rfl, _, k2, _⟩
    · simp [Value.ownBlock]
    · intro h
      simp [Value.ownBlock] at h
      subst h
      rw [k1] at k2
      injection k2 with k2
      injection k2 with _ k2
      exact hne k2
theorem PayOk.move2 {w w' : World} {N r : Option Nat} {v : Value} {p : List UInt8} (h : PayOk w N v p) (h2 : PayOk w r v p) (hg : w.grownBy w' r) : PayOk w' N v p := by
  obtain ⟨A, n, c, rfl, hc, hl, h⟩ := h
  obtain ⟨A2, n2, c2, e, _, _, h2⟩ := h2
  injection e with e1 e2 e3
  subst e1 e2 e3
  refine ⟨A, n, c, rfl, hc, hl, fun hn => ?_⟩
  obtain ⟨ad, e, hb, hne, hcell⟩ := h hn
  obtain ⟨ad2, e', _, hne2, _⟩ := h2 hn
  rw [e] at e'
  injection e' with e'
  subst e'
  refine ⟨ad, e, Nat.lt_of_lt_of_le hb hg.size, hne, fun j u hu => ?_⟩
  rw [← hcell j u hu]
  exact World.cell?_of_block (hg.block _ (by rw [block_of_add]; exact hb) (by rw [block_of_add]; exact hne2))
theorem PayOk.new {w : World} {N : Option Nat} {v : Value} {p : List UInt8} (h : PayOk w none v p) (hN : ∀ g, N = some g → w.heap.size ≤ g) : PayOk w N v p := h.move (World.grownBy.refl w none) (fun g hg => .inr (hN g hg))
theorem Pays.move2 {w w' : World} {N r : Option Nat} {vs : List Value} {ps : List (List UInt8)} (h : Pays w N vs ps) (h2 : Pays w r vs ps) (hg : w.grownBy w' r) : Pays w' N vs ps :=
  ⟨h.1, fun i v p hv hp => (h.2 i v p hv hp).move2 (h2.2 i v p hv hp) hg⟩
/-- A slice of byte slices that came in. -/
theorem ll_of_rows {w : World} {a : Addr} {len cap : Nat} {A : Nat → Option Addr} {L C : Nat → Nat} {Z : Nat → List Int} (hl : len ≤ cap)
    (h : ∀ r, r < cap → w.cell? (a.add r) = some (.slice (A r) (L r) (C r)) ∧ L r ≤ C r ∧ C r ≤ maxLen ∧ (Z r).length = C r ∧ (∀ n ∈ Z r, (Lit.int .u8 n).wf = true) ∧ (A r = none → C r = 0) ∧
        ∀ a', A r = some a' → 0 ≤ a'.block ∧ ∀ c, c < C r → w.cell? (a'.add c) = some (.int .u8 ((Z r).getD c 0))) :
    ∃ ls, LL w (.slice (some a) len cap) ls ∧ ls.length = len := by
  have one : ∀ r, ∃ p : List UInt8, r < cap → PayOk w none (.slice (A r) (L r) (C r)) p := by
    intro r
    by_cases hr : r < cap
    · obtain ⟨_, hLC, _, hZ, hwf, hnil, hcell⟩ := h r hr
      rcases hA : A r with _ | a'
      · have : L r = 0 := by have := hnil hA; omega
        exact ⟨[], fun _ => ⟨none, L r, C r, rfl, hLC, by simp [this], fun h0 => by omega⟩⟩
      · obtain ⟨l, hlr⟩ := reads_of_cells (x := a') hLC hZ (fun i hi => (hcell a' hA).2 i (by omega)) hwf
        exact ⟨l, fun _ => PayOk.of_reads hlr (Nat.le_refl _) hLC (by simp)⟩
    · exact ⟨[], fun h => absurd h hr⟩
  have sel : ∃ p : Nat → List UInt8, ∀ r, r < cap → PayOk w none (.slice (A r) (L r) (C r)) (p r) := ⟨fun r => (one r).choose, fun r => (one r).choose_spec⟩
  obtain ⟨p, hp⟩ := sel
  refine ⟨(List.range len).map p, ⟨some a, cap, (List.range len).map fun r => .slice (A r) (L r) (C r), by simp, by simpa using hl, ⟨by simp, fun hn => ?_⟩, by simp, ?_⟩, by simp⟩
  · have hn' : 0 < len := by simpa using hn
    have hb := block_lt_of_cell (h 0 (by omega)).1
    rw [block_of_add] at hb
    refine ⟨a, rfl, hb, fun j u hu => ?_⟩
    by_cases hj : j < len
    · rw [(h j (by omega)).1]
      simp [hj] at hu; rw [hu]
    · simp [hj] at hu
  · intro i v q hv hq
    by_cases hi : i < len
    · simp [hi] at hv hq
      subst hv hq
      exact hp i (by omega)
    · simp [hi] at hv
end Go.Proofs.Ytcppmmdkblmfoaa
