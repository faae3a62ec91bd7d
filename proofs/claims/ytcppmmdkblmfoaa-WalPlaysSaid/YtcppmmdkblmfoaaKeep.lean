/- Plain: what the operations of a log do to a system with one file. -/
import Derived.Test.YtcppmmdkblmfoaaLogO
namespace Go.Proofs.Ytcppmmdkblmfoaa
open Go.RowKit Go.WideMaps
theorem step1_split {l p r : List UInt8} (h : step1 l = some (p, r)) : l = frameL p ++ r ∧ 1 ≤ p.length ∧ p.length ≤ 1048576 := by
  have hh := step1_some h
  unfold step1 at h
  split at h
  · cases h
  · rename_i h8
    split at h
    · cases h
    · rename_i hN
      split at h
      · rename_i hs
        simp only [Option.some.injEq, Prod.mk.injEq] at h
        obtain ⟨hp, hr⟩ := h
        have e1 := (rd4_eq l (rd4 l) (by omega) (rd4_lt _)).1 rfl
        have e2 := (rd4_eq (l.drop 4) (Crc.sum (bytes ((l.drop 8).take (rd4 l)))) (by simp; omega) (Crc.sum_lt _ (bytes_lt _))).1 hs.symm
        refine ⟨?_, hh.2.1, hh.2.2.1⟩
        unfold frameL
        rw [hh.1, ← hp, ← hr, ← e1, ← e2]
        have a1 : l = l.take 4 ++ l.drop 4 := (List.take_append_drop 4 l).symm
        have a2 : l.drop 4 = (l.drop 4).take 4 ++ l.drop 8 := by
          have := (List.take_append_drop 4 (l.drop 4)).symm
          rw [List.drop_drop] at this
          exact this
        have a3 : l.drop 8 = (l.drop 8).take (rd4 l) ++ l.drop (8 + rd4 l) := by
          have := (List.take_append_drop (rd4 l) (l.drop 8)).symm
          rw [List.drop_drop] at this
          exact this
        rw [List.append_assoc, List.append_assoc, ← a3, ← a2, ← a1]
      · cases h
theorem frames_keep (r : List UInt8) : ∀ (n : Nat) (l : List UInt8), l.length ≤ n → frames (l.take (frames l).2 ++ r) = ((frames l).1 ++ (frames r).1, (frames l).2 + (frames r).2) := by
  intro n
  induction n with
  | zero =>
    intro l hl
    have : step1 l = none := by unfold step1; rw [if_pos (by omega)]
    rw [frames_none this]
    simp
  | succ n ih =>
    intro l hl
    cases hs : step1 l with
    | none => rw [frames_none hs]; simp
    | some q =>
      obtain ⟨p, t⟩ := q
      obtain ⟨e, h1, h2⟩ := step1_split hs
      have hlen := (step1_some hs).2.2.2
      rw [frames_some hs]
      have e2 : l.take (8 + p.length + (frames t).2) = frameL p ++ t.take (frames t).2 := by
        have e3 : 8 + p.length = (frameL p).length := by rw [frameL_len]; omega
        rw [e, e3, List.take_length_add_append]
      simp only
      rw [e2, List.append_assoc, frames_frame p _ h1 h2, ih t (by omega)]
      simp [Nat.add_assoc]
theorem frames_take (l : List UInt8) : frames (l.take (frames l).2) = frames l := by
  have := frames_keep [] l.length l (Nat.le_refl _)
  rw [List.append_nil] at this
  rw [this, frames_none (show step1 [] = none by unfold step1; rw [if_pos (by decide)])]
  simp
def logN : ByteArray := ⟨#[108, 111, 103]⟩
theorem logN_valid : validN logN = true := by decide
theorem logN_size : logN.size ≤ maxLen := by decide
/-- A system with the one file "log". -/
def one (d : List UInt8) (s : Nat) : AS := ⟨[⟨logN.data.toList, d, s⟩], false, false, 0⟩
theorem begin_ok (st : AS) (nm : ByteArray) (h : validN nm = true) (h1 : st.off = false) (h2 : st.lim = false) : beginA st (validN nm) = (st, 0) := by
  unfold beginA
  rw [h, if_neg (by decide), if_neg (by rw [h1, h2]; simp)]
theorem find_one (d : List UInt8) (s : Nat) : findA logN.data.toList (one d s).files = some ⟨logN.data.toList, d, s⟩ := by
  unfold findA one
  simp only [findG, if_true]
theorem put_one (d d' : List UInt8) (s s' : Nat) : putG AF.name ⟨logN.data.toList, d', s'⟩ (one d s).files = (one d' s').files := by
  unfold one
  simp only [putG, if_true]
theorem append_empty (d : List UInt8) (hd : d.length ≤ 16777216) : appendA emptyA logN d = (one d 0, 0) := by
  rw [appendA_ok (by rw [begin_ok _ _ logN_valid rfl rfl])]
  rw [show findA logN.data.toList emptyA.files = none from rfl]
  simp only [Option.getD_none, List.length_nil, List.nil_append]
  rw [if_neg (by omega)]
  rfl
theorem append_one (d b : List UInt8) (s : Nat) (hd : d.length + b.length ≤ 16777216) : appendA (one d s) logN b = (one (d ++ b) s, 0) := by
  rw [appendA_ok (by rw [begin_ok _ _ logN_valid rfl rfl]), find_one]
  simp only [Option.getD_some]
  rw [if_neg (by omega), put_one]
  rfl
theorem sync_one (d : List UInt8) (s : Nat) : syncA (one d s) logN = (one d d.length, 0) := by
  rw [syncA_ok (by rw [begin_ok _ _ logN_valid rfl rfl]), find_one]
  simp only
  rw [put_one]
  rfl
theorem trunc_one (d : List UInt8) (s k : Nat) (hk : k ≤ d.length) : truncA (one d s) logN k = (one (d.take k) (min s k), 0) := by
  rw [truncA_ok (by rw [begin_ok _ _ logN_valid rfl rfl]), find_one]
  simp only
  rw [if_neg (by omega), show ((k : Int)).toNat = k by omega, put_one]
  rfl
theorem open_one (d : List UInt8) (s : Nat) (hs : s ≤ d.length) : openA (one d s) logN = ⟨one (d.take (frames d).2) (min s (frames d).2), some (frames d), 0⟩ := by
  have hk := (frames_len d.length d (Nat.le_refl _)).1
  unfold openA
  rw [find_one]
  simp only
  rw [trunc_one d s _ hk]
  simp only [if_true]
  by_cases h : (frames d).2 < d.length
  · rw [if_pos h]
  · rw [if_neg h, List.take_of_length_le (by omega), Nat.min_eq_left (by omega)]
theorem lapp_one (d b : List UInt8) (s : Nat) (c z : Int) (h0 : 1 ≤ b.length) (h1 : b.length ≤ 1048576) (hd : d.length + b.length + 8 ≤ 16777216) : lappA (one d s) logN c z false b = ⟨one (d ++ frameL b) s, c + 1, z + (b.length + 8 : Nat), false, 0⟩ := by
  unfold lappA
  rw [if_neg (by decide), if_neg (by omega), if_neg (by omega), append_one d _ s (by rw [frameL_len]; omega)]
  simp only [if_true]
theorem lsync_one (d : List UInt8) (s : Nat) (c : Int) (hc : c ≠ 0) : lsyncA (one d s) logN c false = (one d d.length, false, 0) := by
  unfold lsyncA
  rw [if_neg (by decide), if_neg hc, sync_one]
  simp only [if_true]
theorem frames_one (b : List UInt8) (h1 : 1 ≤ b.length) (h2 : b.length ≤ 1048576) : frames (frameL b) = ([b], 8 + b.length) := by
  have := frames_frame b [] h1 h2
  rw [List.append_nil, frames_none (show step1 [] = none by unfold step1; rw [if_pos (by decide)])] at this
  exact this
end Go.Proofs.Ytcppmmdkblmfoaa
