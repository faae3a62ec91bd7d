/- Plain: the frames with which bytes begin. No program is named. -/
import Derived.Test.YtcppmmdkblmfoaaCrc
namespace Go.Proofs.Ytcppmmdkblmfoaa
def val4 (b0 b1 b2 b3 : Nat) : Nat := ((b0 * 256 + b1) * 256 + b2) * 256 + b3
def bytes (l : List UInt8) : List Nat := l.map UInt8.toNat
theorem bytes_lt (l : List UInt8) : ∀ b ∈ bytes l, b < 256 := by
  intro b hb; simp only [bytes, List.mem_map] at hb; obtain ⟨x, _, rfl⟩ := hb; exact x.toNat_lt
def be4b (x : Nat) : List UInt8 := [UInt8.ofNat (x / 16777216), UInt8.ofNat (x / 65536 % 256), UInt8.ofNat (x / 256 % 256), UInt8.ofNat (x % 256)]
def frameL (l : List UInt8) : List UInt8 := be4b l.length ++ be4b (Crc.sum (bytes l)) ++ l
/-- The number that the first four bytes are. -/
def rd4 : List UInt8 → Nat
  | b0 :: b1 :: b2 :: b3 :: _ => val4 b0.toNat b1.toNat b2.toNat b3.toNat
  | _ => 0
theorem rd4_lt (l : List UInt8) : rd4 l < 4294967296 := by
  unfold rd4
  split
  · rename_i b0 b1 b2 b3 _
    have := b0.toNat_lt; have := b1.toNat_lt; have := b2.toNat_lt; have := b3.toNat_lt
    unfold val4; omega
  · omega
theorem rd4_be4b (x : Nat) (h : x < 4294967296) (r : List UInt8) : rd4 (be4b x ++ r) = x := by
  simp [be4b, rd4, val4, UInt8.toNat_ofNat']
  omega
/-- The first frame: its payload, and what follows it. -/
def step1 (l : List UInt8) : Option (List UInt8 × List UInt8) :=
  if l.length < 8 then none
  else if rd4 l < 1 ∨ 1048576 < rd4 l ∨ l.length - 8 < rd4 l then none
  else if Crc.sum (bytes ((l.drop 8).take (rd4 l))) = rd4 (l.drop 4) then some ((l.drop 8).take (rd4 l), l.drop (8 + rd4 l)) else none
theorem step1_some {l p r : List UInt8} (h : step1 l = some (p, r)) : p.length = rd4 l ∧ 1 ≤ p.length ∧ p.length ≤ 1048576 ∧ 8 + p.length + r.length = l.length := by
  unfold step1 at h
  split at h
  · cases h
  · split at h
    · cases h
    · split at h
      · simp only [Option.some.injEq, Prod.mk.injEq] at h
        obtain ⟨rfl, rfl⟩ := h
        simp
        omega
      · cases h
/-- All frames with which bytes begin, and their length. -/
def frames (l : List UInt8) : List (List UInt8) × Nat :=
  match h : step1 l with
  | none => ([], 0)
  | some (p, r) => (p :: (frames r).1, 8 + p.length + (frames r).2)
termination_by l.length
decreasing_by all_goals (have := step1_some h; omega)
theorem frames_none {l : List UInt8} (h : step1 l = none) : frames l = ([], 0) := by
  rw [frames]; split
  · rfl
  · rename_i h2; rw [h] at h2; cases h2
theorem frames_some {l p r : List UInt8} (h : step1 l = some (p, r)) : frames l = (p :: (frames r).1, 8 + p.length + (frames r).2) := by
  rw [frames]; split
  · rename_i h2; rw [h] at h2; cases h2
  · rename_i h2; rw [h] at h2; cases h2; rfl
theorem step1_frame (l r : List UInt8) (h1 : 1 ≤ l.length) (h2 : l.length ≤ 1048576) : step1 (frameL l ++ r) = some (l, r) := by
  have e1 : rd4 (frameL l ++ r) = l.length := by unfold frameL; rw [List.append_assoc, List.append_assoc]; exact rd4_be4b _ (by omega) _
  have e2 : (frameL l ++ r).drop 4 = be4b (Crc.sum (bytes l)) ++ (l ++ r) := by unfold frameL; simp [be4b]
  have e3 : (frameL l ++ r).drop 8 = l ++ r := by unfold frameL; simp [be4b]
  have e4 : (frameL l ++ r).length = 8 + l.length + r.length := by unfold frameL; simp [be4b]; omega
  have e5 : (frameL l ++ r).drop (8 + l.length) = r := by rw [← List.drop_drop, e3]; simp
  unfold step1
  rw [if_neg (by omega), e1, if_neg (by omega), e2, e3, rd4_be4b _ (Crc.sum_lt _ (bytes_lt l)), e5]
  simp
theorem frames_frame (l r : List UInt8) (h1 : 1 ≤ l.length) (h2 : l.length ≤ 1048576) : frames (frameL l ++ r) = (l :: (frames r).1, 8 + l.length + (frames r).2) :=
  frames_some (step1_frame l r h1 h2)
theorem frames_len : ∀ (n : Nat) (l : List UInt8), l.length ≤ n → (frames l).2 ≤ l.length ∧ 9 * (frames l).1.length ≤ l.length
  | 0, l, h => by
    have : step1 l = none := by unfold step1; rw [if_pos (by omega)]
    rw [frames_none this]; simp
  | n + 1, l, h => by
    cases hs : step1 l with
    | none => rw [frames_none hs]; simp
    | some x =>
      obtain ⟨p, r⟩ := x
      have := step1_some hs
      have := frames_len n r (by omega)
      rw [frames_some hs]; simp; omega
end Go.Proofs.Ytcppmmdkblmfoaa
