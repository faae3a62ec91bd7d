/- The walks of the parser's digit, punctuation, escape. -/
import Derived.Test.YtfdpohceoabinaaPar
namespace Go.Proofs.Ytfdpohceoabinaa
open Go.RowKit
/-- What a part of the parser does: v and the place k', or it fails. -/
def PRes (T : List UInt8) (w : World) (g : Nat) (r : Option (Value × Nat)) (e : Ending) (w' : World) : Prop := match r with
  | some (v, k') => PStep T w g v k' e w'
  | none => PFail T w g e w'
theorem PStep.then_ {T : List UInt8} {w w1 w' : World} {g k' : Nat} {v : Value} {e : Ending} (hk : Kept (isG g) w w1) (h : PStep T w1 g v k' e w') : PStep T w g v k' e w' := ⟨h.1, h.2.1, hk.then_ h.2.2⟩
theorem PFail.then_ {T : List UInt8} {w w1 w' : World} {g : Nat} {e : Ending} (hk : Kept (isG g) w w1) (h : PFail T w1 g e w') : PFail T w g e w' := ⟨h.1, h.2.1, hk.then_ h.2.2⟩
theorem digit_none {T : List UInt8} {g k : Nat} (w : World) (h : PS T w g k) (hb : T[k]? = none) : Calls Try.prog 72 #[.pointer (some ⟨g, 0, none⟩)] w (PFail T w g) := by
  have H := Lib.hid h
  have HB := Lib.hid hb
  clear h hb
  go_enter Try.func72, Try.ntmps72
  go_wp2_with fail
  refine (next_none _ H.out HB.out).mono ?_
  rintro e w1 ⟨rfl, ⟨k1, h1⟩, hk⟩
  go_wp2_with fail
  exact ⟨rfl, rfl, ⟨k1, h1⟩, hk⟩
theorem u8_int (b : UInt8) : 0 ≤ (b.toNat : Int) ∧ (b.toNat : Int) ≤ 255 := by have := b.toNat_lt; omega
theorem digit_in {T : List UInt8} {g k d : Nat} {b : UInt8} (w : World) (h : PS T w g k) (hb : T[k]? = some b) (hd : hexd b = some d) : Calls Try.prog 72 #[.pointer (some ⟨g, 0, none⟩)] w (PStep T w g (.int .u8 d) (k + 1)) := by
  have hn := next_some w h hb
  obtain ⟨hx0, hx1⟩ := u8_int b
  have HN := Lib.hid hn
  clear hn h hb
  unfold hexd at hd
  simp only [UInt8.le_iff_toNat_le] at hd
  rw [show (48 : UInt8).toNat = 48 from rfl, show (57 : UInt8).toNat = 57 from rfl, show (97 : UInt8).toNat = 97 from rfl, show (102 : UInt8).toNat = 102 from rfl, show (65 : UInt8).toNat = 65 from rfl, show (70 : UInt8).toNat = 70 from rfl] at hd
  have hc : (48 ≤ (b.toNat : Int) ∧ (b.toNat : Int) ≤ 57 ∧ (d : Int) = b.toNat - 48) ∨ (97 ≤ (b.toNat : Int) ∧ (b.toNat : Int) ≤ 102 ∧ (d : Int) = b.toNat - 97 + 10) ∨ (65 ≤ (b.toNat : Int) ∧ (b.toNat : Int) ≤ 70 ∧ (d : Int) = b.toNat - 65 + 10) := by
    split at hd
    · injection hd with hd; omega
    split at hd
    · injection hd with hd; omega
    split at hd
    · injection hd with hd; omega
    · cases hd
  clear hd
  generalize (b.toNat : Int) = x at *
  generalize (d : Int) = y at *
  rcases hc with ⟨h1, h2, rfl⟩ | ⟨h1, h2, rfl⟩ | ⟨h1, h2, rfl⟩
  all_goals
    go_enter Try.func72, Try.ntmps72
    go_wp2_with fail
    refine HN.out.mono ?_
    rintro e w1 ⟨rfl, hp, hk⟩
    go_wp2_with fail
    go_ret
    exact ⟨rfl, hp, hk⟩
theorem digit_out {T : List UInt8} {g k : Nat} {b : UInt8} (w : World) (h : PS T w g k) (hb : T[k]? = some b) (hd : hexd b = none) : Calls Try.prog 72 #[.pointer (some ⟨g, 0, none⟩)] w (PFail T w g) := by
  have hn := next_some w h hb
  obtain ⟨hx0, hx1⟩ := u8_int b
  have HN := Lib.hid hn
  clear hn h hb
  unfold hexd at hd
  simp only [UInt8.le_iff_toNat_le] at hd
  rw [show (48 : UInt8).toNat = 48 from rfl, show (57 : UInt8).toNat = 57 from rfl, show (97 : UInt8).toNat = 97 from rfl, show (102 : UInt8).toNat = 102 from rfl, show (65 : UInt8).toNat = 65 from rfl, show (70 : UInt8).toNat = 70 from rfl] at hd
  have hc : (b.toNat : Int) < 48 ∨ (57 < (b.toNat : Int) ∧ (b.toNat : Int) < 65) ∨ (70 < (b.toNat : Int) ∧ (b.toNat : Int) < 97) ∨ 102 < (b.toNat : Int) := by
    split at hd
    · cases hd
    split at hd
    · cases hd
    split at hd
    · cases hd
    · omega
  clear hd
  generalize (b.toNat : Int) = x at *
  rcases hc with h1 | ⟨h1, h2⟩ | ⟨h1, h2⟩ | h1
  all_goals
    go_enter Try.func72, Try.ntmps72
    go_wp2_with fail
    refine HN.out.mono ?_
    rintro e w1 ⟨rfl, hp, hk⟩
    go_wp2_with fail
    exact ⟨rfl, rfl, ⟨_, hp⟩, hk⟩
def dV (r : Option (Nat × Nat)) : Option (Value × Nat) := r.map fun p => (.int .u8 p.1, p.2)
theorem digit_any {T : List UInt8} {g k : Nat} (w : World) (h : PS T w g k) : Calls Try.prog 72 #[.pointer (some ⟨g, 0, none⟩)] w (PRes T w g (dV (digitP T k))) := by
  unfold digitP
  rcases hb : T[k]? with _ | b
  · exact digit_none w h hb
  · simp only
    rcases hd : hexd b with _ | d
    · exact digit_out w h hb hd
    · exact digit_in w h hb hd
theorem punct_any (b : UInt8) (w : World) : Calls Try.prog 73 #[.int .u8 b.toNat] w fun e w' => e = .returned (.bool (punct b)) ∧ w = w' := by
  obtain ⟨hx0, hx1⟩ := u8_int b
  have hp : punct b = ((decide (33 ≤ (b.toNat : Int)) && decide ((b.toNat : Int) ≤ 47)) || (decide (58 ≤ (b.toNat : Int)) && decide ((b.toNat : Int) ≤ 64)) || (decide (91 ≤ (b.toNat : Int)) && decide ((b.toNat : Int) ≤ 96)) || (decide (123 ≤ (b.toNat : Int)) && decide ((b.toNat : Int) ≤ 126))) := by
    unfold punct
    rw [Bool.eq_iff_iff]
    simp [UInt8.le_iff_toNat_le]
    omega
  rw [hp]
  clear hp
  generalize (b.toNat : Int) = x at *
  have hc : x < 33 ∨ (33 ≤ x ∧ x ≤ 47) ∨ (47 < x ∧ x < 58) ∨ (58 ≤ x ∧ x ≤ 64) ∨ (64 < x ∧ x < 91) ∨ (91 ≤ x ∧ x ≤ 96) ∨ (96 < x ∧ x < 123) ∨ (123 ≤ x ∧ x ≤ 126) ∨ 126 < x := by omega
  have hr : ∀ q : Bool, ((decide (33 ≤ x) && decide (x ≤ 47)) || (decide (58 ≤ x) && decide (x ≤ 64)) || (decide (91 ≤ x) && decide (x ≤ 96)) || (decide (123 ≤ x) && decide (x ≤ 126))) = q → (Calls Try.prog 73 #[.int .u8 x] w fun e w' => e = .returned (.bool q) ∧ w = w') := by
    intro q hq
    have HQ := Lib.hid hq
    clear hq
    rcases hc with h1 | ⟨h1, h2⟩ | ⟨h1, h2⟩ | ⟨h1, h2⟩ | ⟨h1, h2⟩ | ⟨h1, h2⟩ | ⟨h1, h2⟩ | ⟨h1, h2⟩ | h1
    all_goals
      go_enter Try.func73, Try.ntmps73
      go_wp2_with fail
      go_ret
      refine ⟨?_, rfl⟩
      rw [← HQ.out]
      refine congrArg (fun z => Ending.returned (.bool z)) ?_
      show _ = (_ : Bool)
      rw [Bool.eq_iff_iff]
      simp
      try omega
  exact hr _ rfl
end Go.Proofs.Ytfdpohceoabinaa
