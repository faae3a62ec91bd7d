/- Plain laws of TypesCalls: each function's call with samples of its types, and the calls that are wrong. -/
import Derived.Test.YtfdpohceoabinaaAlive
namespace Go.Proofs.Ytfdpohceoabinaa
open Go.RowKit
def okT (τ : Tx) (r : Int) : Bool := τ.all isNT && (match typT τ with | .ok t => t == r | .error _ => false)
def isErrT (u : Value) : Bool := match u with | .iface t (.int .i64 c) => t == 33 && c == 12 | _ => false
def badT (τ : Tx) : Bool := τ.all isNT && (match typT τ with | .ok _ => false | .error u => isErrT u)
def fitT (τ : Tx) : Bool := decide (τ.size ≤ 900000) && τ.all (shortT 9223372036854775807)
theorem okT_of {τ : Tx} {r : Int} (h : okT τ r = true) : ofT τ = .tuple #[.int .i64 r, .nilIface] := by
  unfold okT at h
  rw [Bool.and_eq_true] at h
  unfold ofT
  rw [if_pos h.1]
  have h2 := h.2
  split at h2
  · rename_i t ht
    rw [ht]
    have : t = r := by simpa using h2
    rw [this]
  · cases h2
theorem isErrT_eq {u : Value} (h : isErrT u = true) : u = errV 12 := by
  unfold isErrT at h
  split at h
  · rename_i t c
    simp only [Bool.and_eq_true, beq_iff_eq] at h
    rw [h.1, h.2]; rfl
  · cases h
theorem badT_of {τ : Tx} (h : badT τ = true) : ofT τ = .tuple #[.int .i64 0, errV 12] := by
  unfold badT at h
  rw [Bool.and_eq_true] at h
  unfold ofT
  rw [if_pos h.1]
  have h2 := h.2
  split at h2
  · cases h2
  · rename_i u hu
    rw [hu, isErrT_eq h2]
theorem fitT_of {τ : Tx} (h : fitT τ = true) : τ.size ≤ 900000 ∧ τ.all (shortT 9223372036854775807) = true := by
  unfold fitT at h
  rw [Bool.and_eq_true] at h
  exact ⟨of_decide_eq_true h.1, h.2⟩
def wrongOk (nm : List UInt8) (S : List Int) (i : Nat) (t : Int) : Bool := (S[i]? == some t) || (badT (.node 4 nm 0 ((S.map sampleT).set i (sampleT t))) && fitT (.node 4 nm 0 ((S.map sampleT).set i (sampleT t))))
def chkC (nm : List UInt8) (S : List Int) (r : Int) : Bool :=
  okT (.node 4 nm 0 (S.map sampleT)) r && fitT (.node 4 nm 0 (S.map sampleT)) &&
  badT (.node 4 nm 0 (S.map sampleT ++ [numT 1])) && fitT (.node 4 nm 0 (S.map sampleT ++ [numT 1])) &&
  badT (.node 4 nm 0 ((S.map sampleT).drop 1)) && fitT (.node 4 nm 0 ((S.map sampleT).drop 1)) &&
  (List.range S.length).all (fun i => ([1, 2, 3, 4] : List Int).all fun t => wrongOk nm S i t) && decide (1 ≤ S.length) && decide (S.length ≤ 3)
def namesU : List (List UInt8) := [[108, 101, 110], [108, 105, 110, 101, 115], [115, 105, 122, 101], [99, 111, 109, 109, 111, 110], [109, 105, 110], [109, 97, 120], [43], [45], [42], [99, 111, 117, 110, 116], [61, 61], [33, 61], [60], [60, 61], [97, 110, 100], [111, 114], [110, 111, 116], [104, 97, 115], [43, 43], [99, 117, 116], [108, 105, 110, 101], [114, 101, 112], [112, 105, 99, 107], [102, 105, 110, 100], [114, 111, 119, 115], [115, 112, 97, 110], [119, 105, 116, 104, 105, 110], [111, 118, 101, 114], [117, 110, 105, 111, 110], [109, 105, 110, 117, 115], [97, 102, 116, 101, 114], [102, 105, 114, 115, 116]]
def namesS : List (List UInt8) := [[33, 61], [42], [43], [43, 43], [45], [60], [60, 61], [61, 61], [97, 102, 116, 101, 114], [97, 110, 100], [99, 111, 109, 109, 111, 110], [99, 111, 117, 110, 116], [99, 117, 116], [102, 105, 110, 100], [102, 105, 114, 115, 116], [104, 97, 115], [108, 101, 110], [108, 105, 110, 101], [108, 105, 110, 101, 115], [109, 97, 120], [109, 105, 110], [109, 105, 110, 117, 115], [110, 111, 116], [111, 114], [111, 118, 101, 114], [112, 105, 99, 107], [114, 101, 112], [114, 111, 119, 115], [115, 105, 122, 101], [115, 112, 97, 110], [117, 110, 105, 111, 110], [119, 105, 116, 104, 105, 110]]
theorem names_chk : (namesS.all fun nm => match sig nm with | some (S, r) => chkC nm S r | none => false) = true := by decide +kernel
structure CallOk (nm : List UInt8) (S : List Int) (r : Int) : Prop where
  sg : sig nm = some (S, r)
  all : ofT (.node 4 nm 0 (S.map sampleT)) = .tuple #[.int .i64 r, .nilIface]
  allF : fitT (.node 4 nm 0 (S.map sampleT)) = true
  more : ofT (.node 4 nm 0 (S.map sampleT ++ [numT 1])) = .tuple #[.int .i64 0, errV 12]
  moreF : fitT (.node 4 nm 0 (S.map sampleT ++ [numT 1])) = true
  less : ofT (.node 4 nm 0 ((S.map sampleT).drop 1)) = .tuple #[.int .i64 0, errV 12]
  lessF : fitT (.node 4 nm 0 ((S.map sampleT).drop 1)) = true
  wrong : ∀ i t, i < S.length → 1 ≤ t → t ≤ 4 → S[i]? ≠ some t → ofT (.node 4 nm 0 ((S.map sampleT).set i (sampleT t))) = .tuple #[.int .i64 0, errV 12] ∧ fitT (.node 4 nm 0 ((S.map sampleT).set i (sampleT t))) = true
  lo : 1 ≤ S.length
  hi : S.length ≤ 3
theorem names_ok (i : Nat) (h : i < 32) : ∃ nm S r, namesS[i]? = some nm ∧ CallOk nm S r := by
  have hl : i < namesS.length := h
  have hm := List.all_eq_true.1 names_chk namesS[i] (List.getElem_mem hl)
  refine ⟨namesS[i], ?_⟩
  split at hm
  · rename_i S r hs
    refine ⟨S, r, List.getElem?_eq_getElem hl, ?_⟩
    unfold chkC at hm
    simp only [Bool.and_eq_true, decide_eq_true_eq] at hm
    obtain ⟨⟨⟨⟨⟨⟨⟨⟨h1, h2⟩, h3⟩, h4⟩, h5⟩, h6⟩, h7⟩, h8⟩, h9⟩ := hm
    refine ⟨hs, okT_of h1, h2, badT_of h3, h4, badT_of h5, h6, fun j t hj h1 h4 hne => ?_, h8, h9⟩
    have hw := List.all_eq_true.1 (List.all_eq_true.1 h7 j (List.mem_range.2 hj)) t (by simp; omega)
    unfold wrongOk at hw
    rw [Bool.or_eq_true, Bool.and_eq_true] at hw
    rcases hw with hw | hw
    · exact absurd (by simpa using hw) hne
    · exact ⟨badT_of hw.1, hw.2⟩
  · cases hm
end Go.Proofs.Ytfdpohceoabinaa
