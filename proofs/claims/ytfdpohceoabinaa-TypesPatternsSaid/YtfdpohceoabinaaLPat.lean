/- The walk of the law TypesPatterns. -/
import Derived.Test.YtfdpohceoabinaaAlive
import Derived.Deep.LoopGhost
namespace Go.Proofs.Ytfdpohceoabinaa
open Go.RowKit
def patN : List (List UInt8 × Int) := [([99, 111, 117, 110, 116], 1), ([104, 97, 115], 2), ([102, 105, 110, 100], 4)]
theorem pat_sig (q : List UInt8 × Int) (hq : q ∈ patN) : sig q.1 = some ([3, 0], q.2) := by
  have h : q = ([99, 111, 117, 110, 116], 1) ∨ q = ([104, 97, 115], 2) ∨ q = ([102, 105, 110, 100], 4) := by simpa [patN] using hq
  rcases h with rfl | rfl | rfl <;> (show (_ : Option (List Int × Int)) = _; kernel_rfl)
theorem pat_take (q : List UInt8 × Int) (hq : q ∈ patN) : takeR q.1 3 0 0 3 = some 0 := by
  have h : q = ([99, 111, 117, 110, 116], 1) ∨ q = ([104, 97, 115], 2) ∨ q = ([102, 105, 110, 100], 4) := by simpa [patN] using hq
  rcases h with rfl | rfl | rfl <;> (show (_ : Option Int) = _; kernel_rfl)
theorem pat_typ (q : List UInt8 × Int) (hq : q ∈ patN) (k : Int) (p : List UInt8) : typT (.node 4 q.1 0 [sampleT 3, .node k p 0 []]) = (if k = 2 then (if (parseR p).isSome = true then .ok q.2 else .error (parseE p)) else .error errT) := by
  have h1 : typT (sampleT 3) = .ok 3 := by kernel_rfl
  unfold typT
  rw [if_neg (by decide), if_pos rfl, pat_sig q hq]
  dsimp only
  rw [if_pos (show ([3, 0] : List Int).length = [sampleT 3, Tx.node k p 0 []].length from rfl)]
  unfold typTL
  rw [if_neg (by decide), h1]
  dsimp only
  rw [pat_take q hq]
  dsimp only
  unfold typTL
  rw [if_pos rfl]
  unfold typTL
  rfl
theorem pat_node (q : List UInt8 × Int) (hq : q ∈ patN) (k : Int) (hk : k = 2 ∨ k = 3) (p : List UInt8) (hp : p.length ≤ 1000) :
    Tx.all isNT (.node 4 q.1 0 [sampleT 3, .node k p 0 []]) = true ∧ Tx.size (.node 4 q.1 0 [sampleT 3, .node k p 0 []]) ≤ 900000 ∧ Tx.all (shortT 9223372036854775807) (.node 4 q.1 0 [sampleT 3, .node k p 0 []]) = true := by
  have h : q = ([99, 111, 117, 110, 116], 1) ∨ q = ([104, 97, 115], 2) ∨ q = ([102, 105, 110, 100], 4) := by simpa [patN] using hq
  have hs : shortT 9223372036854775807 (.node k p 0 []) = true := by
    unfold shortT
    have : (Tx.node k p 0 []).text = p := rfl
    rw [this]
    exact decide_eq_true (by omega)
  have hn : isNT (.node k p 0 []) = true := by rcases hk with rfl | rfl <;> rfl
  have e1 : ∀ f : Tx → Bool, Tx.all f (.node 4 q.1 0 [sampleT 3, .node k p 0 []]) = (f (.node 4 q.1 0 [sampleT 3, .node k p 0 []]) && (Tx.all f (sampleT 3) && ((f (.node k p 0 []) && true) && true))) := fun f => rfl
  refine ⟨?_, ?_, ?_⟩
  · rw [e1, hn]
    rfl
  · have : Tx.size (.node 4 q.1 0 [sampleT 3, .node k p 0 []]) = 3 := rfl
    omega
  · rw [e1, hs]
    rcases h with rfl | rfl | rfl <;> rfl
/-- The error of a pattern, by its number. -/
def patE (p : List UInt8) : Int := if bigT p then 9 else match parseP p with
  | none => 4
  | some r => if r.fits then 0 else 9
theorem patE_eq (p : List UInt8) : parseE p = errV (patE p) := by
  unfold parseE patE
  by_cases hb : bigT p = true
  · rw [if_pos hb, if_pos hb]; rfl
  · rw [if_neg hb, if_neg hb]
    cases parseP p with
    | none => rfl
    | some r =>
      dsimp only
      by_cases hf : r.fits = true
      · rw [if_pos hf, if_pos hf]; rfl
      · rw [if_neg hf, if_neg hf]; rfl
theorem patE_some (p : List UInt8) : (parseR p).isSome = true ↔ patE p = 0 := by
  unfold parseR patE
  by_cases hb : bigT p = true
  · rw [if_pos hb, if_pos hb]; simp
  · rw [if_neg hb, if_neg hb]
    cases parseP p with
    | none => simp
    | some r =>
      dsimp only
      by_cases hf : r.fits = true
      · rw [if_pos hf, if_pos hf]; simp
      · rw [if_neg hf, if_neg hf]; simp
theorem pat_of (q : List UInt8 × Int) (hq : q ∈ patN) (p : List UInt8) (hp : p.length ≤ 1000) : ofT (.node 4 q.1 0 [sampleT 3, .node 2 p 0 []]) = .tuple #[.int .i64 (if patE p = 0 then q.2 else 0), errV (patE p)] := by
  unfold ofT
  rw [if_pos (pat_node q hq 2 (.inl rfl) p hp).1, pat_typ q hq, if_pos rfl]
  by_cases h : patE p = 0
  · rw [if_pos ((patE_some p).2 h), if_pos h, h]
    rfl
  · rw [if_neg (fun hh => h ((patE_some p).1 hh)), if_neg h, patE_eq]
theorem pat_ref (q : List UInt8 × Int) (hq : q ∈ patN) (p : List UInt8) (hp : p.length ≤ 1000) : ofT (.node 4 q.1 0 [sampleT 3, .node 3 p 0 []]) = .tuple #[.int .i64 0, errV 12] := by
  unfold ofT
  rw [if_pos (pat_node q hq 3 (.inr rfl) p hp).1, pat_typ q hq, if_neg (by decide)]
  rfl
def patC : Array Value := #[.string ⟨#[99, 111, 117, 110, 116]⟩, .string ⟨#[104, 97, 115]⟩, .string ⟨#[102, 105, 110, 100]⟩]
def PatRel (w : World) (g : Nat) (f : Nat) (i : Value) (wr : World) : Prop := ∃ k : Nat, i = .int .i64 k ∧ k ≤ 3 ∧ 3 - k < f ∧ Hid (Blk wr g 9 patC) ∧ w.heap.size ≤ g ∧ Hid (Below w.heap.size w wr)
set_option maxRecDepth 100000 in
set_option maxHeartbeats 4000000 in
theorem pat_big (s : ByteArray) (hs : 1000 < s.size) (h2 : s.size ≤ 9223372036854775807) (w : World) : Calls Try.prog 4 #[.string s] w (AwEnd w) := by
  have h1 : decide ((1000 : Int) < (s.size : Int)) = true := by simp; omega
  have h3 : decide (1000 < s.size) = true := by simp; omega
  go_enter Try.func4, Try.ntmps4
  go_wp2_with fail
  go_ret
  exact ⟨rfl, Below.refl _ _⟩
theorem treeOr_form {w w' : World} {r : Option Rx} {cs : List Value} (h : TreeOr w w' r cs) : ∃ kd a0 a1 a2 a3 lo hi A n c, cs = [.int .i64 kd, .int .u64 a0, .int .u64 a1, .int .u64 a2, .int .u64 a3, .int .i64 lo, .int .i64 hi, .slice A n c] := by
  unfold TreeOr at h
  split at h
  · exact ⟨_, _, _, _, _, _, _, _, _, _, h⟩
  · rename_i r
    obtain ⟨kd, a, b, c, d, lo, hi, l⟩ := r
    obtain ⟨h, _⟩ := h
    unfold RxV at h
    obtain ⟨A, c, css, h, _⟩ := h
    exact ⟨_, _, _, _, _, _, _, _, _, _, h⟩
set_option maxRecDepth 100000 in
set_option maxHeartbeats 4000000 in
theorem pat_fine (p : List UInt8) (hp : p.length ≤ 1000) (hE : patE p = 0) (w : World) : Calls Try.prog 4 #[.string ⟨p.toArray⟩] w (AwEnd w) := by
  have hsz : (ByteArray.mk p.toArray).size = p.length := by simp [ByteArray.size]
  have h1 : decide ((1000 : Int) < (p.length : Int)) = false := by simp; omega
  have h3 : decide (1000 < p.length) = false := by simp; omega
  have HPC := Lib.hid hE
  have HPE : Hid (parseE p = .nilIface) := Lib.hid (by rw [patE_eq, hE]; rfl)
  clear hE
  go_enter Try.func4, Try.ntmps4
  go_wp2_with fail
  refine (alive_any _).mono ?_
  rintro e w1 ⟨rfl, hb1⟩
  have HB1 := Lib.hid hb1
  have hz1 := hb1.size
  clear hb1
  go_wp2_with fail
  refine (parse_any p _ (by omega)).mono ?_
  rintro e w2 ⟨⟨cs, rfl, htr⟩, hb2⟩
  obtain ⟨kd, a0, a1, a2, a3, lo, hi, A, n, c, rfl⟩ := treeOr_form htr
  rw [HPE.out]
  have HB2 := Lib.hid (HB1.out.trans (hb2.mono hz1))
  have hz2 := hb2.size
  clear hb2 htr
  go_wp2_with fail
  go_loopg [29, 6, 7, 8, 9, 10, 11] 4 (fun f i _ _ _ _ _ _ wr => PatRel w (w2.heap.size + 1) f i wr)
  case atStart => exact ⟨0, rfl, by omega, by omega, Lib.hid (by have := Blk.new (w2.alloc (.cells #[.int .i64 kd, .int .u64 a0, .int .u64 a1, .int .u64 a2, .int .u64 a3, .int .i64 lo, .int .i64 hi, .slice A n c] 41)) 9 patC; simpa [patC] using this), by omega, Lib.hid ((HB2.out.alloc (by omega) _).alloc (by simp; omega) _)⟩
  case round =>
    obtain ⟨k, rfl, hk4, hkf, HN, hgl, HBW⟩ := hrel
    obtain ⟨f, rfl⟩ : ∃ f, gk = f + 1 := ⟨gk - 1, by omega⟩
    have hbl := HN.out.lt
    by_cases hlt : k < 3
    · have hC : ∃ q, q ∈ patN ∧ wr.cell? ⟨w2.heap.size + 1, k, none⟩ = some (.string ⟨List.toArray q.1⟩) := by
        rw [HN.out.cell]
        have : k = 0 ∨ k = 1 ∨ k = 2 := by omega
        rcases this with rfl | rfl | rfl
        · exact ⟨([99, 111, 117, 110, 116], 1), by simp [patN], rfl⟩
        · exact ⟨([104, 97, 115], 2), by simp [patN], rfl⟩
        · exact ⟨([102, 105, 110, 100], 4), by simp [patN], rfl⟩
      obtain ⟨⟨q1, q2⟩, hq, hc⟩ := hC
      have hc : wr.cell? ⟨w2.heap.size + 1, k, none⟩ = some (.string ⟨q1.toArray⟩) := hc
      have HQ := Lib.hid hq
      have HSG := Lib.hid (pat_sig _ hq)
      have HO1 := Lib.hid (show ofT (.node 4 q1 0 [sampleT 3, .node 2 p 0 []]) = .tuple #[.int .i64 q2, .nilIface] by have := pat_of _ hq p hp; rw [HPC.out, if_pos rfl] at this; exact this)
      have HO2 := Lib.hid (show ofT (.node 4 q1 0 [sampleT 3, .node 3 p 0 []]) = .tuple #[.int .i64 0, errV 12] from pat_ref _ hq p hp)
      clear hq
      go_wp2_with fail
      refine (sigX_any q1 _).mono ?_
      rintro e w3 ⟨hb3, h3⟩
      have HSG : Hid (sig q1 = some ([3, 0], q2)) := HSG
      rw [HSG.out] at h3
      obtain ⟨c3, rfl, _⟩ := h3
      have HB3 := Lib.hid hb3
      have hz3 := hb3.size
      clear hb3
      go_wp2_with fail
      refine (sample_any 3 _).mono ?_
      rintro e w4 ⟨cs1, rfl, hn1, hb4⟩
      obtain ⟨k1, t1, m1, A1, n1, c1, rfl⟩ := hn1.form
      have HN1 := Lib.hid hn1
      have HB4 := Lib.hid (HB3.out.trans (hb4.mono hz3))
      have hz4 := hb4.size
      clear hn1 hb4
      go_wp2_with fail
      refine (lw_word _ _).mono ?_
      rintro e w5 ⟨rfl, hb5⟩
      have HN1 := Lib.hid (HN1.out.below hb5)
      have HB5 := Lib.hid (HB4.out.trans (hb5.mono (by omega)))
      have hz5 := hb5.size
      clear hb5
      go_wp2_with fail
      refine (lw_call _ _ _ _ _).mono ?_
      rintro e w6 ⟨rfl, hb6⟩
      have HR6 := Lib.hid ((Blk.new w5 29 _).below hb6 (by simp))
      have hb56 : Below w5.heap.size w5 w6 := ((Below.refl _ _).alloc (Nat.le_refl _) _).trans (hb6.mono (by simp))
      have HN1 := Lib.hid (HN1.out.below hb56)
      have HB6 := Lib.hid (HB5.out.trans (hb56.mono (by omega)))
      have hz6 := hb6.size
      simp at hz6
      clear hb6 hb56
      have hnc : NodeV w6 (fun i => i < w6.heap.size) _ _ := node_call2 (c := 2) HR6.out (by omega) HN1.out (NodeV.leaf w6 _ 2 p 0) q1
      have hsm := pat_node _ HQ.out 2 (.inl rfl) p hp
      have hof := of_tx _ _ w6 hnc hsm.2.1 hsm.2.2
      rw [HO1.out] at hof
      have HOF := Lib.hid hof
      clear hof hnc hsm
      go_wp2_with fail
      refine HOF.out.mono ?_
      rintro e w7 ⟨rfl, hb7⟩
      have HB7 := Lib.hid (HB6.out.trans (hb7.mono (by omega)))
      have hz7 := hb7.size
      clear hb7
      go_wp2_with fail
      refine (num_nil _).mono ?_
      rintro e w8 ⟨rfl, rfl⟩
      go_wp2_with fail
      refine (num_nil _).mono ?_
      rintro e w8 ⟨rfl, rfl⟩
      go_wp2_with fail
      refine (sample_any 3 _).mono ?_
      rintro e w8 ⟨cs2, rfl, hn1, hb8⟩
      obtain ⟨k2, t2, m2, A2, n2, c2, rfl⟩ := hn1.form
      have HN1 := Lib.hid hn1
      have HB8 := Lib.hid (HB7.out.trans (hb8.mono (by omega)))
      have hz8 := hb8.size
      clear hn1 hb8
      go_wp2_with fail
      refine (lw_call _ _ _ _ _).mono ?_
      rintro e w9 ⟨rfl, hb9⟩
      have HR9 := Lib.hid ((Blk.new w8 29 _).below hb9 (by simp))
      have hb89 : Below w8.heap.size w8 w9 := ((Below.refl _ _).alloc (Nat.le_refl _) _).trans (hb9.mono (by simp))
      have HN1 := Lib.hid (HN1.out.below hb89)
      have HB9 := Lib.hid (HB8.out.trans (hb89.mono (by omega)))
      have hz9 := hb9.size
      simp at hz9
      clear hb9 hb89
      have hnc : NodeV w9 (fun i => i < w9.heap.size) _ _ := node_call2 (c := 2) HR9.out (by omega) HN1.out (NodeV.leaf w9 _ 3 p 0) q1
      have hsm := pat_node _ HQ.out 3 (.inr rfl) p hp
      have hof := of_tx _ _ w9 hnc hsm.2.1 hsm.2.2
      rw [HO2.out] at hof
      have HOF := Lib.hid hof
      clear hof hnc hsm
      go_wp2_with fail
      refine HOF.out.mono ?_
      rintro e w10 ⟨rfl, hb10⟩
      have HB10 := Lib.hid (HB9.out.trans (hb10.mono (by omega)))
      clear hb10
      go_wp2_with fail
      refine (is_errV 12 12 _ (by decide)).mono ?_
      rintro e w11 ⟨rfl, rfl⟩
      go_wp2_with fail
      go_roundg f
      case measure => omega
      case rel => exact ⟨k + 1, by go_num, by omega, by omega, Lib.hid (HN.out.below HB10.out hbl), hgl, Lib.hid (HBW.out.trans (HB10.out.mono HBW.out.size))⟩
    · go_wp2_with fail
      go_ret
      exact ⟨rfl, HBW.out⟩
set_option maxRecDepth 100000 in
set_option maxHeartbeats 4000000 in
theorem pat_bad (p : List UInt8) (hp : p.length ≤ 1000) (c0 : Int) (hE : patE p = c0) (hc0 : c0 ≠ 0) (w : World) : Calls Try.prog 4 #[.string ⟨p.toArray⟩] w (AwEnd w) := by
  have hsz : (ByteArray.mk p.toArray).size = p.length := by simp [ByteArray.size]
  have h1 : decide ((1000 : Int) < (p.length : Int)) = false := by simp; omega
  have h3 : decide (1000 < p.length) = false := by simp; omega
  have HPC := Lib.hid hE
  have e1 : errV c0 = .iface 33 (.int .i64 c0) := if_neg hc0
  have HPE : Hid (parseE p = .iface 33 (.int .i64 c0)) := Lib.hid (by rw [patE_eq, hE, e1])
  have HE1 := Lib.hid e1
  have HC0 := Lib.hid hc0
  clear hE e1 hc0
  go_enter Try.func4, Try.ntmps4
  go_wp2_with fail
  refine (alive_any _).mono ?_
  rintro e w1 ⟨rfl, hb1⟩
  have HB1 := Lib.hid hb1
  have hz1 := hb1.size
  clear hb1
  go_wp2_with fail
  refine (parse_any p _ (by omega)).mono ?_
  rintro e w2 ⟨⟨cs, rfl, htr⟩, hb2⟩
  obtain ⟨kd, a0, a1, a2, a3, lo, hi, A, n, c, rfl⟩ := treeOr_form htr
  rw [HPE.out]
  have HB2 := Lib.hid (HB1.out.trans (hb2.mono hz1))
  have hz2 := hb2.size
  clear hb2 htr
  go_wp2_with fail
  go_loopg [29, 6, 7, 8, 9, 10, 11] 4 (fun f i _ _ _ _ _ _ wr => PatRel w (w2.heap.size + 1) f i wr)
  case atStart => exact ⟨0, rfl, by omega, by omega, Lib.hid (by have := Blk.new (w2.alloc (.cells #[.int .i64 kd, .int .u64 a0, .int .u64 a1, .int .u64 a2, .int .u64 a3, .int .i64 lo, .int .i64 hi, .slice A n c] 41)) 9 patC; simpa [patC] using this), by omega, Lib.hid ((HB2.out.alloc (by omega) _).alloc (by simp; omega) _)⟩
  case round =>
    obtain ⟨k, rfl, hk4, hkf, HN, hgl, HBW⟩ := hrel
    obtain ⟨f, rfl⟩ : ∃ f, gk = f + 1 := ⟨gk - 1, by omega⟩
    have hbl := HN.out.lt
    by_cases hlt : k < 3
    · have hC : ∃ q, q ∈ patN ∧ wr.cell? ⟨w2.heap.size + 1, k, none⟩ = some (.string ⟨List.toArray q.1⟩) := by
        rw [HN.out.cell]
        have : k = 0 ∨ k = 1 ∨ k = 2 := by omega
        rcases this with rfl | rfl | rfl
        · exact ⟨([99, 111, 117, 110, 116], 1), by simp [patN], rfl⟩
        · exact ⟨([104, 97, 115], 2), by simp [patN], rfl⟩
        · exact ⟨([102, 105, 110, 100], 4), by simp [patN], rfl⟩
      obtain ⟨⟨q1, q2⟩, hq, hc⟩ := hC
      have hc : wr.cell? ⟨w2.heap.size + 1, k, none⟩ = some (.string ⟨q1.toArray⟩) := hc
      have HQ := Lib.hid hq
      have HSG := Lib.hid (pat_sig _ hq)
      have HO1 := Lib.hid (show ofT (.node 4 q1 0 [sampleT 3, .node 2 p 0 []]) = .tuple #[.int .i64 0, .iface 33 (.int .i64 c0)] by have := pat_of _ hq p hp; rw [HPC.out, if_neg HC0.out, HE1.out] at this; exact this)
      have HO2 := Lib.hid (show ofT (.node 4 q1 0 [sampleT 3, .node 3 p 0 []]) = .tuple #[.int .i64 0, errV 12] from pat_ref _ hq p hp)
      clear hq
      go_wp2_with fail
      refine (sigX_any q1 _).mono ?_
      rintro e w3 ⟨hb3, h3⟩
      have HSG : Hid (sig q1 = some ([3, 0], q2)) := HSG
      rw [HSG.out] at h3
      obtain ⟨c3, rfl, _⟩ := h3
      have HB3 := Lib.hid hb3
      have hz3 := hb3.size
      clear hb3
      go_wp2_with fail
      refine (sample_any 3 _).mono ?_
      rintro e w4 ⟨cs1, rfl, hn1, hb4⟩
      obtain ⟨k1, t1, m1, A1, n1, c1, rfl⟩ := hn1.form
      have HN1 := Lib.hid hn1
      have HB4 := Lib.hid (HB3.out.trans (hb4.mono hz3))
      have hz4 := hb4.size
      clear hn1 hb4
      go_wp2_with fail
      refine (lw_word _ _).mono ?_
      rintro e w5 ⟨rfl, hb5⟩
      have HN1 := Lib.hid (HN1.out.below hb5)
      have HB5 := Lib.hid (HB4.out.trans (hb5.mono (by omega)))
      have hz5 := hb5.size
      clear hb5
      go_wp2_with fail
      refine (lw_call _ _ _ _ _).mono ?_
      rintro e w6 ⟨rfl, hb6⟩
      have HR6 := Lib.hid ((Blk.new w5 29 _).below hb6 (by simp))
      have hb56 : Below w5.heap.size w5 w6 := ((Below.refl _ _).alloc (Nat.le_refl _) _).trans (hb6.mono (by simp))
      have HN1 := Lib.hid (HN1.out.below hb56)
      have HB6 := Lib.hid (HB5.out.trans (hb56.mono (by omega)))
      have hz6 := hb6.size
      simp at hz6
      clear hb6 hb56
      have hnc : NodeV w6 (fun i => i < w6.heap.size) _ _ := node_call2 (c := 2) HR6.out (by omega) HN1.out (NodeV.leaf w6 _ 2 p 0) q1
      have hsm := pat_node _ HQ.out 2 (.inl rfl) p hp
      have hof := of_tx _ _ w6 hnc hsm.2.1 hsm.2.2
      rw [HO1.out] at hof
      have HOF := Lib.hid hof
      clear hof hnc hsm
      go_wp2_with fail
      refine HOF.out.mono ?_
      rintro e w7 ⟨rfl, hb7⟩
      have HB7 := Lib.hid (HB6.out.trans (hb7.mono (by omega)))
      have hz7 := hb7.size
      clear hb7
      go_wp2_with fail
      refine (num_err c0 _).mono ?_
      rintro e w8 ⟨rfl, rfl⟩
      go_wp2_with fail
      refine (num_err c0 _).mono ?_
      rintro e w8 ⟨rfl, rfl⟩
      go_wp2_with fail
      refine (sample_any 3 _).mono ?_
      rintro e w8 ⟨cs2, rfl, hn1, hb8⟩
      obtain ⟨k2, t2, m2, A2, n2, c2, rfl⟩ := hn1.form
      have HN1 := Lib.hid hn1
      have HB8 := Lib.hid (HB7.out.trans (hb8.mono (by omega)))
      have hz8 := hb8.size
      clear hn1 hb8
      go_wp2_with fail
      refine (lw_call _ _ _ _ _).mono ?_
      rintro e w9 ⟨rfl, hb9⟩
      have HR9 := Lib.hid ((Blk.new w8 29 _).below hb9 (by simp))
      have hb89 : Below w8.heap.size w8 w9 := ((Below.refl _ _).alloc (Nat.le_refl _) _).trans (hb9.mono (by simp))
      have HN1 := Lib.hid (HN1.out.below hb89)
      have HB9 := Lib.hid (HB8.out.trans (hb89.mono (by omega)))
      have hz9 := hb9.size
      simp at hz9
      clear hb9 hb89
      have hnc : NodeV w9 (fun i => i < w9.heap.size) _ _ := node_call2 (c := 2) HR9.out (by omega) HN1.out (NodeV.leaf w9 _ 3 p 0) q1
      have hsm := pat_node _ HQ.out 3 (.inr rfl) p hp
      have hof := of_tx _ _ w9 hnc hsm.2.1 hsm.2.2
      rw [HO2.out] at hof
      have HOF := Lib.hid hof
      clear hof hnc hsm
      go_wp2_with fail
      refine HOF.out.mono ?_
      rintro e w10 ⟨rfl, hb10⟩
      have HB10 := Lib.hid (HB9.out.trans (hb10.mono (by omega)))
      clear hb10
      go_wp2_with fail
      refine (is_errV 12 12 _ (by decide)).mono ?_
      rintro e w11 ⟨rfl, rfl⟩
      go_wp2_with fail
      go_roundg f
      case measure => omega
      case rel => exact ⟨k + 1, by go_num, by omega, by omega, Lib.hid (HN.out.below HB10.out hbl), hgl, Lib.hid (HBW.out.trans (HB10.out.mono HBW.out.size))⟩
    · go_wp2_with fail
      go_ret
      exact ⟨rfl, HBW.out⟩
theorem pat_any (s : ByteArray) (h2 : s.size ≤ 9223372036854775807) (w : World) : Calls Try.prog 4 #[.string s] w (AwEnd w) := by
  by_cases h : 1000 < s.size
  · exact pat_big s h h2 w
  · obtain ⟨⟨a⟩⟩ := s
    have h' : a.length ≤ 1000 := by simpa [ByteArray.size] using h
    by_cases hE : patE a = 0
    · exact pat_fine a h' hE w
    · exact pat_bad a h' _ rfl hE w
end Go.Proofs.Ytfdpohceoabinaa
