/- The walk of plan.Check. The walks of plan.cost and plan.Cost. -/
import Derived.Test.YtniefnjcimempaaqCheck
namespace Go.Proofs.Ytniefnjcimempaa
open Go.RowKit
theorem checkF_stop {l : List St} : ∀ (t : List St) (i k : Nat) (s : St), (∀ j x, j < k → t[j]? = some x → stepE l (i + j) x = 0) → t[k]? = some s → stepE l (i + k) s ≠ 0 → checkF l i t = stepE l (i + k) s
  | [], _, _, _, _, h, _ => by simp at h
  | x :: t, i, 0, s, _, h, hne => by
    simp only [List.getElem?_cons_zero, Option.some.injEq] at h
    subst h
    unfold checkF
    exact if_pos hne
  | x :: t, i, k + 1, s, h0, h, hne => by
    unfold checkF
    have h1 := h0 0 x (by omega) rfl
    rw [Nat.add_zero] at h1
    rw [if_neg (by simp [h1]), checkF_stop t (i + 1) k s (fun j y hj hy => by
      have := h0 (j + 1) y (by omega) (by simpa using hy)
      rwa [show i + (j + 1) = i + 1 + j by omega] at this) (by simpa using h) (by rwa [show i + 1 + k = i + (k + 1) by omega]), show i + 1 + k = i + (k + 1) by omega]
/-- What the walks ask of a plan's size. -/
def Modest (l : List St) : Prop := l.length ≤ 100000 ∧ ∀ s ∈ l, s.args.length ≤ 2000000 ∧ s.text.length ≤ 9223372036854775807
def CkRel (w : World) (l : List St) (A : Option Addr) (c : Nat) (f : Nat) (v : Value) (wr : World) : Prop := ∃ k : Nat, v = .int .i64 k ∧ k ≤ l.length ∧ l.length - k < f ∧ Hid (∀ (j : Nat) (s : St), j < k → l[j]? = some s → stepE l j s = 0) ∧ Hid (Blk wr w.heap.size 28 #[.slice A l.length c]) ∧ Hid (Below w.heap.size w wr)
set_option maxRecDepth 100000 in
set_option maxHeartbeats 4000000 in
theorem Check_any (A : Option Addr) (c : Nat) (l : List St) (w : World) (hP : PlAt w (fun i => i < w.heap.size) A l) (hm : Modest l) :
    Calls Try.prog 17 #[.agg #[.slice A l.length c]] w (ChkEnd w (checkR l)) := by
  obtain ⟨hn, hsm⟩ := hm
  have HP := Lib.hid hP
  have HSM := Lib.hid hsm
  have HBB := Lib.hid (Blk.new w 28 #[.slice A l.length c])
  clear hP hsm
  by_cases h0 : l.length = 0
  · have HE := Lib.hid (show checkR l = 4 by unfold checkR; exact if_pos (.inl h0))
    rw [h0]
    clear h0
    go_enter Try.func17, Try.ntmps17
    go_wp2_with fail
    go_ret
    exact ⟨by rw [HE.out]; rfl, below_alloc _ _⟩
  by_cases h1 : 4096 < l.length
  · have HE := Lib.hid (show checkR l = 4 by unfold checkR; exact if_pos (.inr h1))
    have t1 : ((l.length : Int) == 0) = false := by rw [beq_eq_false_iff_ne]; omega
    have t2 : decide ((4096 : Int) < (l.length : Int)) = true := decide_eq_true (by omega)
    have t3 : decide (4096 < l.length) = true := decide_eq_true (by omega)
    clear h0 h1
    go_enter Try.func17, Try.ntmps17
    go_wp2_with fail
    go_ret
    exact ⟨by rw [HE.out]; rfl, below_alloc _ _⟩
  have HC := Lib.hid (show checkR l = checkF l 0 l by unfold checkR; rw [if_neg (by omega)])
  have t1 : ((l.length : Int) == 0) = false := by rw [beq_eq_false_iff_ne]; omega
  have t2 : decide ((4096 : Int) < (l.length : Int)) = false := decide_eq_false (by omega)
  have t3 : decide (4096 < l.length) = false := decide_eq_false (by omega)
  clear h0 h1
  go_enter Try.func17, Try.ntmps17
  go_wp2_with fail
  go_loopg [19, 3, 4] (l.length + 1) (fun f v _ _ wr => CkRel w l A c f v wr)
  case atStart => exact ⟨0, rfl, by omega, by omega, Lib.hid (fun j s hj => absurd hj (by omega)), HBB, Lib.hid (below_alloc _ _)⟩
  case round =>
    clear t1 t2 t3
    obtain ⟨k, rfl, hk, hkf, HGO, HX, HBW⟩ := hrel
    obtain ⟨f, rfl⟩ : ∃ f, gk = f + 1 := ⟨gk - 1, by omega⟩
    have s0 := HX.out.cell 0
    simp only [List.getElem?_toArray, List.getElem?_cons_zero] at s0
    by_cases hlt : k < l.length
    · obtain ⟨s, hs⟩ : ∃ s, l[k]? = some s := ⟨l[k], List.getElem?_eq_getElem hlt⟩
      have hmem := HSM.out s (List.mem_of_getElem? hs)
      have hck := check_any A c l k s wr hs (HP.out.keep (fun i (hi : i < _) _ => HBW.out.block i hi) HBW.out.size (fun _ hi _ => Nat.lt_of_lt_of_le hi HBW.out.size)) hn hmem.1 hmem.2
      have HCK := Lib.hid hck
      have HS := Lib.hid hs
      have q0 : (k : Int) < (l.length : Int) := by omega
      clear hmem hck hs
      go_wp2_with fail
      refine HCK.out.mono ?_
      rintro e w2 ⟨rfl, hb2⟩
      have HB2 := Lib.hid (HBW.out.trans (hb2.mono HBW.out.size))
      have HX2 := Lib.hid (HX.out.below hb2 HX.out.lt)
      clear hb2
      by_cases hE : stepE l k s = 0
      · have HE := Lib.hid hE
        have hv : errV (stepE l k s) = .nilIface := by rw [hE]; rfl
        rw [hv]
        clear hE hv
        go_wp2_with fail
        go_roundg f
        case measure => omega
        case rel =>
          refine ⟨k + 1, by go_num, by omega, by omega, Lib.hid (fun j x hj hx => ?_), HX2, HB2⟩
          by_cases hjk : j < k
          · exact HGO.out j x hjk hx
          · obtain rfl : j = k := by omega
            rw [HS.out] at hx
            injection hx with hx
            subst hx
            exact HE.out
      · have hst := checkF_stop l 0 k s (fun j x hj hx => by rw [Nat.zero_add]; exact HGO.out j x hj hx) HS.out (by rw [Nat.zero_add]; exact hE)
        rw [Nat.zero_add] at hst
        have HST := Lib.hid (HC.out.trans hst)
        have hv : errV (stepE l k s) = .iface 37 (.int .i64 (stepE l k s)) := if_neg hE
        have HV := Lib.hid hv
        rw [hv]
        generalize hq : stepE l k s = q at *
        clear hE hv hst hq
        go_wp2_with fail
        go_ret
        exact ⟨by rw [HST.out, HV.out]; rfl, HB2.out⟩
    · have hall := (checkF_zero l 0).2 (fun j s hs => by
        rw [Nat.zero_add]
        exact HGO.out j s (by have := (List.getElem?_eq_some_iff.1 hs).1; omega) hs)
      have HZ := Lib.hid (HC.out.trans hall)
      clear hall
      go_wp2_with fail
      go_ret
      exact ⟨by rw [HZ.out]; rfl, HBW.out⟩
end Go.Proofs.Ytniefnjcimempaa
namespace Go.Proofs.Ytniefnjcimempaa
open Go.RowKit
set_option maxRecDepth 100000 in
theorem cost_0 (w : World) : Calls Try.prog 40 #[.string ⟨#[110, 117, 109, 98, 101, 114]⟩] w fun e w' => e = .returned (.int .i64 (costR [110, 117, 109, 98, 101, 114])) ∧ w = w' := by
  rw [show costR [110, 117, 109, 98, 101, 114] = 1 by show (_ : Int) = _; kernel_rfl]
  go_enter Try.func40, Try.ntmps40
  go_wp2_with fail
  go_ret
  exact ⟨rfl, rfl⟩
set_option maxRecDepth 100000 in
theorem cost_1 (w : World) : Calls Try.prog 40 #[.string ⟨#[115, 116, 114, 105, 110, 103]⟩] w fun e w' => e = .returned (.int .i64 (costR [115, 116, 114, 105, 110, 103])) ∧ w = w' := by
  rw [show costR [115, 116, 114, 105, 110, 103] = 1 by show (_ : Int) = _; kernel_rfl]
  go_enter Try.func40, Try.ntmps40
  go_wp2_with fail
  go_ret
  exact ⟨rfl, rfl⟩
set_option maxRecDepth 100000 in
theorem cost_2 (w : World) : Calls Try.prog 40 #[.string ⟨#[114, 101, 102]⟩] w fun e w' => e = .returned (.int .i64 (costR [114, 101, 102])) ∧ w = w' := by
  rw [show costR [114, 101, 102] = 1 by show (_ : Int) = _; kernel_rfl]
  go_enter Try.func40, Try.ntmps40
  go_wp2_with fail
  go_ret
  exact ⟨rfl, rfl⟩
set_option maxRecDepth 100000 in
theorem cost_3 (w : World) : Calls Try.prog 40 #[.string ⟨#[43, 43]⟩] w fun e w' => e = .returned (.int .i64 (costR [43, 43])) ∧ w = w' := by
  rw [show costR [43, 43] = 8 by show (_ : Int) = _; kernel_rfl]
  go_enter Try.func40, Try.ntmps40
  go_wp2_with fail
  go_ret
  exact ⟨rfl, rfl⟩
set_option maxRecDepth 100000 in
theorem cost_4 (w : World) : Calls Try.prog 40 #[.string ⟨#[99, 117, 116]⟩] w fun e w' => e = .returned (.int .i64 (costR [99, 117, 116])) ∧ w = w' := by
  rw [show costR [99, 117, 116] = 8 by show (_ : Int) = _; kernel_rfl]
  go_enter Try.func40, Try.ntmps40
  go_wp2_with fail
  go_ret
  exact ⟨rfl, rfl⟩
set_option maxRecDepth 100000 in
theorem cost_5 (w : World) : Calls Try.prog 40 #[.string ⟨#[108, 105, 110, 101]⟩] w fun e w' => e = .returned (.int .i64 (costR [108, 105, 110, 101])) ∧ w = w' := by
  rw [show costR [108, 105, 110, 101] = 8 by show (_ : Int) = _; kernel_rfl]
  go_enter Try.func40, Try.ntmps40
  go_wp2_with fail
  go_ret
  exact ⟨rfl, rfl⟩
set_option maxRecDepth 100000 in
theorem cost_6 (w : World) : Calls Try.prog 40 #[.string ⟨#[114, 101, 112]⟩] w fun e w' => e = .returned (.int .i64 (costR [114, 101, 112])) ∧ w = w' := by
  rw [show costR [114, 101, 112] = 8 by show (_ : Int) = _; kernel_rfl]
  go_enter Try.func40, Try.ntmps40
  go_wp2_with fail
  go_ret
  exact ⟨rfl, rfl⟩
set_option maxRecDepth 100000 in
theorem cost_7 (w : World) : Calls Try.prog 40 #[.string ⟨#[112, 105, 99, 107]⟩] w fun e w' => e = .returned (.int .i64 (costR [112, 105, 99, 107])) ∧ w = w' := by
  rw [show costR [112, 105, 99, 107] = 8 by show (_ : Int) = _; kernel_rfl]
  go_enter Try.func40, Try.ntmps40
  go_wp2_with fail
  go_ret
  exact ⟨rfl, rfl⟩
set_option maxRecDepth 100000 in
theorem cost_8 (w : World) : Calls Try.prog 40 #[.string ⟨#[99, 111, 109, 109, 111, 110]⟩] w fun e w' => e = .returned (.int .i64 (costR [99, 111, 109, 109, 111, 110])) ∧ w = w' := by
  rw [show costR [99, 111, 109, 109, 111, 110] = 8 by show (_ : Int) = _; kernel_rfl]
  go_enter Try.func40, Try.ntmps40
  go_wp2_with fail
  go_ret
  exact ⟨rfl, rfl⟩
set_option maxRecDepth 100000 in
theorem cost_9 (w : World) : Calls Try.prog 40 #[.string ⟨#[119, 105, 116, 104, 105, 110]⟩] w fun e w' => e = .returned (.int .i64 (costR [119, 105, 116, 104, 105, 110])) ∧ w = w' := by
  rw [show costR [119, 105, 116, 104, 105, 110] = 8 by show (_ : Int) = _; kernel_rfl]
  go_enter Try.func40, Try.ntmps40
  go_wp2_with fail
  go_ret
  exact ⟨rfl, rfl⟩
set_option maxRecDepth 100000 in
theorem cost_10 (w : World) : Calls Try.prog 40 #[.string ⟨#[111, 118, 101, 114]⟩] w fun e w' => e = .returned (.int .i64 (costR [111, 118, 101, 114])) ∧ w = w' := by
  rw [show costR [111, 118, 101, 114] = 8 by show (_ : Int) = _; kernel_rfl]
  go_enter Try.func40, Try.ntmps40
  go_wp2_with fail
  go_ret
  exact ⟨rfl, rfl⟩
set_option maxRecDepth 100000 in
theorem cost_11 (w : World) : Calls Try.prog 40 #[.string ⟨#[97, 102, 116, 101, 114]⟩] w fun e w' => e = .returned (.int .i64 (costR [97, 102, 116, 101, 114])) ∧ w = w' := by
  rw [show costR [97, 102, 116, 101, 114] = 8 by show (_ : Int) = _; kernel_rfl]
  go_enter Try.func40, Try.ntmps40
  go_wp2_with fail
  go_ret
  exact ⟨rfl, rfl⟩
set_option maxRecDepth 100000 in
theorem cost_12 (w : World) : Calls Try.prog 40 #[.string ⟨#[117, 110, 105, 111, 110]⟩] w fun e w' => e = .returned (.int .i64 (costR [117, 110, 105, 111, 110])) ∧ w = w' := by
  rw [show costR [117, 110, 105, 111, 110] = 8 by show (_ : Int) = _; kernel_rfl]
  go_enter Try.func40, Try.ntmps40
  go_wp2_with fail
  go_ret
  exact ⟨rfl, rfl⟩
set_option maxRecDepth 100000 in
theorem cost_13 (w : World) : Calls Try.prog 40 #[.string ⟨#[109, 105, 110, 117, 115]⟩] w fun e w' => e = .returned (.int .i64 (costR [109, 105, 110, 117, 115])) ∧ w = w' := by
  rw [show costR [109, 105, 110, 117, 115] = 8 by show (_ : Int) = _; kernel_rfl]
  go_enter Try.func40, Try.ntmps40
  go_wp2_with fail
  go_ret
  exact ⟨rfl, rfl⟩
set_option maxRecDepth 100000 in
theorem cost_14 (w : World) : Calls Try.prog 40 #[.string ⟨#[102, 105, 114, 115, 116]⟩] w fun e w' => e = .returned (.int .i64 (costR [102, 105, 114, 115, 116])) ∧ w = w' := by
  rw [show costR [102, 105, 114, 115, 116] = 8 by show (_ : Int) = _; kernel_rfl]
  go_enter Try.func40, Try.ntmps40
  go_wp2_with fail
  go_ret
  exact ⟨rfl, rfl⟩
set_option maxRecDepth 100000 in
theorem cost_15 (w : World) : Calls Try.prog 40 #[.string ⟨#[108, 101, 110, 99, 117, 116]⟩] w fun e w' => e = .returned (.int .i64 (costR [108, 101, 110, 99, 117, 116])) ∧ w = w' := by
  rw [show costR [108, 101, 110, 99, 117, 116] = 8 by show (_ : Int) = _; kernel_rfl]
  go_enter Try.func40, Try.ntmps40
  go_wp2_with fail
  go_ret
  exact ⟨rfl, rfl⟩
set_option maxRecDepth 100000 in
theorem cost_16 (w : World) : Calls Try.prog 40 #[.string ⟨#[114, 111, 119, 115]⟩] w fun e w' => e = .returned (.int .i64 (costR [114, 111, 119, 115])) ∧ w = w' := by
  rw [show costR [114, 111, 119, 115] = 32 by show (_ : Int) = _; kernel_rfl]
  go_enter Try.func40, Try.ntmps40
  go_wp2_with fail
  go_ret
  exact ⟨rfl, rfl⟩
set_option maxRecDepth 100000 in
theorem cost_17 (w : World) : Calls Try.prog 40 #[.string ⟨#[99, 111, 117, 110, 116]⟩] w fun e w' => e = .returned (.int .i64 (costR [99, 111, 117, 110, 116])) ∧ w = w' := by
  rw [show costR [99, 111, 117, 110, 116] = 64 by show (_ : Int) = _; kernel_rfl]
  go_enter Try.func40, Try.ntmps40
  go_wp2_with fail
  go_ret
  exact ⟨rfl, rfl⟩
set_option maxRecDepth 100000 in
theorem cost_18 (w : World) : Calls Try.prog 40 #[.string ⟨#[104, 97, 115]⟩] w fun e w' => e = .returned (.int .i64 (costR [104, 97, 115])) ∧ w = w' := by
  rw [show costR [104, 97, 115] = 64 by show (_ : Int) = _; kernel_rfl]
  go_enter Try.func40, Try.ntmps40
  go_wp2_with fail
  go_ret
  exact ⟨rfl, rfl⟩
set_option maxRecDepth 100000 in
theorem cost_19 (w : World) : Calls Try.prog 40 #[.string ⟨#[102, 105, 110, 100]⟩] w fun e w' => e = .returned (.int .i64 (costR [102, 105, 110, 100])) ∧ w = w' := by
  rw [show costR [102, 105, 110, 100] = 64 by show (_ : Int) = _; kernel_rfl]
  go_enter Try.func40, Try.ntmps40
  go_wp2_with fail
  go_ret
  exact ⟨rfl, rfl⟩
set_option maxRecDepth 100000 in
theorem cost_20 (w : World) : Calls Try.prog 40 #[.string ⟨#[109, 97, 116, 99, 104, 101, 115]⟩] w fun e w' => e = .returned (.int .i64 (costR [109, 97, 116, 99, 104, 101, 115])) ∧ w = w' := by
  rw [show costR [109, 97, 116, 99, 104, 101, 115] = 64 by show (_ : Int) = _; kernel_rfl]
  go_enter Try.func40, Try.ntmps40
  go_wp2_with fail
  go_ret
  exact ⟨rfl, rfl⟩
set_option maxRecDepth 100000 in
theorem cost_21 (w : World) : Calls Try.prog 40 #[.string ⟨#[102, 105, 114, 115, 116, 102, 105, 110, 100]⟩] w fun e w' => e = .returned (.int .i64 (costR [102, 105, 114, 115, 116, 102, 105, 110, 100])) ∧ w = w' := by
  rw [show costR [102, 105, 114, 115, 116, 102, 105, 110, 100] = 64 by show (_ : Int) = _; kernel_rfl]
  go_enter Try.func40, Try.ntmps40
  go_wp2_with fail
  go_ret
  exact ⟨rfl, rfl⟩
set_option maxRecDepth 100000 in
theorem cost_rest (n : List UInt8) (hn0 : n ≠ [110, 117, 109, 98, 101, 114]) (hn1 : n ≠ [115, 116, 114, 105, 110, 103]) (hn2 : n ≠ [114, 101, 102]) (hn3 : n ≠ [43, 43]) (hn4 : n ≠ [99, 117, 116]) (hn5 : n ≠ [108, 105, 110, 101]) (hn6 : n ≠ [114, 101, 112]) (hn7 : n ≠ [112, 105, 99, 107]) (hn8 : n ≠ [99, 111, 109, 109, 111, 110]) (hn9 : n ≠ [119, 105, 116, 104, 105, 110]) (hn10 : n ≠ [111, 118, 101, 114]) (hn11 : n ≠ [97, 102, 116, 101, 114]) (hn12 : n ≠ [117, 110, 105, 111, 110]) (hn13 : n ≠ [109, 105, 110, 117, 115]) (hn14 : n ≠ [102, 105, 114, 115, 116]) (hn15 : n ≠ [108, 101, 110, 99, 117, 116]) (hn16 : n ≠ [114, 111, 119, 115]) (hn17 : n ≠ [99, 111, 117, 110, 116]) (hn18 : n ≠ [104, 97, 115]) (hn19 : n ≠ [102, 105, 110, 100]) (hn20 : n ≠ [109, 97, 116, 99, 104, 101, 115]) (hn21 : n ≠ [102, 105, 114, 115, 116, 102, 105, 110, 100]) (w : World) : Calls Try.prog 40 #[.string ⟨n.toArray⟩] w fun e w' => e = .returned (.int .i64 (costR n)) ∧ w = w' := by
  have hc : costR n = 2 := by
    unfold costR
    rw [if_neg (fun h => h.elim hn0 (fun h => h.elim hn1 hn2)), if_neg (by simp [nCut, nFirst, nLencut, hn3, hn4, hn5, hn6, hn7, hn8, hn9, hn10, hn11, hn12, hn13, hn14, hn15]), if_neg hn16, if_neg (by simp [nCount, nHas, nFind, nMatches, nFirstfind, hn17, hn18, hn19, hn20, hn21])]
  rw [hc]
  have h0 : (n == [110, 117, 109, 98, 101, 114]) = false := by simpa using hn0
  have h1 : (n == [115, 116, 114, 105, 110, 103]) = false := by simpa using hn1
  have h2 : (n == [114, 101, 102]) = false := by simpa using hn2
  have h3 : (n == [43, 43]) = false := by simpa using hn3
  have h4 : (n == [99, 117, 116]) = false := by simpa using hn4
  have h5 : (n == [108, 105, 110, 101]) = false := by simpa using hn5
  have h6 : (n == [114, 101, 112]) = false := by simpa using hn6
  have h7 : (n == [112, 105, 99, 107]) = false := by simpa using hn7
  have h8 : (n == [99, 111, 109, 109, 111, 110]) = false := by simpa using hn8
  have h9 : (n == [119, 105, 116, 104, 105, 110]) = false := by simpa using hn9
  have h10 : (n == [111, 118, 101, 114]) = false := by simpa using hn10
  have h11 : (n == [97, 102, 116, 101, 114]) = false := by simpa using hn11
  have h12 : (n == [117, 110, 105, 111, 110]) = false := by simpa using hn12
  have h13 : (n == [109, 105, 110, 117, 115]) = false := by simpa using hn13
  have h14 : (n == [102, 105, 114, 115, 116]) = false := by simpa using hn14
  have h15 : (n == [108, 101, 110, 99, 117, 116]) = false := by simpa using hn15
  have h16 : (n == [114, 111, 119, 115]) = false := by simpa using hn16
  have h17 : (n == [99, 111, 117, 110, 116]) = false := by simpa using hn17
  have h18 : (n == [104, 97, 115]) = false := by simpa using hn18
  have h19 : (n == [102, 105, 110, 100]) = false := by simpa using hn19
  have h20 : (n == [109, 97, 116, 99, 104, 101, 115]) = false := by simpa using hn20
  have h21 : (n == [102, 105, 114, 115, 116, 102, 105, 110, 100]) = false := by simpa using hn21
  clear hc hn0 hn1 hn2 hn3 hn4 hn5 hn6 hn7 hn8 hn9 hn10 hn11 hn12 hn13 hn14 hn15 hn16 hn17 hn18 hn19 hn20 hn21
  go_enter Try.func40, Try.ntmps40
  go_wp2_with fail
  go_ret
  exact ⟨rfl, rfl⟩
theorem cost_any (n : List UInt8) (w : World) : Calls Try.prog 40 #[.string ⟨n.toArray⟩] w fun e w' => e = .returned (.int .i64 (costR n)) ∧ w = w' := by
  by_cases hn0 : n = [110, 117, 109, 98, 101, 114]
  · subst hn0; exact cost_0 w
  by_cases hn1 : n = [115, 116, 114, 105, 110, 103]
  · subst hn1; exact cost_1 w
  by_cases hn2 : n = [114, 101, 102]
  · subst hn2; exact cost_2 w
  by_cases hn3 : n = [43, 43]
  · subst hn3; exact cost_3 w
  by_cases hn4 : n = [99, 117, 116]
  · subst hn4; exact cost_4 w
  by_cases hn5 : n = [108, 105, 110, 101]
  · subst hn5; exact cost_5 w
  by_cases hn6 : n = [114, 101, 112]
  · subst hn6; exact cost_6 w
  by_cases hn7 : n = [112, 105, 99, 107]
  · subst hn7; exact cost_7 w
  by_cases hn8 : n = [99, 111, 109, 109, 111, 110]
  · subst hn8; exact cost_8 w
  by_cases hn9 : n = [119, 105, 116, 104, 105, 110]
  · subst hn9; exact cost_9 w
  by_cases hn10 : n = [111, 118, 101, 114]
  · subst hn10; exact cost_10 w
  by_cases hn11 : n = [97, 102, 116, 101, 114]
  · subst hn11; exact cost_11 w
  by_cases hn12 : n = [117, 110, 105, 111, 110]
  · subst hn12; exact cost_12 w
  by_cases hn13 : n = [109, 105, 110, 117, 115]
  · subst hn13; exact cost_13 w
  by_cases hn14 : n = [102, 105, 114, 115, 116]
  · subst hn14; exact cost_14 w
  by_cases hn15 : n = [108, 101, 110, 99, 117, 116]
  · subst hn15; exact cost_15 w
  by_cases hn16 : n = [114, 111, 119, 115]
  · subst hn16; exact cost_16 w
  by_cases hn17 : n = [99, 111, 117, 110, 116]
  · subst hn17; exact cost_17 w
  by_cases hn18 : n = [104, 97, 115]
  · subst hn18; exact cost_18 w
  by_cases hn19 : n = [102, 105, 110, 100]
  · subst hn19; exact cost_19 w
  by_cases hn20 : n = [109, 97, 116, 99, 104, 101, 115]
  · subst hn20; exact cost_20 w
  by_cases hn21 : n = [102, 105, 114, 115, 116, 102, 105, 110, 100]
  · subst hn21; exact cost_21 w
  exact cost_rest n hn0 hn1 hn2 hn3 hn4 hn5 hn6 hn7 hn8 hn9 hn10 hn11 hn12 hn13 hn14 hn15 hn16 hn17 hn18 hn19 hn20 hn21 w
theorem costR_bd (n : List UInt8) : 1 ≤ costR n ∧ costR n ≤ 64 := by
  unfold costR
  split
  · omega
  split
  · omega
  split
  · omega
  split <;> omega
theorem costL_bd : ∀ l : List St, 0 ≤ costL l ∧ costL l ≤ 64 * l.length
  | [] => by simp [costL]
  | s :: l => by
    have h1 := costR_bd s.op
    have h2 := costL_bd l
    unfold costL at h2 ⊢
    rw [List.map_cons, List.sum_cons, List.length_cons]
    omega
theorem costL_snoc (l : List St) (s : St) : costL (l ++ [s]) = costL l + costR s.op := by unfold costL; simp
def CostEnd (w : World) (l : List St) (e : Ending) (w' : World) : Prop := e = .returned (.tuple #[.int .i64 (if checkR l = 0 then costL l else 0), errV (checkR l)]) ∧ Below w.heap.size w w'
def CoRel (w : World) (l : List St) (A : Option Addr) (c : Nat) (f : Nat) (i v : Value) (wr : World) : Prop := ∃ k : Nat, i = .int .i64 k ∧ k ≤ l.length ∧ l.length - k < f ∧ v = .int .i64 (costL (l.take k)) ∧ Hid (Below w.heap.size w wr)
set_option maxRecDepth 100000 in
set_option maxHeartbeats 4000000 in
theorem Cost_any (A : Option Addr) (c : Nat) (l : List St) (w : World) (hP : PlAt w (fun i => i < w.heap.size) A l) (hm : Modest l) :
    Calls Try.prog 25 #[.agg #[.slice A l.length c]] w (CostEnd w l) := by
  have HP := Lib.hid hP
  have HM := Lib.hid hm
  have HBB := Lib.hid (Blk.new w 28 #[.slice A l.length c])
  have hck := Check_any A c l (w.alloc (.cells #[.slice A l.length c] 28)) (hP.below (below_alloc w _)) hm
  have HCK := Lib.hid hck
  have hn := hm.1
  clear hP hck hm
  go_enter Try.func25, Try.ntmps25
  go_wp2_with fail
  refine HCK.out.mono ?_
  rintro e w1 ⟨rfl, hb1⟩
  have HB1 := Lib.hid ((below_alloc w _).trans (hb1.mono (by simp)))
  have HX1 := Lib.hid (HBB.out.below hb1 (by simp))
  clear hb1
  by_cases hE : checkR l = 0
  · have HE := Lib.hid hE
    have hv : errV (checkR l) = .nilIface := by rw [hE]; rfl
    have s0 := HX1.out.cell 0
    simp only [List.getElem?_toArray, List.getElem?_cons_zero] at s0
    rw [hv]
    clear hE hv
    go_wp2_with fail
    go_loopg [16, 5, 7] (l.length + 1) (fun f i v _ wr => CoRel w l A c f i v wr)
    case atStart => exact ⟨0, rfl, by omega, by omega, rfl, HB1⟩
    case round =>
      clear s0
      obtain ⟨k, rfl, hk, hkf, rfl, HBW⟩ := hrel
      obtain ⟨f, rfl⟩ : ∃ f, gk = f + 1 := ⟨gk - 1, by omega⟩
      by_cases hlt : k < l.length
      · obtain ⟨s, hs⟩ : ∃ s, l[k]? = some s := ⟨l[k], List.getElem?_eq_getElem hlt⟩
        obtain ⟨b, ob, As, cs, rfl, hbF, hbl, x0, x1, x2, x3, x4, har⟩ := (HP.out.at_ HBW.out).step hs
        have htk : l.take (k + 1) = l.take k ++ [s] := by rw [List.take_add_one, hs]; rfl
        have HTK := Lib.hid htk
        have h1 := costL_bd (l.take k)
        have h2 := costR_bd s.op
        have hlk : (l.take k).length ≤ k := List.length_take_le _ _
        have w1 := IntWalk.i64_in (costL (l.take k) + costR s.op) (by omega)
        have hcost := fun w => cost_any s.op w
        have HCO := Lib.hid hcost
        have q0 : (k : Int) < (l.length : Int) := by omega
        clear htk hs har hcost hlk
        go_wp2_with fail
        refine (HCO.out _).mono ?_
        rintro e w2 ⟨rfl, rfl⟩
        go_wp2_with fail
        go_roundg f
        case measure => omega
        case rel => exact ⟨k + 1, by go_num, by omega, by omega, by rw [HTK.out, costL_snoc], Lib.hid (HBW.out.alloc HBW.out.size _)⟩
      · have hks : k = l.length := by omega
        subst hks
        go_wp2_with fail
        go_ret2
        exact ⟨by rw [HE.out, if_pos rfl, List.take_length]; rfl, HBW.out⟩
  · have hv : errV (checkR l) = .iface 37 (.int .i64 (checkR l)) := if_neg hE
    have HE := Lib.hid hE
    have HV := Lib.hid hv
    rw [hv]
    generalize hq : checkR l = q at *
    have HQ := Lib.hid hq
    clear hE hv hq
    go_wp2_with fail
    go_ret2
    exact ⟨by rw [HQ.out, if_neg HE.out, HV.out]; rfl, HB1.out⟩
end Go.Proofs.Ytniefnjcimempaa
