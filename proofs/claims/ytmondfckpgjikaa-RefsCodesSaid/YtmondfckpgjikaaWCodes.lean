/- The walk of RefsCodes. -/
import Derived.Test.YtmondfckpgjikaaRTake
import Derived.Test.YtmondfckpgjikaaRPutT
import Derived.Test.YtmondfckpgjikaaOpenW
namespace Go.Proofs.Ytmondfckpgjikaa
open Go.RowKit Go.WideMaps
theorem slice_to (A : Option Addr) (n c k : Nat) (h : k ≤ c) (w : World) : (Instr.slice 58 (.slice A n c) none (some (.int .i64 (k : Int))) none).run Try.prog w = .ok (.slice A k c) w := by
  have q0 : (0 : Int) ≤ (k : Int) := by omega
  have q1 : (k : Int) ≤ (c : Int) := by omega
  simp [go_sem, Try.underlying58, q0, q1]
theorem encT_pos (l : List Row) : 1 ≤ (encT l).length := by
  unfold encT
  rw [List.length_append]
  have : 1 ≤ (vput l.length).length := by
    by_cases h : l.length < 128
    · rw [vput_lt h]; simp
    · rw [vput_ge h]; simp
  omega
theorem encT_len (l : List Row) (hV : AllV l) (hN : AllB l) (hl : l.length ≤ 40) : (encT l).length ≤ 3000 := by
  unfold encT
  rw [List.length_append]
  have h1 := vput_le (n := l.length) (by omega)
  have h2 : (l.flatMap encR).length ≤ l.length * 53 := by
    clear h1 hl
    induction l with
    | nil => simp
    | cons r t ih =>
      have h3 := (encR_len (hV r (by simp)) (hN r (by simp)).2).2
      have h4 := ih (fun x hx => hV x (by simp [hx])) (fun x hx => hN x (by simp [hx]))
      rw [List.flatMap_cons, List.length_append, List.length_cons]
      omega
  omega
set_option maxRecDepth 100000 in
set_option maxHeartbeats 2000000 in
theorem codes_any (A : Option Addr) (n c : Nat) (sts : List St) (w : World) (hr : Reads w w.heap.size 4 A n (cellsS sts)) (hl : sts.length = n) (hok : ∀ st ∈ sts, st.okW) :
    Calls Try.prog 11 #[.slice A n c] w (AwEnd w) := by
  obtain ⟨i0, hi, hz0, hz1, hz2⟩ := info_parts Try.info5
  have hfacts := rowsOf_facts _ (sts.take 40) rfl
  have hlen : (rowsOf (sts.take 40)).length ≤ 40 := by have := hfacts.2; simp at this; omega
  have hV : AllV (rowsOf (sts.take 40)) := allV_rows _
  have hN : AllB (rowsOf (sts.take 40)) := allB_rows _ fun st hs => (hok st (List.mem_of_mem_take hs)).2
  have hR0 := hfacts.1
  clear hfacts
  have hplay := play_any A n c sts w hr hl (fun st hs => (hok st hs).1)
  generalize rowsOf (sts.take 40) = l at *
  clear hr hl hok
  have HTK := Lib.hid (show take (encT l) = some l by
    have := take_enc l hV hN hR0 (by omega) []
    rw [List.append_nil, if_pos rfl] at this
    exact this)
  have HTK2 := Lib.hid (show take (encT l ++ [0]) = none by
    have := take_enc l hV hN hR0 (by omega) [0]
    rw [if_neg (by simp)] at this
    exact this)
  have HTK3 := Lib.hid (take_cut l hV hN hR0 (by omega))
  have hD1 := encT_pos l
  have hD2 := encT_len l hV hN hlen
  have HV := Lib.hid hV
  have HN := Lib.hid hN
  clear hV hN hR0
  go_enter Try.func11, Try.ntmps11
  go_wp2_with fail
  refine hplay.mono ?_
  rintro e w1 ⟨v, rfl, hR, hT, hb1⟩
  clear hplay
  have hput := tput_any _ _ _ l w1 hT (by omega) HV.out HN.out
  go_wp2_with fail
  refine hput.mono ?_
  clear hput
  rintro e w2 ⟨A2, c2, rfl, hown2, hq⟩
  have hR2 := hR.below hq
  have hT2 := hT.below hq
  have hb2 := hb1.trans (hq.mono hb1.size)
  have hrp := rput_any v l w2 hR2 HV.out HN.out (by omega)
  clear hR hT hb1 hq
  go_wp2_with fail
  refine hrp.mono ?_
  clear hrp
  rintro e w3 ⟨A3, c3, rfl, hown3, hq⟩
  have hR3 := hR2.below hq
  have hb3 := hb2.trans (hq.mono hb2.size)
  have hown23 := own_below hown2 hq
  clear hR2 hT2 hb2 hq hown2
  obtain ⟨D, hD⟩ : ∃ D, D = encT l := ⟨_, rfl⟩
  rw [← hD] at hown23 hown3 HTK HTK2 HTK3 hD1 hD2 ⊢
  have hbe := bytes_eq A2 A3 _ _ c2 c3 _ _ D D w3 (Reads.of_own hown23) (Reads.of_own hown3)
  rw [beq_self_eq_true] at hbe
  clear hD hown3
  go_wp2_with fail
  refine hbe.mono ?_
  clear hbe
  rintro e w' ⟨rfl, rfl⟩
  -- the first copy
  have hc2 := own_le hown23
  have hrd := Reads.of_own hown23
  have HRD := Lib.hid hrd
  have hown0 := World.ownsRow_lit (e := 5) (size := 1) w3 #[] 0 (Nat.le_refl _) (by decide) rfl
  have hr4 := hrd.alloc (Nat.le_refl _) (.cells #[] 5)
  clear hown23 hrd
  go_wp2_with (at_builtin; refine wpList_append_any _ rfl (.tmp 31) (.tmp 32) 58 rfl w3.heap.size 5 i0 (.int .u8 0) 1 1 Try.underlying58 hi hz0 hz1 hz2 rfl (by decide) _ _ _ rfl hown0 _ _ _ _ (D.map byteV) rfl hr4 (oneB _) (by unfold maxLen; omega) (by omega) (by simp) ?_)
  intro v4 w4 hown4 hg4 _
  obtain ⟨A4, c4, rfl⟩ := own_form hown4
  have hq4 := below_own ((Below.refl w3.heap.size w3).alloc (Nat.le_refl _) (.cells #[] 5)) (by simp) (Nat.le_refl _) hown0 hg4
  have hb4 := hb3.trans (hq4.mono hb3.size)
  have hR4 := hR3.below hq4
  have HRD4 := Lib.hid (HRD.out.below hq4)
  have hc4 := own_le hown4
  have HS34 := Lib.hid hq4.size
  have htk := take_any A4 _ c4 _ D w4 (Reads.of_own (by simpa using hown4)) (Nat.le_refl _) (by omega) (by simpa using hc4)
  unfold TkEnd at htk
  rw [HTK.out] at htk
  clear hown0 hr4 hg4 hown4 hq4 hb3 hR3
  go_wp2_with fail
  refine htk.mono ?_
  clear htk
  rintro e w5 ⟨hq, r5, rfl, hT5⟩
  have hb5 := hb4.trans (hq.mono hb4.size)
  have hR5 := hR4.below hq
  have HRD5 := Lib.hid ((HRD4.out.below (hq.mono HS34.out)).more (Nat.le_trans HS34.out hq.size))
  clear hb4 hR4 hq
  -- the second copy
  have hown0 := World.ownsRow_lit (e := 5) (size := 1) w5 #[] 0 (Nat.le_refl _) (by decide) rfl
  have hr6 := HRD5.out.alloc (Nat.le_refl _) (.cells #[] 5)
  go_wp2_with (at_builtin; refine wpList_append_any _ rfl (.tmp 38) (.tmp 39) 58 rfl w5.heap.size 5 i0 (.int .u8 0) 1 1 Try.underlying58 hi hz0 hz1 hz2 rfl (by decide) _ _ _ rfl hown0 _ _ _ _ (D.map byteV) rfl hr6 (oneB _) (by unfold maxLen; omega) (by omega) (by simp) ?_)
  intro v6 w6 hown6 hg6 _
  have hq6 := below_own ((Below.refl w5.heap.size w5).alloc (Nat.le_refl _) (.cells #[] 5)) (by simp) (Nat.le_refl _) hown0 hg6
  have hown6a := hown6.alloc (.cells #[.int .u8 0] 5)
  have hrd7 := Reads.of_alloc w6 #[.int .u8 0] 5 (B := w6.heap.size + 1) (n := 1) (by omega) rfl
  have hbs6 := hq6.size
  go_wp2_with (at_builtin; refine wpList_append_any _ rfl (.tmp 40) (.tmp 41) 58 rfl w5.heap.size 5 i0 (.int .u8 0) 1 1 Try.underlying58 hi hz0 hz1 hz2 rfl (by decide) _ _ _ rfl hown6a _ _ 1 1 _ rfl hrd7 (by intro u hu; simp at hu; subst hu; rfl) (by unfold maxLen; omega) (by omega) (by simp; omega) ?_)
  intro v7 w7 hown7 hg7 _
  obtain ⟨A7, c7, rfl⟩ := own_form hown7
  have hq7 := below_own (hq6.alloc hbs6 (.cells #[.int .u8 0] 5)) (by simp; omega) (Nat.le_refl _) hown6a hg7
  have hb7 := hb5.trans (hq7.mono hb5.size)
  have hR7 := hR5.below hq7
  have hT7 := hT5.below hq7
  have HS57 := Lib.hid hq7.size
  have HRD7 := Lib.hid ((HRD5.out.below hq7).more hq7.size)
  have hc7 := own_le hown7
  have hown7' : w7.ownsRow w5.heap.size 5 1 (.slice A7 (D.length + 1) c7) (D.length + 1) ((D ++ [0]).map byteV) := by
    rw [List.map_append]
    exact hown7
  have htk := take_any A7 _ c7 _ (D ++ [0]) w7 (Reads.of_own hown7') (Nat.le_refl _) (by omega) hc7
  unfold TkEnd at htk
  rw [HTK2.out] at htk
  clear hown0 hr6 hg6 hown6 hown6a hrd7 hbs6 hg7 hown7 hown7' hq6 hq7 hb5 hR5 hT5
  go_wp2_with fail
  refine htk.mono ?_
  clear htk
  rintro e w8 ⟨hq, rfl⟩
  have hb8 := hb7.trans (hq.mono hb7.size)
  have hR8 := hR7.below hq
  have hT8 := hT7.below hq
  have hrd8 := (HRD7.out.below hq).take_ (k := D.length - 1) (by omega)
  have hmt : (D.map byteV).take (D.length - 1) = D.dropLast.map byteV := by rw [List.dropLast_eq_take, List.map_take]
  rw [hmt] at hrd8
  have hsl : ∀ W : World, (Instr.slice 58 (.slice A2 D.length c2) none (some (.int .i64 ((D.length : Int) - 1))) none).run Try.prog W = .ok (.slice A2 (D.length - 1) c2) W := fun W => by
    rw [show ((D.length : Int) - 1) = ((D.length - 1 : Nat) : Int) by omega]
    exact slice_to A2 D.length c2 (D.length - 1) (by omega) W
  have htk := take_any A2 _ c2 _ D.dropLast w8 hrd8 hq.size (by omega) (by omega)
  unfold TkEnd at htk
  rw [HTK3.out] at htk
  clear hb7 hR7 hT7 hq hrd8 hmt
  go_wp2_with fail
  refine htk.mono ?_
  clear htk
  rintro e w9 ⟨hq, rfl⟩
  have hb9 := hb8.trans (hq.mono hb8.size)
  have hR9 := hR8.below hq
  have hT9 := hT8.below hq
  clear hb8 hR8 hT8 hq
  go_wp2_with fail
  refine (is_any _ _ _ l v w9 hT9 hR9 (by omega) HV.out).mono ?_
  rintro e w10 ⟨rfl, hq⟩
  have hb10 := hb9.trans (hq.mono hb9.size)
  clear hb9 hR9 hT9 hq
  go_wp2_with fail
  refine (is_same 4 w10 (by decide)).mono ?_
  rintro e w' ⟨rfl, rfl⟩
  go_wp2_with fail
  refine (is_same 4 w10 (by decide)).mono ?_
  rintro e w' ⟨rfl, rfl⟩
  go_wp2_with fail
  go_ret
  exact ⟨rfl, hb10⟩
end Go.Proofs.Ytmondfckpgjikaa
