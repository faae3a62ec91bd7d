/- The walks of the reference's number and byte string encodings (Put, PutBytes). -/
import Derived.Test.YtmondfckpgjikaaTPut
namespace Go.Proofs.Ytmondfckpgjikaa
open Go.RowKit Go.WideMaps
def V7Rel (w : World) (n : Nat) (s0 s3 : Value) (wr : World) : Prop :=
  ∃ (m : Nat) (pre : List UInt8), m < 18446744073709551616 ∧ s0 = .int .u64 m ∧ vput n = pre ++ vput m ∧ wr.ownsRow w.heap.size 5 1 s3 pre.length (pre.map byteV) ∧ Below w.heap.size w wr ∧ pre.length ≤ 10
set_option maxRecDepth 100000 in
set_option maxHeartbeats 1000000 in
theorem vput7_any (n : Nat) (w : World) (hn : n < 18446744073709551616) : Calls Try.prog 50 #[.int .u64 (n : Int)] w (VpEnd w (vput n)) := by
  obtain ⟨i0, hi, hz0, hz1, hz2⟩ := info_parts Try.info5
  go_enter Try.func50, Try.ntmps50
  go_wp2_with fail
  go_loopw [0, 3] (fun s0 s3 wr => V7Rel w n s0 s3 wr) (fun s0 _ _ => (intOf s0).toNat)
  case atStart => exact ⟨n, [], hn, rfl, rfl, World.ownsRow_nil _ _ _ _, Below.refl _ _, by simp⟩
  case round =>
    obtain ⟨m, pre, hm, rfl, hv, hown, hb, hpl⟩ := hrel
    by_cases hlt : m < 128
    · have hlv := Lib.hid (vput_lt hlt)
      have hown2 := hown.alloc (.cells #[.int .u8 (m : Int)] 5)
      have hrd := Reads.of_alloc wr #[.int .u8 (m : Int)] 5 (B := wr.heap.size + 1) (n := 1) (by omega) rfl
      have hbs := hb.size
      have g0 : ¬ (127 : Int) < (m : Int) := by omega
      go_wp2_with (at_builtin; refine wpList_append_any _ rfl (.tmp 15) (.tmp 18) 58 rfl w.heap.size 5 i0 (.int .u8 0) 1 1 Try.underlying58 hi hz0 hz1 hz2 rfl (by decide) _ _ _ rfl hown2 _ _ _ _ _ rfl hrd (by simp [Value.oneCell']) (by unfold maxLen; omega) (by omega) (by simp; omega) ?_)
      intro v4 w4 hown4 hg4 _
      obtain ⟨A4, c4, rfl⟩ := own_form hown4
      have hb4 := below_own (hb.alloc hb.size (.cells #[.int .u8 (m : Int)] 5)) (by simp; omega) (Nat.le_refl _) hown2 hg4
      have HV := Lib.hid hv
      have HO := Lib.hid hown4
      clear hg4 hown4 hown2 hrd hown hv
      go_wp2_with fail
      go_ret
      have hfin : vput n = pre ++ [UInt8.ofNat m] := by rw [HV.out, hlv.out]
      have hby : byteV (UInt8.ofNat m) = .int .u8 (m : Int) := byteV_ofNat (by omega)
      have ho := HO.out
      unfold VpEnd
      rw [hfin, List.length_append]
      refine ⟨A4, c4, rfl, ?_, hb4⟩
      rw [List.map_append, List.map_cons, hby]
      exact ho
    · have hgv := vput_ge hlt
      have hle := vput_le hn
      rw [hv, hgv] at hle
      simp at hle
      have hlen1 : 1 ≤ (vput (m / 128)).length := by
        by_cases h : m / 128 < 128
        · rw [vput_lt h]; simp
        · rw [vput_ge h]; simp
      have HGV := Lib.hid hgv
      have HV := Lib.hid hv
      have g0 : (127 : Int) < (m : Int) := by omega
      have hpl2 : pre.length + 1 ≤ 10 := by omega
      have hown2 := hown.alloc (.cells #[.int .u8 ((m : Int) % 128 + 128)] 5)
      have hrd := Reads.of_alloc wr #[.int .u8 ((m : Int) % 128 + 128)] 5 (B := wr.heap.size + 1) (n := 1) (by omega) rfl
      have hbs := hb.size
      clear hgv hv hle hlen1
      go_wp2_with (at_builtin; refine wpList_append_any _ rfl (.tmp 6) (.tmp 11) 58 rfl w.heap.size 5 i0 (.int .u8 0) 1 1 Try.underlying58 hi hz0 hz1 hz2 rfl (by decide) _ _ _ rfl hown2 _ _ _ _ _ rfl hrd (by simp [Value.oneCell']) (by unfold maxLen; omega) (by omega) (by simp; omega) ?_)
      intro v4 w4 hown4 hg4 _
      have hb4 := below_own (hb.alloc hb.size (.cells #[.int .u8 ((m : Int) % 128 + 128)] 5)) (by simp; omega) (Nat.le_refl _) hown2 hg4
      have HO := Lib.hid hown4
      clear hg4 hown4 hown2 hrd hown
      go_wp2_with fail
      go_roundw
      case rel =>
        refine ⟨m / 128, pre ++ [UInt8.ofNat (m % 128 + 128)], by omega, by go_num, by rw [HV.out, HGV.out]; simp, ?_, hb4, by simp; omega⟩
        have ho := HO.out
        rw [List.length_append, List.map_append, List.map_cons, byteV_ofNat (by omega)]
        exact ho
      case measure => simp [intOf]; omega
set_option maxRecDepth 100000 in
set_option maxHeartbeats 1000000 in
theorem putBytes7_any (A : Option Addr) (n c B : Nat) (l : List UInt8) (w : World) (hr : Reads w B 1 A n (l.map byteV)) (hB : B ≤ w.heap.size) (hl : l.length = n) (hn : n ≤ 1000000000) :
    Calls Try.prog 51 #[.slice A n c] w (VpEnd w (vput n ++ l)) := by
  obtain ⟨i0, hi, hz0, hz1, hz2⟩ := info_parts Try.info5
  have HL := Lib.hid hl
  have hvl := vput_le (n := n) (by omega)
  clear hl
  go_enter Try.func51, Try.ntmps51
  go_wp2_with fail
  refine (vput7_any n w (by omega)).mono ?_
  rintro e w1 ⟨A1, c1, rfl, hown, hb⟩
  have hr1 := hr.below (hb.mono hB)
  have hbs := hb.size
  generalize vput n = p at *
  go_wp2_with (at_builtin; refine wpList_append_any _ rfl _ _ 58 rfl w.heap.size 5 i0 (.int .u8 0) 1 1 Try.underlying58 hi hz0 hz1 hz2 rfl (by decide) _ _ _ rfl hown B _ _ _ (l.map byteV) rfl hr1 (oneB _) (by unfold maxLen; omega) (by omega) hbs ?_)
  intro v4 w4 hown4 hg4 _
  obtain ⟨A4, c4, rfl⟩ := own_form hown4
  have hb4 := below_own hb hb.size (Nat.le_refl _) hown hg4
  have HO := Lib.hid hown4
  clear hg4 hown4 hown hr1
  go_wp2_with fail
  go_ret
  have ho := HO.out
  unfold VpEnd
  rw [List.length_append, HL.out, List.map_append]
  exact ⟨A4, c4, rfl, ho, hb4⟩
end Go.Proofs.Ytmondfckpgjikaa
