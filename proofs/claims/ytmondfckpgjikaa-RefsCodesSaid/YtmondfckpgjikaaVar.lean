/- The walks of varint.Put, PutBytes and Bytes. -/
import Derived.Test.YtmondfckpgjikaaBase
import Derived.Test.YtmondfckpgjikaaEnc
namespace Go.Proofs.Ytmondfckpgjikaa
open Go.RowKit Go.WideMaps
def byteV (b : UInt8) : Value := .int .u8 (b.toNat : Int)
theorem Try.info5 : (Try.prog.info? 5).map (fun i => (i.zero, i.size, i.bytes)) = some (some (.int .u8 0), 1, 1) := by kernel_rfl
theorem oneB (l : List UInt8) : ∀ u ∈ l.map byteV, u.oneCell' = true := by
  intro u hu; simp only [List.mem_map] at hu; obtain ⟨x, _, rfl⟩ := hu; rfl
set_option maxRecDepth 100000 in
theorem or_key : ∀ k, k < 256 → bits .or .u8 ((k : Nat) : Int) 128 = ((k % 128 + 128 : Nat) : Int) := by decide +kernel
theorem or_byte (m : Nat) : bits .or .u8 ((m : Int) % 256) 128 = ((m % 128 + 128 : Nat) : Int) := by
  have h := or_key (m % 256) (Nat.mod_lt _ (by decide))
  have e : ((m % 256 : Nat) : Int) = (m : Int) % 256 := by omega
  rw [e] at h
  rw [h]
  congr 2
  omega
theorem byteV_ofNat {x : Nat} (h : x < 256) : byteV (UInt8.ofNat x) = .int .u8 (x : Int) := by
  unfold byteV
  rw [UInt8.toNat_ofNat', Nat.mod_eq_of_lt (by omega)]
def VpRel (w : World) (n : Nat) (s0 s3 : Value) (wr : World) : Prop :=
  ∃ (m : Nat) (pre : List UInt8), m < 18446744073709551616 ∧ s0 = .int .u64 m ∧ vput n = pre ++ vput m ∧ wr.ownsRow w.heap.size 5 1 s3 pre.length (pre.map byteV) ∧ Below w.heap.size w wr ∧ pre.length ≤ 10
def VpEnd (w : World) (bs : List UInt8) (e : Ending) (w' : World) : Prop :=
  ∃ A c, e = .returned (.slice A bs.length c) ∧ w'.ownsRow w.heap.size 5 1 (.slice A bs.length c) bs.length (bs.map byteV) ∧ Below w.heap.size w w'
set_option maxRecDepth 100000 in
set_option maxHeartbeats 1000000 in
theorem vput_any (n : Nat) (w : World) (hn : n < 18446744073709551616) : Calls Try.prog 45 #[.int .u64 (n : Int)] w (VpEnd w (vput n)) := by
  obtain ⟨i0, hi, hz0, hz1, hz2⟩ := info_parts Try.info5
  go_enter Try.func45, Try.ntmps45
  go_wp2_with (at_make; refine wpList_make_own _ rfl _ _ 58 rfl w.heap.size 5 i0 (.int .u8 0) 1 Try.underlying58 hi hz0 hz1 _ _ _ 10 rfl rfl (by omega) (by rw [hz2]; omega) (by unfold maxLen; omega) (Nat.le_refl _) ?_; intro w1 hown1 hg1; go_frame)
  go_loopw [0, 3] (fun s0 s3 wr => VpRel w n s0 s3 wr) (fun s0 _ _ => (intOf s0).toNat)
  case atStart => exact ⟨n, [], hn, rfl, rfl, hown1, (Below.refl _ _).grown hg1 (Nat.le_refl _) (by simp), by simp⟩
  case round =>
    obtain ⟨m, pre, hm, rfl, hv, hown, hb, hpl⟩ := hrel
    by_cases hlt : m < 128
    · have hlv := Lib.hid (vput_lt hlt)
      have hown2 := hown.alloc (.cells #[.int .u8 (m : Int)] 5)
      have hrd := Reads.of_alloc wr #[.int .u8 (m : Int)] 5 (B := wr.heap.size + 1) (n := 1) (by omega) rfl
      have hbs := hb.size
      go_wp2_with (at_builtin; refine wpList_append_any _ rfl (.tmp 15) (.tmp 18) 58 rfl w.heap.size 5 i0 (.int .u8 0) 1 1 Try.underlying58 hi hz0 hz1 hz2 rfl (by decide) _ _ _ rfl hown2 _ _ _ _ _ rfl hrd (by simp [Value.oneCell']) (by unfold maxLen; omega) (by omega) (by simp; omega) ?_)
      intro v4 w4 hown4 hg4 _
      obtain ⟨A4, c4, rfl⟩ := own_form hown4
      have hb4 := below_own (hb.alloc hb.size (.cells #[.int .u8 (m : Int)] 5)) (by simp; omega) (Nat.le_refl _) hown2 hg4
      have HV := Lib.hid hv
      have HO := Lib.hid hown4
      clear hg4 hown4 hown2 hrd hown hv
      go_wp2_with fail
      go_ret
      have hfin : vput n = pre ++ [UInt8.ofNat m] := by rw [HV.out, hlv.out]
      have hby : byteV (UInt8.ofNat m) = .int .u8 (m : Int) := byteV_ofNat (by omega)
      have ho := HO.out
      unfold VpEnd
      rw [hfin, List.length_append]
      refine ⟨A4, c4, rfl, ?_, hb4⟩
      rw [List.map_append, List.map_cons, hby]
      exact ho
    · have hgv := vput_ge hlt
      have hle := vput_le hn
      rw [hv, hgv] at hle
      simp at hle
      have hlen1 : 1 ≤ (vput (m / 128)).length := by
        by_cases h : m / 128 < 128
        · rw [vput_lt h]; simp
        · rw [vput_ge h]; simp
      have HGV := Lib.hid hgv
      have HV := Lib.hid hv
      have hob := or_byte m
      obtain ⟨z, hz⟩ : ∃ z : Int, z = bits .or .u8 ((m : Int) % 256) 128 := ⟨_, rfl⟩
      rw [← hz] at hob
      have HZ := Lib.hid hz
      have HOB := Lib.hid hob
      have hown2 := hown.alloc (.cells #[.int .u8 (bits .or .u8 ((m : Int) % 256) 128)] 5)
      have hrd := Reads.of_alloc wr #[.int .u8 (bits .or .u8 ((m : Int) % 256) 128)] 5 (B := wr.heap.size + 1) (n := 1) (by omega) rfl
      have hbs := hb.size
      have hpl2 : pre.length + 1 ≤ 10 := by omega
      clear hgv hv hle hlen1 hob hz
      go_wp2_with (at_builtin; refine wpList_append_any _ rfl (.tmp 9) (.tmp 13) 58 rfl w.heap.size 5 i0 (.int .u8 0) 1 1 Try.underlying58 hi hz0 hz1 hz2 rfl (by decide) _ _ _ rfl hown2 _ _ _ _ _ rfl hrd (by simp [Value.oneCell']) (by unfold maxLen; omega) (by omega) (by simp; omega) ?_)
      intro v4 w4 hown4 hg4 _
      have hb4 := below_own (hb.alloc hb.size (.cells #[.int .u8 (bits .or .u8 ((m : Int) % 256) 128)] 5)) (by simp; omega) (Nat.le_refl _) hown2 hg4
      have HO := Lib.hid hown4
      clear hg4 hown4 hown2 hrd hown
      go_wp2_with fail
      go_roundw
      case rel =>
        refine ⟨m / 128, pre ++ [UInt8.ofNat (m % 128 + 128)], by omega, by go_num, by rw [HV.out, HGV.out]; simp, ?_, hb4, by simp; omega⟩
        have ho := HO.out
        rw [← HZ.out, HOB.out] at ho
        rw [List.length_append, List.map_append, List.map_cons, byteV_ofNat (by omega)]
        exact ho
      case measure => simp [intOf]; omega
end Go.Proofs.Ytmondfckpgjikaa
