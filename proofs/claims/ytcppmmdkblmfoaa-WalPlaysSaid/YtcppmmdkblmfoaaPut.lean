/- The walks of wal.put and wal.take. -/
import Derived.Test.YtcppmmdkblmfoaaSum
import Derived.Test.YtcppmmdkblmfoaaFr
import Derived.BigQuiet
import Derived.Deep.QuietTactic
namespace Go.Proofs.Ytcppmmdkblmfoaa
open Go.RowKit
theorem Try.info5 : (Try.prog.info? 5).map (fun i => (i.zero, i.size, i.bytes)) = some (some (.int .u8 0), 1, 1) := by kernel_rfl
def be4 (x : Nat) : List Nat := [x / 16777216, x / 65536 % 256, x / 256 % 256, x % 256]
def u8s (l : List Nat) : List Value := l.map fun (b : Nat) => Value.int .u8 (b : Int)
theorem be4_vals (x : Nat) : u8s (be4 x) = [.int .u8 ((x : Int) / 16777216), .int .u8 ((x : Int) / 65536 % 256), .int .u8 ((x : Int) / 256 % 256), .int .u8 ((x : Int) % 256)] := rfl
set_option maxRecDepth 100000 in
set_option maxHeartbeats 400000 in
theorem put_any (base : Nat) (v : Value) (n : Nat) (xs : List Value) (x : Nat) (w : World) (hown : w.ownsRow base 5 1 v n xs) (hx : x < 4294967296) (hn : n ≤ 1000000000) (hb : base ≤ w.heap.size) :
    Calls Try.prog 33 #[v, .int .u32 (x : Int)] w fun e w' => ∃ v', e = .returned v' ∧ w'.ownsRow base 5 1 v' (n + 4) (xs ++ u8s (be4 x)) ∧ w.grownBy w' v.ownBlock := by
  obtain ⟨i0, hi, hz0, hz1, hz2⟩ := info_parts Try.info5
  go_enter Try.func33, Try.ntmps33
  go_wp2_with (at_builtin; refine wpList_append_own _ rfl _ _ 22 rfl base 5 i0 (.int .u8 0) 1 1 Try.underlying22 hi hz0 hz1 hz2 rfl (by decide) _ _ _ rfl (hown.alloc _) ⟨w.heap.size, 0, none⟩ 4 4 (u8s (be4 x)) rfl rfl ?c1 ?c2 ?c3 ?c4 ?c5 ?_)
  case c1 => exact news_alloc w _ 5
  case c2 => intro u hu; simp [u8s, be4] at hu; rcases hu with rfl | rfl | rfl | rfl <;> rfl
  case c3 => unfold maxLen; omega
  case c4 => omega
  case c5 => simp; omega
  intro v' w1 hown' hgrow _
  go_wp2
  go_ret
  exact ⟨_, rfl, hown', (World.grownBy_alloc w _ _).trans hgrow⟩
theorem or4 (b0 b1 b2 b3 : Nat) (h0 : b0 < 256) (h1 : b1 < 256) (h2 : b2 < 256) (h3 : b3 < 256) :
    bits .or .u32 (bits .or .u32 (bits .or .u32 ((b0 : Int) * 16777216) ((b1 : Int) * 65536)) ((b2 : Int) * 256)) (b3 : Int) = (((((b0 * 256 + b1) * 256 + b2) * 256 + b3 : Nat)) : Int) := by
  have e1 := u32_or_nat (b0 * 16777216) (b1 * 65536) (by omega) (by omega)
  rw [nat_join 24 _ _ (by omega) (by omega)] at e1
  have e2 := u32_or_nat (b0 * 16777216 + b1 * 65536) (b2 * 256) (by omega) (by omega)
  rw [nat_join 16 _ _ (by omega) (by omega)] at e2
  have e3 := u32_or_nat (b0 * 16777216 + b1 * 65536 + b2 * 256) b3 (by omega) (by omega)
  rw [nat_join 8 _ _ (by omega) (by omega)] at e3
  simp only [Int.natCast_mul, Int.natCast_add] at e1 e2 e3
  simp only [Int.cast_ofNat_Int] at e1 e2 e3
  rw [e1, e2, e3]; omega
theorem wrap_u32_of (x : Int) (h0 : 0 ≤ x) (h : x < 4294967296) : IntKind.u32.wrap x = x := by rw [IntKind.wrap_u32]; omega
set_option maxHeartbeats 400000 in
theorem take_any (A : Option Addr) (n c B : Nat) (b0 b1 b2 b3 : Nat) (r : List Value) (w : World) (hr : Reads w B 1 A n (.int .u8 b0 :: .int .u8 b1 :: .int .u8 b2 :: .int .u8 b3 :: r)) (hn : 4 ≤ n) (h0 : b0 < 256) (h1 : b1 < 256) (h2 : b2 < 256) (h3 : b3 < 256):
    Calls Try.prog 35 #[.slice A n c] w fun e w' => e = .returned (.int .u32 (val4 b0 b1 b2 b3 : Nat)) ∧ ∃ k, w' = w.drewN k := by
  obtain ⟨b, o, rfl, hbl, hc⟩ := hr.form (by omega)
  have c0 := hc 0 _ rfl
  have c1 := hc 1 _ rfl
  have c2 := hc 2 _ rfl
  have c3 := hc 3 _ rfl
  rw [Nat.add_zero] at c0
  clear hc
  have g0 : 0 < n := by omega
  have g1 : (1 : Int) < (n : Int) := by omega
  have g2 : (2 : Int) < (n : Int) := by omega
  have g3 : (3 : Int) < (n : Int) := by omega
  have HO := Lib.hid (or4 b0 b1 b2 b3 h0 h1 h2 h3)
  have w0 := wrap_u32_of (b0 : Int) (by omega) (by omega)
  have w1 := wrap_u32_of (b1 : Int) (by omega) (by omega)
  have w2 := wrap_u32_of (b2 : Int) (by omega) (by omega)
  have w3 := wrap_u32_of (b3 : Int) (by omega) (by omega)
  have v0 := wrap_u32_of ((b0 : Int) * 16777216) (by omega) (by omega)
  have v1 := wrap_u32_of ((b1 : Int) * 65536) (by omega) (by omega)
  have v2 := wrap_u32_of ((b2 : Int) * 256) (by omega) (by omega)
  go_enter Try.func35, Try.ntmps35
  go_wp2
  go_quiet (fail)
  go_wp2
  go_ret
  exact ⟨congrArg (fun x => Ending.returned (.int .u32 x)) HO.out, _, rfl⟩
theorem take_l (A : Option Addr) (n c B : Nat) (l : List UInt8) (w : World) (hr : Reads w B 1 A n (l.map byteV)) (hn : 4 ≤ n) :
    Calls Try.prog 35 #[.slice A n c] w fun e w' => e = .returned (.int .u32 (rd4 l : Nat)) ∧ ∃ k, w' = w.drewN k := by
  match l, hr with
  | b0 :: b1 :: b2 :: b3 :: r, hr => exact take_any A n c B b0.toNat b1.toNat b2.toNat b3.toNat (r.map byteV) w hr hn b0.toNat_lt b1.toNat_lt b2.toNat_lt b3.toNat_lt
  | [_, _, _], hr => have := hr.1; simp at this; omega
  | [_, _], hr => have := hr.1; simp at this; omega
  | [_], hr => have := hr.1; simp at this; omega
  | [], hr => have := hr.1; simp at this; omega
end Go.Proofs.Ytcppmmdkblmfoaa
