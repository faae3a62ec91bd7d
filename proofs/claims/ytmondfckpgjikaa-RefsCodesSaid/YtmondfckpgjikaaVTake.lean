/- The walks of varint.Take, TakeBytes and number. -/
import Derived.Test.YtmondfckpgjikaaDec
import Derived.Test.YtmondfckpgjikaaTPut
import Derived.Laws.BitsAllLaws
import Derived.Laws.CopyOwn
import Derived.Laws.MakeOwn
import Derived.Laws.Entries
namespace Go.Proofs.Ytmondfckpgjikaa
open Go.RowKit Go.WideMaps
def vtR (r : Option (Nat × Nat)) : Value := match r with
  | some (n, k) => .tuple #[.int .u64 (n : Int), .int .i64 (k : Int), .nilIface]
  | none => .tuple #[.int .u64 0, .int .i64 0, .iface 31 (.int .i64 4)]
def VtEnd (w : World) (l : List UInt8) (e : Ending) (w' : World) : Prop := e = .returned (vtR (vtk 0 0 l)) ∧ w = w'
def VtRel (l : List UInt8) (n : Nat) (s2 s9 : Value) : Prop :=
  ∃ k acc : Nat, k ≤ n ∧ k ≤ 9 ∧ s9 = .int .i64 k ∧ s2 = .int .u64 acc ∧ acc < 128 ^ k ∧ Hid (vtk 0 0 l = vtk k acc (l.drop k))
theorem and_key : ∀ y, y < 256 → bits .and .u8 ((y : Nat) : Int) 127 = ((y % 128 : Nat) : Int) := by decide +kernel
theorem or_shift (acc y k : Nat) (hk : k ≤ 9) (hacc : acc < 128 ^ k) (hy : y < 256) (h9 : k = 9 → y % 128 ≤ 1) :
    bits BinOp.or IntKind.u64 (acc : Int) (IntKind.u64.wrap (IntKind.u64.wrap (bits BinOp.and IntKind.u8 (y : Int) 127) * 2 ^ (7 * k))) = ((acc + y % 128 * 128 ^ k : Nat) : Int) := by
  have hp : (128 : Nat) ^ k ≤ 9223372036854775808 := by
    rw [← pow9]; exact Nat.pow_le_pow_right (by decide) hk
  have hq : y % 128 * 128 ^ k ≤ 9223372036854775808 * 2 - 1 := by
    by_cases h : k = 9
    · have := h9 h
      have := Nat.mul_le_mul_right (128 ^ k) this
      omega
    · have hp2 : (128 : Nat) ^ (k + 1) ≤ 9223372036854775808 := by
        rw [← pow9]; exact Nat.pow_le_pow_right (by decide) (by omega)
      have : y % 128 * 128 ^ k ≤ 127 * 128 ^ k := Nat.mul_le_mul_right _ (by omega)
      rw [Nat.pow_succ] at hp2
      omega
  have e2 : ((2 : Int) ^ (7 * k)) = ((128 ^ k : Nat) : Int) := by
    rw [Int.pow_mul]
    simp
  have e3 : IntKind.u64.wrap ((y % 128 : Nat) : Int) = ((y % 128 : Nat) : Int) := IntWalk.u64_in _ ⟨by omega, by omega⟩
  have e4 : IntKind.u64.wrap ((y % 128 * 128 ^ k : Nat) : Int) = ((y % 128 * 128 ^ k : Nat) : Int) := by
    generalize y % 128 * 128 ^ k = Q at *
    exact IntWalk.u64_in _ ⟨by omega, by omega⟩
  rw [and_key y hy, e3, e2, ← Int.natCast_mul, e4, u64_or_nat _ _ (by omega) (by omega)]
  congr 1
  have h128 : (128 : Nat) ^ k = 2 ^ (7 * k) := by rw [Nat.pow_mul]
  rw [h128] at hacc ⊢
  rw [← Nat.shiftLeft_eq, Nat.or_comm, ← Nat.shiftLeft_add_eq_or_of_lt hacc, Nat.add_comm]
theorem acc_lt (acc y k : Nat) (hacc : acc < 128 ^ k) : acc + y % 128 * 128 ^ k < 128 ^ (k + 1) := by
  have : y % 128 * 128 ^ k ≤ 127 * 128 ^ k := Nat.mul_le_mul_right _ (by omega)
  rw [Nat.pow_succ]
  omega
set_option maxRecDepth 100000 in
set_option maxHeartbeats 1000000 in
theorem vtake_any (A : Option Addr) (n c B : Nat) (l : List UInt8) (w : World) (hr : Reads w B 1 A n (l.map byteV)) (hn : n ≤ 1000000000) :
    Calls Try.prog 52 #[.slice A n c] w (VtEnd w l) := by
  have hl : l.length = n := by have := hr.1; simpa using this
  have HL := Lib.hid hl
  clear hl
  go_enter Try.func52, Try.ntmps52
  go_wp2_with fail
  go_loop [2, 9] (fun s2 s9 => VtRel l n s2 s9) (fun _ s9 => n - (intOf s9).toNat)
  case atStart => exact ⟨0, 0, by omega, by omega, rfl, rfl, by decide, by rw [List.drop_zero]; exact (rfl : vtk 0 0 l = vtk 0 0 l)⟩
  case round =>
    obtain ⟨k, acc, hk, hk9, rfl, rfl, hacc, HV⟩ := hrel
    by_cases hlt : k < n
    · obtain ⟨b, o, rfl, hbl, hc⟩ := hr.form (by omega)
      have hkl : k < l.length := by rw [HL.out]; exact hlt
      have e0 := hc k (byteV l[k]) (by rw [List.getElem?_map, List.getElem?_eq_getElem hkl]; rfl)
      have hd := List.drop_eq_getElem_cons hkl
      have hy : l[k].toNat < 256 := UInt8.toNat_lt _
      unfold byteV at e0
      rw [hd] at HV
      have HC := Lib.hid hc
      clear hc hd
      obtain ⟨x, hx⟩ : ∃ x, x = l[k] := ⟨_, rfl⟩
      rw [← hx] at hy e0 HV
      have hvt : vtk k acc (x :: l.drop (k + 1)) = _ := rfl
      conv at hvt => rhs; rw [vtk]
      rw [hvt] at HV
      generalize x.toNat = y at *
      clear hx hvt
      have HA := Lib.hid hacc
      clear hacc
      by_cases h9 : k = 9 ∧ 1 < y
      · obtain ⟨h9, h1⟩ := h9
        have b9 : ((k : Int) == 9) = true := by simp; omega
        have b1 : decide ((1 : Int) < (y : Int)) = true := by simp; omega
        rw [if_pos ⟨h9, h1⟩] at HV
        clear h9
        go_wp2_with fail
        go_ret3
        exact ⟨by rw [HV.out]; rfl, rfl⟩
      · have b9 : ((k : Int) == 9) = false ∨ (((k : Int) == 9) = true ∧ decide ((1 : Int) < (y : Int)) = false) := by
          by_cases h : k = 9
          · exact .inr ⟨by simp; omega, by simp; omega⟩
          · exact .inl (by simp; omega)
        rw [if_neg h9] at HV
        have HO := Lib.hid (or_shift acc y k hk9 HA.out hy fun h => by omega)
        have HN := Lib.hid (fun h : 128 ≤ y => show k ≠ 9 from fun e => h9 ⟨e, by omega⟩)
        clear h9
        by_cases h128 : y < 128
        · rw [if_pos h128] at HV
          by_cases h0 : y = 0 ∧ 0 < k
          · have b2 : ((y : Int) == 0) = true := by simp; omega
            have b3 : decide (0 < k) = true := by simp; omega
            have b5 : 0 < k := h0.2
            rw [if_pos h0] at HV
            clear h0
            rcases b9 with b9 | ⟨b9, b10⟩
            · go_wp2_with fail
              go_ret3
              exact ⟨by rw [HV.out]; rfl, rfl⟩
            · go_wp2_with fail
              go_ret3
              exact ⟨by rw [HV.out]; rfl, rfl⟩
          · have b2 : ((y : Int) == 0) = false ∨ (((y : Int) == 0) = true ∧ decide (0 < k) = false ∧ ¬ 0 < k) := by
              by_cases h : y = 0
              · exact .inr ⟨by simp; omega, by simp; omega, by omega⟩
              · exact .inl (by simp; omega)
            rw [if_neg h0] at HV
            clear h0
            rcases b9 with b9 | ⟨b9, b10⟩
            · rcases b2 with b2 | ⟨b2, b3, b5⟩
              · go_wp2_with fail
                go_ret3
                exact ⟨by rw [HV.out]; simp only [vtR]; rw [HO.out]; rfl, rfl⟩
              · go_wp2_with fail
                go_ret3
                exact ⟨by rw [HV.out]; simp only [vtR]; rw [HO.out]; rfl, rfl⟩
            · rcases b2 with b2 | ⟨b2, b3, b5⟩
              · go_wp2_with fail
                go_ret3
                exact ⟨by rw [HV.out]; simp only [vtR]; rw [HO.out]; rfl, rfl⟩
              · go_wp2_with fail
                go_ret3
                exact ⟨by rw [HV.out]; simp only [vtR]; rw [HO.out]; rfl, rfl⟩
        · rw [if_neg h128] at HV
          have hn9 := HN.out (by omega)
          have b9' : ((k : Int) == 9) = false := by simp; omega
          clear b9
          go_wp2_with fail
          go_round
          case rel =>
            exact ⟨k + 1, acc + y % 128 * 128 ^ k, by omega, by omega, by go_num, by rw [HO.out], acc_lt acc y k HA.out, HV.out⟩
          case measure => simp [intOf]; omega
    · have hdn : l.drop k = [] := List.drop_eq_nil_of_le (by rw [HL.out]; omega)
      rw [hdn] at HV
      clear hdn
      have HV2 := Lib.hid (show vtk 0 0 l = none from HV.out)
      clear HV
      go_wp2_with fail
      go_ret3
      exact ⟨by rw [HV2.out]; rfl, rfl⟩
theorem run_make_rowN {P : Program} (t e : TypeId) (i : TypeInfo) (z : Value) (ht : P.underlying t = some (.slice e)) (hi : P.info? e = some i) (hz : i.zero = some z)
    (kl kc : IntKind) (n c : Nat) (hnc : n ≤ c) (hbytes : i.bytes * c ≤ 281474976710656) (h63 : c ≤ 9223372036854775807) (w : World) :
    (Instr.makeSlice t (.int kl (n : Int)) (.int kc (c : Int))).run P w = .ok (.slice (some ⟨w.heap.size, 0, none⟩) n c) (w.alloc (.cells (madeCells z.cells (c * i.size)) e)) := by
  have hb : (i.bytes : Int) * (c : Int) ≤ 281474976710656 := by
    have h : ((i.bytes * c : Nat) : Int) ≤ 281474976710656 := by omega
    rwa [Int.natCast_mul] at h
  have hr := run_make (P := P) w t e i z ht hi hz kl kc n c (by omega) (by omega) hb (by omega)
  simp only [Int.toNat_natCast] at hr
  exact hr
theorem slice_from (ad : Addr) (m c u : Nat) (h1 : u ≤ m) (h2 : m ≤ c) (w : World) : (Instr.slice 58 (.slice (some ad) m c) (some (.int .i64 (u : Int))) none none).run Try.prog w = .ok (.slice (if c = u then some ad else (some ad).map (·.add (u * 1))) (m - u) (c - u)) w := by
  have q0 : (u : Int) ≤ (m : Int) := by omega
  have q1 : (m : Int) ≤ (c : Int) := by omega
  have q2 : (0 : Int) ≤ (u : Int) := by omega
  by_cases h : c = u
  · subst h
    obtain rfl : m = c := by omega
    simp [go_sem, Try.underlying58]
  · obtain ⟨i0, hi, hz0, hz1, hz2⟩ := info_parts Try.info5
    have hcu : ¬ (c : Int) = (u : Int) := by omega
    simp [go_sem, Try.underlying58, q0, h, typeInfo, sizeOf, hi, hz1, Addr.add]
theorem Reads.take_ {w : World} {B n k : Nat} {A : Option Addr} {xs : List Value} (h : Reads w B 1 A n xs) (hk : k ≤ n) : Reads w B 1 A k (xs.take k) := by
  refine ⟨by have := h.1; simp; omega, fun hn => ?_⟩
  obtain ⟨ad, e, hb, hc⟩ := h.2 (by omega)
  exact ⟨ad, e, hb, fun j u hu => hc j u (by rw [List.getElem?_take] at hu; split at hu; exact hu; cases hu)⟩
/-- What TakeBytes takes, at most 32 bytes. -/
def tbk (l : List UInt8) : Option (List UInt8 × Nat) := match vtk 0 0 l with
  | none => none
  | some (n, u) => if 32 < n then none else if l.length - u < n then none else some ((l.drop u).take n, u + n)
def TbEnd (w : World) (l : List UInt8) (e : Ending) (w' : World) : Prop :=
  Below w.heap.size w w' ∧ match tbk l with
    | none => ∃ c : Int, e = .returned (.tuple #[.slice none 0 0, .int .i64 0, .iface 31 (.int .i64 c)])
    | some (p, u) => ∃ A c, e = .returned (.tuple #[.slice A p.length c, .int .i64 (u : Int), .nilIface]) ∧ Reads w' w'.heap.size 1 A p.length (p.map byteV)
set_option maxRecDepth 100000 in
set_option maxHeartbeats 1000000 in
theorem tb_any (A : Option Addr) (n c B : Nat) (l : List UInt8) (w : World) (hr : Reads w B 1 A n (l.map byteV)) (hB : B ≤ w.heap.size) (hn : n ≤ 1000000000) (hc : n ≤ c) :
    Calls Try.prog 53 #[.slice A n c, .int .i64 32] w (TbEnd w l) := by
  have hl : l.length = n := by have := hr.1; simpa using this
  have hvt := vtake_any A n c B l w hr hn
  obtain ⟨i0, hi, hz0, hz1, hz2⟩ := info_parts Try.info5
  unfold VtEnd at hvt
  cases hv : vtk 0 0 l with
  | none =>
    have HT := Lib.hid (show tbk l = none by unfold tbk; rw [hv])
    rw [hv] at hvt
    simp only [vtR] at hvt
    clear hv hl
    go_enter Try.func53, Try.ntmps53
    go_wp2_with fail
    refine hvt.mono ?_
    rintro e w' ⟨rfl, rfl⟩
    clear hvt
    go_wp2_with fail
    go_ret3
    refine ⟨Below.refl _ _, ?_⟩
    rw [HT.out]
    exact ⟨4, rfl⟩
  | some q =>
    obtain ⟨m, u⟩ := q
    obtain ⟨hm1, hm2, hm3⟩ := vtk_le l 0 0 m u (by omega) (by decide) hv
    rw [hl] at hm2
    obtain ⟨ad, _, rfl, _⟩ := hr.at_ (k := 0) (by omega)
    rw [hv] at hvt
    simp only [vtR] at hvt
    have HV := Lib.hid hv
    have HL := Lib.hid hl
    clear hv hl
    by_cases h32 : 32 < m
    · have HT := Lib.hid (show tbk l = none by unfold tbk; rw [HV.out]; simp only; rw [if_pos h32])
      have d1 : decide ((32 : Int) < (m : Int)) = true := by simp; omega
      have g1 : (32 : Int) < (m : Int) := by omega
      go_enter Try.func53, Try.ntmps53
      go_wp2_with fail
      refine hvt.mono ?_
      rintro e w' ⟨rfl, rfl⟩
      clear hvt
      go_wp2_with fail
      go_ret3
      refine ⟨Below.refl _ _, ?_⟩
      rw [HT.out]
      exact ⟨9, rfl⟩
    · have d1 : decide ((32 : Int) < (m : Int)) = false := by simp; omega
      have g1 : ¬ (32 : Int) < (m : Int) := by omega
      by_cases hlt : n - u < m
      · have HT := Lib.hid (show tbk l = none by unfold tbk; rw [HV.out]; simp only; rw [if_neg h32, HL.out, if_pos hlt])
        have g2 : (n : Int) - (u : Int) < (m : Int) := by omega
        go_enter Try.func53, Try.ntmps53
        go_wp2_with fail
        refine hvt.mono ?_
        rintro e w' ⟨rfl, rfl⟩
        clear hvt
        go_wp2_with fail
        go_ret3
        refine ⟨Below.refl _ _, ?_⟩
        rw [HT.out]
        exact ⟨4, rfl⟩
      · have HT := Lib.hid (show tbk l = some ((l.drop u).take m, u + m) by unfold tbk; rw [HV.out]; simp only; rw [if_neg h32, HL.out, if_neg hlt])
        have g2 : ¬ (n : Int) - (u : Int) < (m : Int) := by omega
        have hpl : ((l.drop u).take m).length = m := by rw [List.length_take, List.length_drop, HL.out]; omega
        have HPL := Lib.hid hpl
        have hmk := fun W => run_make_rowN (P := Try.prog) 58 5 i0 (.int .u8 0) Try.underlying58 hi hz0 .u64 .u64 m m (Nat.le_refl _) (by rw [hz2]; omega) (by omega) W
        rw [hz1] at hmk
        have hsl := fun W => slice_from ad n c u (by omega) hc W
        have hcut := hr.cut (k := u) (cap := c) (by omega) hc
        rw [Nat.mul_one, ← List.map_drop] at hcut
        obtain ⟨A2, hA2⟩ : ∃ A2, A2 = if c = u then some ad else (some ad).map (·.add (u * 1)) := ⟨_, rfl⟩
        simp only [Nat.mul_one] at hA2 hcut hsl
        rw [← hA2] at hcut
        simp only [← hA2] at hsl
        obtain ⟨C, hC⟩ : ∃ C, C = madeCells (Value.int .u8 0).cells m := ⟨_, rfl⟩
        simp only [Nat.mul_one, ← hC] at hmk
        have hCs : C.toList.length = m := by rw [hC]; simp [madeCells]
        have HCS := Lib.hid hCs
        have hcw := hcut.alloc hB (.cells C 5)
        have hr3 := hcw.take_ (k := m) (by omega)
        rw [← List.map_take] at hr3
        have hblk : (w.alloc (.cells C 5)).heap[w.heap.size]? = some (.cells C.toList.toArray 5 (0, 0)) := by
          have := heap_alloc_new w (.cells C 5)
          simpa using this
        have HBK := Lib.hid hblk
        obtain ⟨p, hp⟩ : ∃ p, p = (l.drop u).take m := ⟨_, rfl⟩
        rw [← hp] at hr3 hpl HT
        have HP := Lib.hid hp
        have HPL := Lib.hid hpl
        have C1 := Lib.hid (show (p.map byteV).length = Nat.min (n - u) m by rw [List.length_map, hpl]; show m = min (n - u) m; omega)
        have C2 := Lib.hid (show 0 < (p.map byteV).length → ∃ ad2, A2 = some ad2 ∧ ∀ j v, (p.map byteV)[j]? = some v → (w.alloc (.cells C 5)).cell? (ad2.add j) = some v from fun h => by
          have h0 : 0 < m := by rw [List.length_map, hpl] at h; exact h
          obtain ⟨ad2, e2, _, hc2⟩ := hr3.2 h0
          exact ⟨ad2, e2, hc2⟩)
        have C3 := Lib.hid (show 0 + (p.map byteV).length ≤ C.toList.length by rw [List.length_map, hpl, hCs]; omega)
        have C4 := Lib.hid (show splice C.toList 0 (p.map byteV) = p.map byteV by
          unfold splice
          rw [List.take_zero, List.nil_append, List.drop_eq_nil_of_le (by rw [List.length_map, hpl, hCs]; omega), List.append_nil])
        have hbel : Below w.heap.size w (w.alloc (.cells C 5)) := (Below.refl _ _).alloc (Nat.le_refl _) _
        clear hcut hcw hpl hA2 hC hCs hblk hr3 hlt hp
        go_enter Try.func53, Try.ntmps53
        go_wp2_with fail
        refine hvt.mono ?_
        rintro e w' ⟨rfl, rfl⟩
        clear hvt
        go_wp2_with (with_reducible refine wpList_copy_splice rfl (.tmp 36) (.tmp 39) 58 58 rfl 5 Try.underlying58 (by rw [hi]; simp [hz1]) (some ⟨w.heap.size, 0, none⟩) A2 m m (n - u) (c - u) rfl rfl w.heap.size 0 C.toList 5 HBK.out (p.map byteV) C1.out (fun h => ⟨rfl, C2.out h⟩) C3.out (oneB _) w.heap.size w hbel (Nat.le_refl _) ?_)
        intro w2 hw2 hb2
        have HCE := Lib.hid (show Reads w2 w2.heap.size 1 (some ⟨w.heap.size, 0, none⟩) m (p.map byteV) from by
          refine ⟨by rw [List.length_map, HPL.out]; omega, fun _ => ⟨_, rfl, (Array.getElem?_eq_some_iff.1 hw2.out).1, fun j v hv => ?_⟩⟩
          rw [addr_add, Nat.zero_add, cell_of_row _ _ _ _ _ (0, 0) hw2.out, C4.out]
          simpa using hv)
        clear hw2 hbel
        go_wp2_with fail
        go_ret3
        refine ⟨hb2, ?_⟩
        rw [HT.out]
        simp only
        rw [HPL.out]
        exact ⟨_, m, rfl, HCE.out⟩
def NbEnd (w : World) (B c : Nat) (l : List UInt8) (e : Ending) (w' : World) : Prop :=
  Below w.heap.size w w' ∧ match vtk 0 0 l with
    | none => e = .returned (.tuple #[.int .i64 0, .slice none 0 0, .bool false])
    | some (m, u) => if 9223372036854775807 < m then e = .returned (.tuple #[.int .i64 0, .slice none 0 0, .bool false]) else
        ∃ A, e = .returned (.tuple #[.int .i64 (m : Int), .slice A (l.length - u) (c - u), .bool true]) ∧ Reads w' B 1 A (l.length - u) ((l.drop u).map byteV)
set_option maxRecDepth 100000 in
set_option maxHeartbeats 1000000 in
theorem nb_any (A : Option Addr) (n c B : Nat) (l : List UInt8) (w : World) (hr : Reads w B 1 A n (l.map byteV)) (hn : n ≤ 1000000000) (hc : n ≤ c) :
    Calls Try.prog 54 #[.slice A n c] w (NbEnd w B c l) := by
  have hl : l.length = n := by have := hr.1; simpa using this
  have hvt := vtake_any A n c B l w hr hn
  unfold VtEnd at hvt
  cases hv : vtk 0 0 l with
  | none =>
    rw [hv] at hvt
    simp only [vtR] at hvt
    have HV := Lib.hid hv
    clear hv hl
    go_enter Try.func54, Try.ntmps54
    go_wp2_with fail
    refine hvt.mono ?_
    rintro e w' ⟨rfl, rfl⟩
    clear hvt
    go_wp2_with fail
    go_ret3
    unfold NbEnd
    rw [HV.out]
    exact ⟨Below.refl _ _, rfl⟩
  | some q =>
    obtain ⟨m, u⟩ := q
    obtain ⟨hm1, hm2, hm3⟩ := vtk_le l 0 0 m u (by omega) (by decide) hv
    rw [hl] at hm2
    obtain ⟨ad, _, rfl, _⟩ := hr.at_ (k := 0) (by omega)
    rw [hv] at hvt
    simp only [vtR] at hvt
    have HV := Lib.hid hv
    have HL := Lib.hid hl
    clear hv hl
    by_cases hbig : 9223372036854775807 < m
    · have d1 : decide ((9223372036854775807 : Int) < (m : Int)) = true := by simp; omega
      go_enter Try.func54, Try.ntmps54
      go_wp2_with fail
      refine hvt.mono ?_
      rintro e w' ⟨rfl, rfl⟩
      clear hvt
      go_wp2_with fail
      go_ret3
      unfold NbEnd
      rw [HV.out]
      simp only
      rw [if_pos hbig]
      exact ⟨Below.refl _ _, rfl⟩
    · have d1 : decide ((9223372036854775807 : Int) < (m : Int)) = false := by simp; omega
      have v0 : IntKind.i64.wrap (m : Int) = (m : Int) := IntWalk.i64_in _ (by omega)
      have hsl := fun W => slice_from ad n c u (by omega) hc W
      have hcut := hr.cut (k := u) (cap := c) (by omega) hc
      rw [Nat.mul_one, ← List.map_drop] at hcut
      obtain ⟨A2, hA2⟩ : ∃ A2, A2 = if c = u then some ad else (some ad).map (·.add (u * 1)) := ⟨_, rfl⟩
      simp only [Nat.mul_one] at hA2 hcut hsl
      rw [← hA2] at hcut
      simp only [← hA2] at hsl
      have HCUT := Lib.hid hcut
      clear hA2 hcut
      go_enter Try.func54, Try.ntmps54
      go_wp2_with fail
      refine hvt.mono ?_
      rintro e w' ⟨rfl, rfl⟩
      clear hvt
      go_wp2_with fail
      go_quiet (fail)
      go_wp2_with fail
      go_ret3
      unfold NbEnd
      rw [HV.out]
      simp only
      rw [if_neg hbig, HL.out]
      exact ⟨below_drewN (Below.refl w.heap.size w) nq, A2, rfl, HCUT.out.drewN _⟩
end Go.Proofs.Ytmondfckpgjikaa
