/- The walk of WalPlays (func 9). -/
import Derived.Test.YtcppmmdkblmfoaaPlDoAll
import Derived.Test.YtcppmmdkblmfoaaActs
import Derived.Test.YtcppmmdkblmfoaaWKeeps
namespace Go.Proofs.Ytcppmmdkblmfoaa
open Go.RowKit Go.WideMaps
set_option maxRecDepth 100000 in
set_option maxHeartbeats 400000 in
theorem plays_long (A : Option Addr) (n c : Nat) (w : World) (hn : 40 < n) (hm : n ≤ 9223372036854775807) :
    Calls Try.prog 9 #[.slice A n c] w (AwEnd w) := by
  have hn' : (40 : Int) < (n : Int) := by omega
  have hnd : decide ((40 : Int) < (n : Int)) = true := by simpa using hn'
  go_enter Try.func9, Try.ntmps9
  go_wp2_with fail
  refine (awake_any w).mono ?_
  rintro e w1 ⟨rfl, hb1⟩
  go_wp2_with fail
  refine (awake_any w1).mono ?_
  rintro e w2 ⟨rfl, hb2⟩
  have hb := hb1.trans (hb2.mono hb1.size)
  go_wp2_with fail
  go_ret
  exact ⟨rfl, hb⟩
def PmRel (w : World) (base sb mb pb n : Nat) (s30 : Value) (wr : World) : Prop :=
  ∃ j, j ≤ n ∧ s30 = .int .i64 (j : Nat) ∧ Below w.heap.size w wr ∧ base ≤ wr.heap.size ∧ ∃ F G st r lv, PlM wr base F sb mb j pb G st r lv ∧ (r.syn ++ r.more).length ≤ 308 * j
set_option maxRecDepth 100000 in
set_option maxHeartbeats 4000000 in
theorem plays_main (A : Option Addr) (n c : Nat) (w : World) (hn : n ≤ 40) (hA : ActsAt w A n) :
    Calls Try.prog 9 #[.slice A n c] w (AwEnd w) := by
  have hnd : decide ((40 : Int) < (n : Int)) = false := by simp; omega
  have HA := Lib.hid hA
  clear hA
  go_enter Try.func9, Try.ntmps9
  go_wp2_with fail
  refine (awake_any w).mono ?_
  rintro e w1 ⟨rfl, hb1⟩
  go_wp2_with fail
  refine (newS_any w1).mono ?_
  rintro e w2 ⟨rfl, hS2, hq⟩
  have hb2 := hb1.trans (hq.mono hb1.size)
  have hS2 := hS2.cap
  obtain ⟨F2, hF2, hS2⟩ : ∃ F2, Hid (∀ i, F2 i → w1.heap.size ≤ i ∧ i < w2.heap.size) ∧ SysM w2 w1.heap.size F2 (w1.heap.size + 1) w1.heap.size 0 emptyA := ⟨_, fun i hi => hi, hS2⟩
  have HSZ := Lib.hid (show w.heap.size ≤ w1.heap.size ∧ w1.heap.size ≤ w2.heap.size from ⟨hb1.size, hq.size⟩)
  clear hb1 hq
  go_upto_region 4 with (fail)
  obtain ⟨w3, hw3⟩ : ∃ w3, w3 = w2.alloc (.cells #[.pointer (some ⟨w1.heap.size + 1, 0, none⟩), .pointer none, .slice none 0 0, .slice none 0 0, .int .i64 (-1), .bool false, .bool false] 59) := ⟨_, rfl⟩
  have hblk : Blk w3 w2.heap.size 59 #[.pointer (some ⟨w1.heap.size + 1, 0, none⟩), .pointer none, .slice none 0 0, .slice none 0 0, .int .i64 (-1), .bool false, .bool false] := by rw [hw3]; exact Blk.new _ _ _
  have hq3 : Below w2.heap.size w2 w3 := by rw [hw3]; exact (Below.refl _ _).alloc (Nat.le_refl _) _
  rw [← hw3]
  have hP0 : PlM w3 w1.heap.size F2 (w1.heap.size + 1) w1.heap.size 0 w2.heap.size (fun _ => False) emptyA ⟨[], [], -1, false, false⟩ (.pointer none) := by
    refine ⟨hS2.below hq3, fun i hi => Nat.lt_of_lt_of_le (hF2.out i hi).2 hq3.size, ⟨.inl ⟨rfl, rfl, rfl⟩, rfl, rfl, fun e => Bool.noConfusion (show false = true from e), by show (-1 : Int) ≤ -1; omega, by show (-1 : Int) ≤ _; omega⟩, ⟨none, 0, 0, none, 0, 0, hblk, ?_, ?_⟩, fun h => by have := (hF2.out _ h).2; omega, fun _ h => h.elim, .inl rfl, Nat.zero_le _⟩
    · exact ⟨none, 0, 0, rfl, Nat.le_refl _, rfl, fun h => absurd h (Nat.lt_irrefl 0)⟩
    · exact ⟨none, 0, 0, rfl, Nat.le_refl _, rfl, fun h => absurd h (Nat.lt_irrefl 0)⟩
  have hop := popen_any hP0 HSZ.out.2
  have hle := (open_law hP0.str).2.2.1
  generalize (rOpen ⟨[], [], -1, false, false⟩).1 = r0 at hop hle
  generalize (openA emptyA logN).st = st0 at hop
  have p0 := hblk.cell 0
  simp only [List.getElem?_toArray, List.getElem?_cons_zero] at p0
  have hb3 := hb2.trans (hq3.mono hb2.size)
  have HS3 := Lib.hid (show w1.heap.size ≤ w3.heap.size ∧ w1.heap.size ≤ w2.heap.size from ⟨Nat.le_trans HSZ.out.2 hq3.size, HSZ.out.2⟩)
  have HLE := Lib.hid hle
  have HSB := Lib.hid (show w.heap.size ≤ w1.heap.size from HSZ.out.1)
  clear hw3 hblk hq3 hP0 hS2 hb2 hle
  generalize w1.heap.size = base at *
  generalize w2.heap.size = pb at *
  go_wp2_with fail
  refine hop.mono ?_
  clear hop
  rintro e w4 ⟨rfl, hb4, F4, G4, lv4, hP4⟩
  have hb5 := hb3.trans (hb4.mono HSB.out)
  have HS4 := Lib.hid (Nat.le_trans HS3.out.1 hb4.size)
  clear p0 hb3 hb4
  go_wp2_with fail
  go_loopw [30] (fun s30 wr => PmRel w base (base + 1) base pb n s30 wr) (fun s30 _ => n - (intOf s30).toNat)
  case atStart => exact ⟨0, Nat.zero_le _, rfl, hb5, HS4.out, F4, G4, st0, r0, lv4, hP4, by have := HLE.out; simpa using this⟩
  case round =>
    clear hP4 hb5
    obtain ⟨j, hj, rfl, hbr, hbs, F, G, st, r, lv, hP, hlen⟩ := hrel
    by_cases hlt : j < n
    · obtain ⟨b, o, rfl, hbw, k, A1, nb, cb, x, l, q0, q1, q2, hk2, hx, hcb, hr⟩ := HA.out j hlt
      obtain ⟨B1, m1, d1, B2, m2, d2, hblk, _, _⟩ := hP.blk
      have p1 := hblk.cell 1
      simp only [List.getElem?_toArray, List.getElem?_cons_zero, List.getElem?_cons_succ] at p1
      have c0 : wr.cell? ⟨b, o + j * 3, none⟩ = some (.int .u8 (k : Int)) := by rw [hbr.cell (p := ⟨b, o + j * 3, none⟩) hbw]; exact q0
      have c1 : wr.cell? ⟨b, o + j * 3 + 1, none⟩ = some (.slice A1 nb cb) := by rw [hbr.cell (p := ⟨b, o + j * 3 + 1, none⟩) hbw]; exact q1
      have c2 : wr.cell? ⟨b, o + j * 3 + 2, none⟩ = some (.int .i64 x) := by rw [hbr.cell (p := ⟨b, o + j * 3 + 2, none⟩) hbw]; exact q2
      obtain ⟨wa, hwa⟩ : ∃ wa, wa = wr.alloc (.cells #[.int .u8 (k : Int), .slice A1 nb cb, .int .i64 x] 61) := ⟨_, rfl⟩
      have hba : Below wr.heap.size wr wa := by rw [hwa]; exact (Below.refl _ _).alloc (Nat.le_refl _) _
      have hka : Blk wa wr.heap.size 61 #[.int .u8 (k : Int), .slice A1 nb cb, .int .i64 x] := by rw [hwa]; exact Blk.new _ _ _
      have hPa := hP.below1 hba
      have hblka := hblk.below hba hblk.lt
      have a1 := hblka.cell 1
      have e0 := hka.cell 0
      have e1 := hka.cell 1
      have e2 := hka.cell 2
      simp only [List.getElem?_toArray, List.getElem?_cons_zero, List.getElem?_cons_succ] at a1 e0 e1 e2
      have hba2 := hbr.trans (hba.mono hbr.size)
      have hdo := fun hlv => pdo_all hPa (Nat.le_trans HS3.out.2 (Nat.le_refl _)) k A1 nb cb w.heap.size l x hlv hk2 hx (hr.below hba2) hba2.size hcb (by unfold maxLen; omega) (308 * (j + 1)) (by omega) (by omega)
      unfold actV at hdo
      have HWA := Lib.hid hwa
      have HDO := Lib.hid hdo
      have HP := Lib.hid hPa
      have hjn : decide ((j : Int) < (n : Int)) = true := by simp; omega
      have HBA := Lib.hid hba
      clear hwa q0 q1 q2 hP hblk hblka hka hdo hPa hr hba
      go_upto_region 9 with (fail)
      rw [← HWA.out]
      have ht : ((k : Int).tmod 8) = ((k % 8 : Nat) : Int) := by rw [Int.tmod_eq_emod_of_nonneg (by omega)]; omega
      obtain ⟨m, hm⟩ : ∃ m, m = k % 8 := ⟨_, rfl⟩
      rw [← hm] at ht
      have HM := Lib.hid hm
      clear hm c0 c1 c2 p1
      by_cases hsk : lv = .pointer none ∧ m < 5
      · obtain ⟨rfl, hm5⟩ := hsk
        have hmd : decide ((m : Int) < 5) = true := by simp; omega
        clear HDO
        go_wp2_with fail
        go_roundw
        · exact ⟨j + 1, hlt, rfl, hba2, Nat.le_trans hbs HBA.out.size, F, G, st, r, _, HP.out.more (Nat.le_succ _), by omega⟩
        · simp [intOf]; omega
      · have hd := HDO.out (fun e => by have := HM.out; have : ¬ m < 5 := fun h => hsk ⟨e, h⟩; omega)
        rcases HP.out.log with rfl | ⟨_, lb, _, _, rfl, _⟩
        · have hmd : decide ((m : Int) < 5) = false := by
            have : ¬ m < 5 := fun h => hsk ⟨rfl, h⟩
            simp; omega
          clear hsk
          go_wp2_with fail
          refine hd.mono ?_
          clear hd e0 e1 e2
          rintro e w6 ⟨rfl, hb6, F6, G6, st6, r6, lv6, hP6, hlen6⟩
          have hb7 := hba2.trans (hb6.mono HSB.out)
          have his := is_any hP6
          go_wp2_with fail
          refine his.mono ?_
          rintro e w7 ⟨rfl, hb8⟩
          have hP7 := hP6.below1 hb8
          clear his
          go_wp2_with fail
          go_roundw
          · exact ⟨j + 1, hlt, rfl, hb7.trans (hb8.mono hb7.size), Nat.le_trans (Nat.le_trans hbs (Nat.le_trans HBA.out.size hb6.size)) hb8.size, F6, G6, st6, r6, lv6, hP7, hlen6⟩
          · simp [intOf]; omega
        · clear hsk
          go_wp2_with fail
          refine hd.mono ?_
          clear hd e0 e1 e2
          rintro e w6 ⟨rfl, hb6, F6, G6, st6, r6, lv6, hP6, hlen6⟩
          have hb7 := hba2.trans (hb6.mono HSB.out)
          have his := is_any hP6
          go_wp2_with fail
          refine his.mono ?_
          rintro e w7 ⟨rfl, hb8⟩
          have hP7 := hP6.below1 hb8
          clear his
          go_wp2_with fail
          go_roundw
          · exact ⟨j + 1, hlt, rfl, hb7.trans (hb8.mono hb7.size), Nat.le_trans (Nat.le_trans hbs (Nat.le_trans HBA.out.size hb6.size)) hb8.size, F6, G6, st6, r6, lv6, hP7, hlen6⟩
          · simp [intOf]; omega
    · have hjd : decide ((j : Int) < (n : Int)) = false := by simp; omega
      go_wp2_with fail
      go_ret
      exact ⟨rfl, hbr⟩
theorem wPlays (A : Option Addr) (n c : Nat) (w : World) (hm : n ≤ 140737488355328) (hA : ActsAt w A n) : Calls Try.prog 9 #[.slice A n c] w (AwEnd w) := by
  by_cases hn : 40 < n
  · exact plays_long A n c w hn (by omega)
  · exact plays_main A n c w (by omega) hA
end Go.Proofs.Ytcppmmdkblmfoaa
