/- The walk of the reference's Put of rows. -/
import Derived.Test.YtmondfckpgjikaaR7
import Derived.Test.YtmondfckpgjikaaRRows
import Derived.Deep.RegionHeld3
namespace Go.Proofs.Ytmondfckpgjikaa
open Go.RowKit Go.WideMaps
def RpRel (w : World) (L : Nat) (l : List Row) (s3 s4 : Value) (wr : World) : Prop :=
  ∃ (k : Nat) (A : Option Addr) (c : Nat) (out : List UInt8), k ≤ L ∧ s4 = .int .i64 k ∧ Hid (out = vput L ++ (l.take k).flatMap encR) ∧ s3 = .slice A out.length c ∧ out.length ≤ 10 + 64 * k ∧ wr.ownsRow w.heap.size 5 1 s3 out.length (out.map byteV) ∧ Below w.heap.size w wr
set_option maxRecDepth 100000 in
set_option maxHeartbeats 2000000 in
theorem rput_any (v : Value) (l : List Row) (w : World) (hR : RS w v l) (hV : AllV l) (hN : AllB l) (hL : l.length ≤ 1000000) :
    Calls Try.prog 36 #[v] w (VpEnd w (encT l)) := by
  obtain ⟨i0, hi, hz0, hz1, hz2⟩ := info_parts Try.info5
  obtain ⟨A, c, rfl, hc, hr⟩ := hR
  obtain ⟨L, hLL⟩ : ∃ L, L = l.length := ⟨_, rfl⟩
  rw [← hLL] at hr hc hL ⊢
  have HL := Lib.hid hLL
  have HV := Lib.hid hV
  have HN := Lib.hid hN
  have hvl := vput_le (n := L) (by omega)
  clear hLL hV hN
  go_enter Try.func36, Try.ntmps36
  go_wp2_with fail
  refine (vput7_any L w (by omega)).mono ?_
  rintro e w1 ⟨A1, c1, rfl, hown, hb⟩
  go_wp2_with fail
  go_loopw [3, 4] (fun s3 s4 wr => RpRel w L l s3 s4 wr) (fun _ s4 _ => L - (intOf s4).toNat)
  case atStart => exact ⟨0, A1, c1, vput L, by omega, rfl, (show vput L = _ by simp), rfl, by omega, hown, hb⟩
  case round =>
    obtain ⟨k, A2, c2, out, hk, rfl, HO, rfl, hol, hown, hb⟩ := hrel
    by_cases hlt : k < L
    · have hkl : k < l.length := by rw [← HL.out]; exact hlt
      obtain ⟨e0, e1, e2⟩ := cellsR_at l k hkl
      have hro := hr.below hb
      obtain ⟨b, o, rfl, hbl, hcell⟩ := hro.formN (by omega) (by decide)
      have x0 := hcell _ _ e0
      have x1 := hcell _ _ e1
      have x2 := hcell _ _ e2
      rw [← Nat.add_assoc] at x1 x2
      have hbs := hb.size
      have hmem := List.getElem_mem hkl
      have hvl2 := valid_le (HV.out _ hmem)
      have hbn := HN.out _ hmem
      have hel := encR_len (HV.out _ hmem) hbn.2
      have HSN := Lib.hid (show (l.take (k + 1)).flatMap encR = (l.take k).flatMap encR ++ encR l[k] by rw [List.take_succ_eq_append_getElem hkl, List.flatMap_append]; simp)
      clear e0 e1 e2 hcell hmem hro
      generalize l[k] = r at *
      obtain ⟨nm, rn, rt⟩ := r
      simp only at x0 x1 x2 hvl2 hbn hel HSN
      obtain ⟨j, rfl⟩ : ∃ j : Nat, rn = j := ⟨rn.toNat, by omega⟩
      unfold strV at x0
      have hcv := fun (w : World) => Lib.run_convert_string_bytes (P := Try.prog) w 9 58 5 ⟨nm.toArray⟩ Try.underlying9 Try.underlying58 Try.underlying5
      go_wp2_with fail
      have hrb := conv_reads wr nm
      have hbb := conv_below wr ⟨nm.toArray⟩
      have hownb := own_below hown hbb
      have hbB := hb.trans (hbb.mono hb.size)
      have y1 : (Lib.bytesWorld wr 5 ⟨nm.toArray⟩).cell? ⟨b, o + k * 3 + 1, none⟩ = some (.int .i64 (j : Int)) := (hbb.cell (p := ⟨b, o + k * 3 + 1, none⟩) (Nat.lt_of_lt_of_le hbl hbs)).trans x1
      have y2 : (Lib.bytesWorld wr 5 ⟨nm.toArray⟩).cell? ⟨b, o + k * 3 + 2, none⟩ = some (.bool rt) := (hbb.cell (p := ⟨b, o + k * 3 + 2, none⟩) (Nat.lt_of_lt_of_le hbl hbs)).trans x2
      have hlb : b < w.heap.size := hbl
      clear hbb hown hcv x0 x1 x2 hb hbs
      generalize Lib.bytesWorld wr 5 ⟨nm.toArray⟩ = wb at *
      refine (putBytes7_any _ nm.length _ _ nm wb hrb (Nat.le_refl _) rfl (by omega)).mono ?_
      rintro e w5 ⟨A5, c5, rfl, hown5, hb5⟩
      have hr5 := Reads.of_own hown5
      have ho5 := own_below hownb hb5
      have hB5 := hbB.trans (hb5.mono hbB.size)
      have hlw : b < wb.heap.size := Nat.lt_of_lt_of_le hlb hbB.size
      have z1 := (hb5.cell (p := ⟨b, o + k * 3 + 1, none⟩) hlw).trans y1
      have z2 := (hb5.cell (p := ⟨b, o + k * 3 + 2, none⟩) hlw).trans y2
      obtain ⟨P, hP⟩ : ∃ P, P = vput nm.length ++ nm := ⟨_, rfl⟩
      rw [← hP] at hr5 hel ⊢
      have HP := Lib.hid hP
      obtain ⟨hel1, hel2⟩ := hel
      have hs5 := hB5.size
      clear hP hownb hbB hrb hb5 hown5 y1 y2
      go_wp2_with (at_builtin; refine wpList_append_any _ rfl (.tmp 16) (.tmp 23) 58 rfl w.heap.size 5 i0 (.int .u8 0) 1 1 Try.underlying58 hi hz0 hz1 hz2 rfl (by decide) _ _ _ rfl ho5 w5.heap.size _ _ _ (P.map byteV) rfl hr5 (oneB _) (by unfold maxLen; omega) (by omega) hs5 ?_)
      intro v6 w6 hown6 hg6 _
      obtain ⟨A6, c6, rfl⟩ := own_form hown6
      rw [← List.map_append] at hown6
      have hlw5 : b < w5.heap.size := Nat.lt_of_lt_of_le hlb hB5.size
      have hne5 : ∀ g, (Value.slice A2 out.length c2).ownBlock = some g → w.heap.size ≤ g := fun g hg => (ho5.lt g hg).1
      have u1 : w6.cell? ⟨b, o + k * 3 + 1, none⟩ = some (.int .i64 (j : Int)) := by
        rw [World.cell?_of_block (hg6.block b hlw5 (fun e => by have := hne5 b e.symm; omega))]
        exact z1
      have u2 : w6.cell? ⟨b, o + k * 3 + 2, none⟩ = some (.bool rt) := by
        rw [World.cell?_of_block (hg6.block b hlw5 (fun e => by have := hne5 b e.symm; omega))]
        exact z2
      have hB6 := below_own hB5 hB5.size (Nat.le_refl _) ho5 hg6
      have hs6 := hB6.size
      have v0 : IntKind.u64.wrap (j : Int) = (j : Int) := IntWalk.u64_in _ (by omega)
      have hjb : j < 18446744073709551616 := by omega
      have hvj := vput_le hjb
      have hlw6 : b < w6.heap.size := Nat.lt_of_lt_of_le hlb hs6
      have HN0 := Lib.hid (show out.length + P.length + 1 ≤ 10 + 64 * k + 43 by omega)
      obtain ⟨n6, hn6⟩ : ∃ n6, n6 = out.length + P.length := ⟨_, rfl⟩
      rw [← hn6] at hown6 HN0 ⊢
      have HN6 := Lib.hid hn6
      clear ho5 hg6 hr5 hB5 hs5 z1 z2 hne5 hlw5 hlw hn6
      cases rt with
      | true =>
        have hown6d : ((w6.alloc (.cells #[.int .u8 1] 5)).drew).ownsRow w.heap.size 5 1 (.slice A6 n6 c6) n6 ((out ++ P).map byteV) := (hown6.alloc _).drew
        have hrd6 : Reads ((w6.alloc (.cells #[.int .u8 1] 5)).drew) (w6.heap.size + 1) 1 (some ⟨w6.heap.size, 0, none⟩) 1 [.int .u8 1] := Reads.of_alloc w6 #[.int .u8 1] 5 (by omega) rfl
        have hs1 : n6 + 1 ≤ maxLen := by unfold maxLen; have := HN0.out; omega
        have hs2 : (n6 + 1) * 1 ≤ 140737488355328 := by have := HN0.out; omega
        have hs3 : w.heap.size ≤ ((w6.alloc (.cells #[.int .u8 1] 5)).drew).heap.size := by simp; omega
        have hone : ∀ u ∈ [Value.int .u8 1], u.oneCell' = true := by intro u hu; simp at hu; subst hu; rfl
        have ht1 : n6 + 1 + (vput j).length ≤ maxLen := by unfold maxLen; have := HN0.out; omega
        have ht2 : (n6 + 1 + (vput j).length) * 1 ≤ 140737488355328 := by have := HN0.out; omega
        have K1 := Lib.hid (show ∀ w1 : World, ((w6.alloc (.cells #[.int .u8 1] 5)).drew).grownBy w1 (Value.slice A6 n6 c6).ownBlock → w1.cell? ⟨b, o + k * 3 + 1, none⟩ = some (.int .i64 (j : Int)) ∧ Below w.heap.size w w1 from fun w1 hg => by
          have hq : Below w.heap.size w ((w6.alloc (.cells #[.int .u8 1] 5)).drew) := (hB6.alloc hs6 _).drew
          have hb1 : Below w.heap.size w w1 := hq.grown hg hs3 (fun g h => (hown6.lt g h).1)
          refine ⟨?_, hb1⟩
          rw [World.cell?_of_block (hg.block b (by simp; omega) (fun e => by have := (hown6.lt b e.symm).1; omega))]
          exact (((Below.refl w6.heap.size w6).alloc (Nat.le_refl _) (.cells #[.int .u8 1] 5)).drew.cell (p := ⟨b, o + k * 3 + 1, none⟩) hlw6).trans u1)
        have K2 := Lib.hid (show ∀ w1 w2 : World, Below w.heap.size w w1 → w1.cell? ⟨b, o + k * 3 + 1, none⟩ = some (.int .i64 (j : Int)) → Below w1.heap.size w1 w2 → w2.cell? ⟨b, o + k * 3 + 1, none⟩ = some (.int .i64 (j : Int)) from fun w1 w2 h1 h2 h3 => (h3.cell (p := ⟨b, o + k * 3 + 1, none⟩) (Nat.lt_of_lt_of_le hlb h1.size)).trans h2)
        have K3 := Lib.hid (show ∀ (w1 w2 w3 : World) (A1 A3 : Option Addr) (c1 c3 : Nat), Below w.heap.size w w1 → w2.ownsRow w.heap.size 5 1 (.slice A1 (n6 + 1) c1) (n6 + 1) ((out ++ P).map byteV ++ [.int .u8 1]) → Below w1.heap.size w1 w2 → w2.grownBy w3 (Value.slice A1 (n6 + 1) c1).ownBlock →
            w3.ownsRow w.heap.size 5 1 (.slice A3 (n6 + 1 + (vput j).length) c3) (n6 + 1 + (vput j).length) ((out ++ P).map byteV ++ [.int .u8 1] ++ (vput j).map byteV) → RpRel w L l (.slice A3 (n6 + 1 + (vput j).length) c3) (.int .i64 ((k : Int) + 1)) w3 from fun w1 w2 w3 A1 A3 c1 c3 h1 h2 h3 h4 h5 => by
          have hnew : vput L ++ (l.take (k + 1)).flatMap encR = out ++ P ++ [kindB true] ++ vput j := by
            rw [HSN.out, HO.out, HP.out]
            simp [encR]
          have hlen : (out ++ P ++ [kindB true] ++ vput j).length = n6 + 1 + (vput j).length := by rw [HN6.out]; simp; omega
          have hB2 := h1.trans (h3.mono h1.size)
          refine ⟨k + 1, A3, c3, _, by omega, by go_num, hnew.symm, by rw [hlen], by rw [hlen]; have := HN0.out; omega, ?_, below_own hB2 hB2.size (Nat.le_refl _) h2 h4⟩
          rw [hlen]
          have : (out ++ P ++ [kindB true] ++ vput j).map byteV = (out ++ P).map byteV ++ [.int .u8 1] ++ (vput j).map byteV := by simp [byteV, kindB]
          rw [this]
          exact h5)
        have K4 := Lib.hid (show ∀ (w1 w2 w3 : World) (A1 : Option Addr) (c1 : Nat) (xs : List Value), Below w.heap.size w w1 → Below w1.heap.size w1 w2 → w2.ownsRow w.heap.size 5 1 (.slice A1 (n6 + 1) c1) (n6 + 1) xs → w2.cell? ⟨b, o + k * 3 + 1, none⟩ = some (.int .i64 (j : Int)) → w2.grownBy w3 (Value.slice A1 (n6 + 1) c1).ownBlock → w3.cell? ⟨b, o + k * 3 + 1, none⟩ = some (.int .i64 (j : Int)) from fun w1 w2 w3 A1 c1 xs h1 h2 h3 h4 h5 => by
          rw [World.cell?_of_block (h5.block b (by have := h1.size; have := h2.size; show b < w2.heap.size; omega) (fun e => by have := (h3.lt b e.symm).1; omega))]
          exact h4)
        go_wp2_with fail
        clear u2
        go_region_held3 (fun w' => w'.cell? ⟨b, o + k * 3 + 1, none⟩ = some (.int .i64 (j : Int)))
          (first | go_keep | assumption)
          (first
            | (refine step_append_any _ rfl (.tmp 33) (.tmp 40) 58 rfl w.heap.size 5 i0 (.int .u8 0) 1 1 Try.underlying58 hi hz0 hz1 hz2 rfl (by decide) (.slice A1 (n6 + 1) c1) (n6 + 1) ((out ++ P).map byteV ++ [.int .u8 1]) rfl hown1b w2.heap.size A2' (vput j).length c2' ((vput j).map byteV) rfl hr2 (oneB _) ht1 ht2 hs22 ?_; intro v3 w3 hown3 hg3 hv3; obtain ⟨A3, c3, rfl⟩ := own_form hown3; have hREL := K3.out _ _ _ _ _ _ _ hS1.2 hown1b hb2 hg3 hown3; have hS3 := K4.out _ _ _ _ _ _ hS1.2 hb2 hown1b hS2 hg3)
            | (go_at_call 50; refine (vput7_any j _ hjb).mono ?_; rintro e w2 ⟨A2', c2', rfl, hown2, hb2⟩; have hS2 := K2.out _ _ hS1.2 hS1.1 hb2; have hr2 := Reads.of_own hown2; have hown1b := own_below hown1 hb2; have hs22 := Nat.le_trans hS1.2.size hb2.size)
            | (refine step_append_any _ rfl (.tmp 30) (.tmp 32) 58 rfl w.heap.size 5 i0 (.int .u8 0) 1 1 Try.underlying58 hi hz0 hz1 hz2 rfl (by decide) (.slice A6 n6 c6) n6 ((out ++ P).map byteV) rfl hown6d (w6.heap.size + 1) (some ⟨w6.heap.size, 0, none⟩) 1 1 [.int .u8 1] rfl hrd6 hone hs1 hs2 hs3 ?_; intro v1 w1 hown1 hg1 hv1; obtain ⟨A1, c1, rfl⟩ := own_form hown1; have hS1 := K1.out _ hg1; have hS1a := hS1.1))
        have HREL := Lib.hid hREL
        clear hREL hown3 hown1 hown1b hown2 hg1 hg3 hS1 hS2 hS3 hr2 hown6d hrd6
        go_wp2_with fail
        go_roundw
        case rel => exact HREL.out
        case measure => simp [intOf]; omega
      | false =>
        have hown6d : ((w6.alloc (.cells #[.int .u8 0] 5)).drew).ownsRow w.heap.size 5 1 (.slice A6 n6 c6) n6 ((out ++ P).map byteV) := (hown6.alloc _).drew
        have hrd6 : Reads ((w6.alloc (.cells #[.int .u8 0] 5)).drew) (w6.heap.size + 1) 1 (some ⟨w6.heap.size, 0, none⟩) 1 [.int .u8 0] := Reads.of_alloc w6 #[.int .u8 0] 5 (by omega) rfl
        have hs1 : n6 + 1 ≤ maxLen := by unfold maxLen; have := HN0.out; omega
        have hs2 : (n6 + 1) * 1 ≤ 140737488355328 := by have := HN0.out; omega
        have hs3 : w.heap.size ≤ ((w6.alloc (.cells #[.int .u8 0] 5)).drew).heap.size := by simp; omega
        have hone : ∀ u ∈ [Value.int .u8 0], u.oneCell' = true := by intro u hu; simp at hu; subst hu; rfl
        have ht1 : n6 + 1 + (vput j).length ≤ maxLen := by unfold maxLen; have := HN0.out; omega
        have ht2 : (n6 + 1 + (vput j).length) * 1 ≤ 140737488355328 := by have := HN0.out; omega
        have K1 := Lib.hid (show ∀ w1 : World, ((w6.alloc (.cells #[.int .u8 0] 5)).drew).grownBy w1 (Value.slice A6 n6 c6).ownBlock → w1.cell? ⟨b, o + k * 3 + 1, none⟩ = some (.int .i64 (j : Int)) ∧ Below w.heap.size w w1 from fun w1 hg => by
          have hq : Below w.heap.size w ((w6.alloc (.cells #[.int .u8 0] 5)).drew) := (hB6.alloc hs6 _).drew
          have hb1 : Below w.heap.size w w1 := hq.grown hg hs3 (fun g h => (hown6.lt g h).1)
          refine ⟨?_, hb1⟩
          rw [World.cell?_of_block (hg.block b (by simp; omega) (fun e => by have := (hown6.lt b e.symm).1; omega))]
          exact (((Below.refl w6.heap.size w6).alloc (Nat.le_refl _) (.cells #[.int .u8 0] 5)).drew.cell (p := ⟨b, o + k * 3 + 1, none⟩) hlw6).trans u1)
        have K2 := Lib.hid (show ∀ w1 w2 : World, Below w.heap.size w w1 → w1.cell? ⟨b, o + k * 3 + 1, none⟩ = some (.int .i64 (j : Int)) → Below w1.heap.size w1 w2 → w2.cell? ⟨b, o + k * 3 + 1, none⟩ = some (.int .i64 (j : Int)) from fun w1 w2 h1 h2 h3 => (h3.cell (p := ⟨b, o + k * 3 + 1, none⟩) (Nat.lt_of_lt_of_le hlb h1.size)).trans h2)
        have K3 := Lib.hid (show ∀ (w1 w2 w3 : World) (A1 A3 : Option Addr) (c1 c3 : Nat), Below w.heap.size w w1 → w2.ownsRow w.heap.size 5 1 (.slice A1 (n6 + 1) c1) (n6 + 1) ((out ++ P).map byteV ++ [.int .u8 0]) → Below w1.heap.size w1 w2 → w2.grownBy w3 (Value.slice A1 (n6 + 1) c1).ownBlock →
            w3.ownsRow w.heap.size 5 1 (.slice A3 (n6 + 1 + (vput j).length) c3) (n6 + 1 + (vput j).length) ((out ++ P).map byteV ++ [.int .u8 0] ++ (vput j).map byteV) → RpRel w L l (.slice A3 (n6 + 1 + (vput j).length) c3) (.int .i64 ((k : Int) + 1)) w3 from fun w1 w2 w3 A1 A3 c1 c3 h1 h2 h3 h4 h5 => by
          have hnew : vput L ++ (l.take (k + 1)).flatMap encR = out ++ P ++ [kindB false] ++ vput j := by
            rw [HSN.out, HO.out, HP.out]
            simp [encR]
          have hlen : (out ++ P ++ [kindB false] ++ vput j).length = n6 + 1 + (vput j).length := by rw [HN6.out]; simp; omega
          have hB2 := h1.trans (h3.mono h1.size)
          refine ⟨k + 1, A3, c3, _, by omega, by go_num, hnew.symm, by rw [hlen], by rw [hlen]; have := HN0.out; omega, ?_, below_own hB2 hB2.size (Nat.le_refl _) h2 h4⟩
          rw [hlen]
          have : (out ++ P ++ [kindB false] ++ vput j).map byteV = (out ++ P).map byteV ++ [.int .u8 0] ++ (vput j).map byteV := by simp [byteV, kindB]
          rw [this]
          exact h5)
        have K4 := Lib.hid (show ∀ (w1 w2 w3 : World) (A1 : Option Addr) (c1 : Nat) (xs : List Value), Below w.heap.size w w1 → Below w1.heap.size w1 w2 → w2.ownsRow w.heap.size 5 1 (.slice A1 (n6 + 1) c1) (n6 + 1) xs → w2.cell? ⟨b, o + k * 3 + 1, none⟩ = some (.int .i64 (j : Int)) → w2.grownBy w3 (Value.slice A1 (n6 + 1) c1).ownBlock → w3.cell? ⟨b, o + k * 3 + 1, none⟩ = some (.int .i64 (j : Int)) from fun w1 w2 w3 A1 c1 xs h1 h2 h3 h4 h5 => by
          rw [World.cell?_of_block (h5.block b (by have := h1.size; have := h2.size; show b < w2.heap.size; omega) (fun e => by have := (h3.lt b e.symm).1; omega))]
          exact h4)
        go_wp2_with fail
        clear u2
        go_region_held3 (fun w' => w'.cell? ⟨b, o + k * 3 + 1, none⟩ = some (.int .i64 (j : Int)))
          (first | go_keep | assumption)
          (first
            | (refine step_append_any _ rfl (.tmp 33) (.tmp 40) 58 rfl w.heap.size 5 i0 (.int .u8 0) 1 1 Try.underlying58 hi hz0 hz1 hz2 rfl (by decide) (.slice A1 (n6 + 1) c1) (n6 + 1) ((out ++ P).map byteV ++ [.int .u8 0]) rfl hown1b w2.heap.size A2' (vput j).length c2' ((vput j).map byteV) rfl hr2 (oneB _) ht1 ht2 hs22 ?_; intro v3 w3 hown3 hg3 hv3; obtain ⟨A3, c3, rfl⟩ := own_form hown3; have hREL := K3.out _ _ _ _ _ _ _ hS1.2 hown1b hb2 hg3 hown3; have hS3 := K4.out _ _ _ _ _ _ hS1.2 hb2 hown1b hS2 hg3)
            | (go_at_call 50; refine (vput7_any j _ hjb).mono ?_; rintro e w2 ⟨A2', c2', rfl, hown2, hb2⟩; have hS2 := K2.out _ _ hS1.2 hS1.1 hb2; have hr2 := Reads.of_own hown2; have hown1b := own_below hown1 hb2; have hs22 := Nat.le_trans hS1.2.size hb2.size)
            | (refine step_append_any _ rfl (.tmp 30) (.tmp 32) 58 rfl w.heap.size 5 i0 (.int .u8 0) 1 1 Try.underlying58 hi hz0 hz1 hz2 rfl (by decide) (.slice A6 n6 c6) n6 ((out ++ P).map byteV) rfl hown6d (w6.heap.size + 1) (some ⟨w6.heap.size, 0, none⟩) 1 1 [.int .u8 0] rfl hrd6 hone hs1 hs2 hs3 ?_; intro v1 w1 hown1 hg1 hv1; obtain ⟨A1, c1, rfl⟩ := own_form hown1; have hS1 := K1.out _ hg1; have hS1a := hS1.1))
        have HREL := Lib.hid hREL
        clear hREL hown3 hown1 hown1b hown2 hg1 hg3 hS1 hS2 hS3 hr2 hown6d hrd6
        go_wp2_with fail
        go_roundw
        case rel => exact HREL.out
        case measure => simp [intOf]; omega
    · have hkL : k = L := by omega
      have HFIN := Lib.hid (show encT l = out by
        have h := HO.out
        rw [hkL, List.take_of_length_le (by rw [← HL.out]; exact Nat.le_refl _)] at h
        rw [h]
        unfold encT
        rw [← HL.out])
      clear hkL
      go_wp2_with fail
      go_ret
      unfold VpEnd
      rw [HFIN.out]
      exact ⟨A2, c2, rfl, hown, hb⟩
end Go.Proofs.Ytmondfckpgjikaa
