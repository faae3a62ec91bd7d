/- The walk of the law PlanLarge. -/
import Derived.Test.YtniefnjcimempaaqAl56
import Derived.Test.YtniefnjcimempaaqAgS
import Derived.Test.YtniefnjcimempaaqSizeW
import Derived.Test.YtniefnjcimempaaqRp
namespace Go.Proofs.Ytniefnjcimempaa
open Go.RowKit
def LgRel (w : World) (K gp : Nat) (f : Nat) (i : Value) (wr : World) : Prop := ∃ (j : Nat) (A : Option Addr) (c : Nat) (css : List Value), i = .int .i64 j ∧ j ≤ K ∧ K - j < f ∧ Hid (Blk wr gp 28 #[.slice A (j + 1) c]) ∧
  Hid (wr.ownsRow w.heap.size 25 5 (.slice A (j + 1) c) (j + 1) css) ∧ Hid (StVs wr (stF wr w.heap.size []) (largeL j) css) ∧ w.heap.size ≤ gp ∧ Hid (Below w.heap.size w wr)
theorem largeL_modest {k : Nat} (hk : k ≤ 60) : Modest (largeL k) := by
  refine ⟨by rw [largeL_length]; omega, fun s hs => ?_⟩
  obtain ⟨i, hi⟩ := List.getElem?_of_mem hs
  have hl := (List.getElem?_eq_some_iff.1 hi).1
  rw [largeL_length] at hl
  rw [largeL_get k i (by omega)] at hi
  injection hi with hi
  subst hi
  split <;> simp
set_option maxRecDepth 100000 in
set_option maxHeartbeats 4000000 in
theorem large_any (k : Int) (w : World) : Calls Try.prog 3 #[.int .i64 k] w (AwEnd w) := by
  go_enter Try.func3, Try.ntmps3
  go_wp2_with fail
  refine (alive56_any _).mono ?_
  rintro e w1 ⟨rfl, hb1⟩
  have HB1 := Lib.hid hb1
  have hz1 := hb1.size
  clear hb1
  by_cases hk0 : k < 0
  · go_wp2_with fail
    go_ret
    exact ⟨rfl, HB1.out⟩
  by_cases hk1 : 60 < k
  · go_wp2_with fail
    go_ret
    exact ⟨rfl, HB1.out⟩
  obtain ⟨K, rfl⟩ := natInt (show 0 ≤ k by omega)
  have hK : K ≤ 60 := by omega
  have hv0 := World.ownsRow_lit (base := w.heap.size) (e := 25) (size := 5) w1 #[.string ⟨#[114, 101, 102]⟩, .slice none 0 0, .int .i64 0, .string ⟨#[116]⟩, .int .i64 3] 1 hz1 (by decide) rfl
  have HV0 := Lib.hid (own_below hv0 (below_alloc _ (.cells #[.slice (some ⟨w1.heap.size, 0, none⟩) 1 1] 28)))
  have HP0 := Lib.hid (Blk.new (w1.alloc (.cells #[.string ⟨#[114, 101, 102]⟩, .slice none 0 0, .int .i64 0, .string ⟨#[116]⟩, .int .i64 3] 25)) 28 #[.slice (some ⟨w1.heap.size, 0, none⟩) 1 1])
  have HT0 := Lib.hid (show StVs ((w1.alloc (.cells #[.string ⟨#[114, 101, 102]⟩, .slice none 0 0, .int .i64 0, .string ⟨#[116]⟩, .int .i64 3] 25)).alloc (.cells #[.slice (some ⟨w1.heap.size, 0, none⟩) 1 1] 28)) (stF ((w1.alloc (.cells #[.string ⟨#[114, 101, 102]⟩, .slice none 0 0, .int .i64 0, .string ⟨#[116]⟩, .int .i64 3] 25)).alloc (.cells #[.slice (some ⟨w1.heap.size, 0, none⟩) 1 1] 28)) w.heap.size []) (largeL 0) [.string ⟨#[114, 101, 102]⟩, .slice none 0 0, .int .i64 0, .string ⟨#[116]⟩, .int .i64 3] from
    StVs.one ⟨none, 0, rfl, rfl, fun h => absurd h (by decide)⟩)
  have HB0 := Lib.hid ((HB1.out.alloc hz1 (.cells #[.string ⟨#[114, 101, 102]⟩, .slice none 0 0, .int .i64 0, .string ⟨#[116]⟩, .int .i64 3] 25)).alloc (by simp; omega) (.cells #[.slice (some ⟨w1.heap.size, 0, none⟩) 1 1] 28))
  have hsz : (w1.alloc (.cells #[.string ⟨#[114, 101, 102]⟩, .slice none 0 0, .int .i64 0, .string ⟨#[116]⟩, .int .i64 3] 25)).heap.size = w1.heap.size + 1 := by simp
  rw [hsz] at HP0
  have HSZ := Lib.hid hsz
  clear hv0 hsz
  go_wp2_with fail
  go_loopg [4] (K + 1) (fun f i wr => LgRel w K (w1.heap.size + 1) f i wr)
  case atStart => exact ⟨0, _, _, _, rfl, by omega, by omega, HP0, HV0, HT0, by omega, HB0⟩
  case round =>
    clear HP0 HV0 HT0 HB0 HB1
    obtain ⟨j, A, c, css, rfl, hj, hjf, HP, HV, HT, hgp, HB⟩ := hrel
    obtain ⟨f, rfl⟩ : ∃ f, gk = f + 1 := ⟨gk - 1, by omega⟩
    have hgl := HP.out.lt
    have hzr := HB.out.size
    by_cases hlt : j < K
    · have q0 : (j : Int) < (K : Int) := by omega
      have p0 := HP.out.cell 0
      simp only [List.getElem?_toArray, List.getElem?_cons_zero] at p0
      obtain ⟨w4, hw4⟩ : ∃ w4, w4 = (wr.alloc (.cells #[.int .i64 j, .int .i64 j] 3)).alloc (.cells #[.string ⟨#[43, 43]⟩, .slice (some ⟨wr.heap.size, 0, none⟩) 2 2, .int .i64 0, .string ⟨#[]⟩, .int .i64 3] 25) := ⟨_, rfl⟩
      have hb4 : Below wr.heap.size wr w4 := by rw [hw4]; exact (below_alloc wr _).alloc (by simp) _
      have HB4 := Lib.hid hb4
      have HI4 := Lib.hid (show Blk w4 wr.heap.size 3 #[.int .i64 j, .int .i64 j] by rw [hw4]; exact (Blk.new wr _ _).alloc _)
      have ho4 := own_below HV.out hb4
      have hrr := reads5 (wr.alloc (.cells #[.int .i64 j, .int .i64 j] 3)) (.string ⟨#[43, 43]⟩) (.slice (some ⟨wr.heap.size, 0, none⟩) 2 2) (.int .i64 0) (.string ⟨#[]⟩) (.int .i64 3) 25
      have hs4 : (wr.alloc (.cells #[.int .i64 j, .int .i64 j] 3)).heap.size = wr.heap.size + 1 := by simp
      rw [hs4] at hrr
      have hz4 := hb4.size
      have HW4 := Lib.hid hw4
      rw [hw4] at ho4
      have hone : ∀ u ∈ ([.string ⟨#[43, 43]⟩, .slice (some ⟨wr.heap.size, 0, none⟩) 2 2, .int .i64 0, .string ⟨#[]⟩, .int .i64 3] : List Value), u.oneCell' = true := by simp [Value.oneCell']
      obtain ⟨i0, hinf, hz0, hz1', hz2'⟩ := info_parts infoStepP
      have HS4 := Lib.hid hs4
      clear hb4 hw4 hs4
      go_wp2_with (at_builtin; refine wpList_append_any _ rfl (.tmp 24) (.tmp 29) 26 rfl w.heap.size 25 i0 (.agg #[.string ⟨#[]⟩, .slice none 0 0, .int .i64 0, .string ⟨#[]⟩, .int .i64 0]) 5 72 Try.underlying26 hinf hz0 hz1' hz2' rfl (by decide) _ (j + 1) css rfl ho4 _ _ _ _ [.string ⟨#[43, 43]⟩, .slice (some ⟨wr.heap.size, 0, none⟩) 2 2, .int .i64 0, .string ⟨#[]⟩, .int .i64 3] rfl hrr hone (by unfold maxLen; omega) (by omega) (by simp; omega) ?_)
      intro v5 w5 hown5 hg5 hv5
      obtain ⟨A5, c5, rfl⟩ := own_form hown5
      rw [← HW4.out] at hg5
      have hg2 : wr.grownBy w5 (Value.slice A (j + 1) c).ownBlock := (only_of_below HB4.out _).trans hg5
      have hP5 := HP.out.grown hg2 (fun e => own_blk_ne HV.out HP.out (by decide) e.symm)
      have HP6 := Lib.hid (hP5.set_ 0 (.slice A5 (j + 1 + 1) c5))
      have p5 := hP5.cell 0
      have f5 := hP5.frozen 0
      simp only [List.getElem?_toArray, List.getElem?_cons_zero] at p5
      have HO6 := Lib.hid (own_far (p := ⟨w1.heap.size + 1, 0, none⟩) hown5 (own_blk_ne hown5 hP5 (by decide)) (.slice A5 (j + 1 + 1) c5))
      have HB6 := Lib.hid ((HB.out.grown hg2 hzr (fun i e => (own_lo HV.out e).1)).setCell (p := ⟨w1.heap.size + 1, 0, none⟩) (by show w.heap.size ≤ w1.heap.size + 1; omega) (.slice A5 (j + 1 + 1) c5))
      have HT6 : Hid (StVs (w5.setCell ⟨w1.heap.size + 1, 0, none⟩ (.slice A5 (j + 1 + 1) c5)) (stF (w5.setCell ⟨w1.heap.size + 1, 0, none⟩ (.slice A5 (j + 1 + 1) c5)) w.heap.size []) (largeL (j + 1)) (css ++ [.string ⟨#[43, 43]⟩, .slice (some ⟨wr.heap.size, 0, none⟩) 2 2, .int .i64 0, .string ⟨#[]⟩, .int .i64 3])) := Lib.hid (by
        have hk : ∀ i cur, Blk wr i 3 cur → (w5.setCell ⟨w1.heap.size + 1, 0, none⟩ (.slice A5 (j + 1 + 1) c5)).heap[i]? = wr.heap[i]? := fun i cur hb =>
          (Below.heap_setCell w5 ⟨w1.heap.size + 1, 0, none⟩ _ i (Blk.ne_ hb HP.out (by decide))).trans (hg2.block i hb.lt (fun e => own_blk_ne HV.out hb (by decide) e.symm))
        have hI : Blk (w5.setCell ⟨w1.heap.size + 1, 0, none⟩ (.slice A5 (j + 1 + 1) c5)) wr.heap.size 3 #[.int .i64 j, .int .i64 j] :=
          (Below.heap_setCell w5 ⟨w1.heap.size + 1, 0, none⟩ _ wr.heap.size (by show wr.heap.size ≠ w1.heap.size + 1; omega)).trans ((hg5.block _ HI4.out.lt (fun e => by have h := own_lt HV.out _ e.symm; omega)).trans HI4.out)
        refine StVs.append (StVs.keep_int HT.out (fun i cur _ hb => hk i cur hb) (by have := hg2.size; simpa using this) (fun i _ h => h)) (StVs.one ?_)
        refine ⟨some ⟨wr.heap.size, 0, none⟩, 2, rfl, rfl, fun _ => ⟨wr.heap.size, 0, rfl, ⟨hzr, hI.lt, by simp, _, hI⟩, hI.lt, fun i u hu => ?_⟩⟩
        rw [hI.cell, Nat.zero_add]
        match i with
        | 0 => simpa using hu
        | 1 => simpa using hu
        | i + 2 => simp at hu)
      clear ho4 hrr hone hinf hz0 hz1' hz2' hown5 hg5 hv5 hg2 hP5
      go_wp2_with fail
      go_roundg f
      case measure => omega
      case rel => exact ⟨j + 1, _, _, _, by go_num, by omega, by omega, HP6, HO6, HT6, by omega, HB6⟩
    · have hjK : j = K := by omega
      subst hjK
      have q0 : ¬ ((j : Int) < (j : Int)) := by omega
      have p0 := HP.out.cell 0
      simp only [List.getElem?_toArray, List.getElem?_cons_zero] at p0
      have hll := largeL_length j
      have hPA : PlAt wr (fun i => i < wr.heap.size) A (largeL j) := ⟨css, rdF_own (hll.symm ▸ HV.out) (fun g _ h2 => h2), HT.out.keep (w' := wr) (fun _ _ _ => rfl) (Nat.le_refl _) (fun i hi _ => hi.2.1)⟩
      have htr := Tree_any A c (largeL j) wr hPA (largeL_modest hK)
      have hck := largeL_ok (k := j) (by omega)
      have hss := sizesR_ok hck j (by omega)
      rw [hll] at htr
      have HTR := Lib.hid htr
      have HSS := Lib.hid hss
      have HCK := Lib.hid hck
      have HLL := Lib.hid hll
      clear htr hss hPA hck hll
      by_cases hbig : 11 < j
      · have hL := large_large hbig (by omega)
        have HTR2 := Lib.hid HTR.out
        have q1 : (11 : Int) < (j : Int) := by omega
        go_wp2_with fail
        refine HTR2.out.mono ?_
        rintro e w6 ⟨hb6, he⟩
        rw [HCK.out, if_neg (by simp), HLL.out, Nat.add_sub_cancel, HSS.out, if_pos (by omega)] at he
        subst he
        have HB6 := Lib.hid (HB.out.trans (hb6.mono hzr))
        have hz6 := HB6.out.size
        clear hb6 HTR HTR2
        unfold errV
        go_wp2_with (go_at_call 11; refine (is_same 9 _ (by decide)).mono ?_; rintro e w7 ⟨rfl, rfl⟩)
        go_ret
        exact ⟨rfl, HB6.out.alloc hz6 _⟩
      · have hL := large_small (k := j) (by omega)
        have hE := largeL_size (k := j) (by omega) j (Nat.le_refl _)
        have q1 : ¬ ((11 : Int) < (j : Int)) := by omega
        have HTR2 := Lib.hid HTR.out
        have HL := Lib.hid hL
        have HE := Lib.hid hE
        clear hL hE HTR
        go_wp2_with fail
        refine HTR2.out.mono ?_
        rintro e w6 ⟨hb6, he⟩
        have hL := HL.out
        rw [HCK.out, if_neg (by simp), HLL.out, Nat.add_sub_cancel, HSS.out, if_neg (by omega)] at he
        obtain ⟨cs, rfl, hn⟩ := he
        obtain ⟨k1, t1, m1, A1, n1, c1, rfl⟩ := hn.form
        have HB6 := Lib.hid (HB.out.trans (hb6.mono hzr))
        have hz6 := HB6.out.size
        have hn6 : NodeV w6 (fun i => i < w6.heap.size) (growR (largeL j) j) [.int .i64 k1, .string t1, .int .i64 m1, .slice A1 n1 c1] := NodeV.keep (w' := w6) (fun _ _ _ => rfl) (fun i hi _ => hi.2) hn
        have hst := size_tx _ _ _ (hn6.below (below_alloc w6 (.cells #[.int .i64 k1, .string t1, .int .i64 m1, .slice A1 n1 c1] 31))) (by omega)
        have hEE := HE.out
        obtain ⟨z, hz⟩ : ∃ z : Int, z = ((growR (largeL j) j).size : Int) := ⟨_, rfl⟩
        rw [← hz] at hst hEE
        have HST := Lib.hid hst
        have HEE := Lib.hid hEE
        clear hb6 HTR2 hn hn6 hst hEE hz hL HL HE HP HV HT p0 HCK HLL HSS
        have hjj : j = 0 ∨ j = 1 ∨ j = 2 ∨ j = 3 ∨ j = 4 ∨ j = 5 ∨ j = 6 ∨ j = 7 ∨ j = 8 ∨ j = 9 ∨ j = 10 ∨ j = 11 := by omega
        rcases hjj with rfl | rfl | rfl | rfl | rfl | rfl | rfl | rfl | rfl | rfl | rfl | rfl
        · have hz : z = 1 := by have h := HEE.out; rw [show (2 : Int) ^ (0 + 1) = 2 by decide] at h; omega
          subst hz
          go_wp2_with (go_at_call 12; refine HST.out.mono ?_; rintro e w7 ⟨rfl, hb7⟩; have HB7 := Lib.hid ((HB6.out.alloc hz6 _).trans (hb7.mono (by simp; omega))); clear hb7)
          go_ret
          exact ⟨rfl, HB7.out⟩
        · have hz : z = 3 := by have h := HEE.out; rw [show (2 : Int) ^ (1 + 1) = 4 by decide] at h; omega
          subst hz
          go_wp2_with (go_at_call 12; refine HST.out.mono ?_; rintro e w7 ⟨rfl, hb7⟩; have HB7 := Lib.hid ((HB6.out.alloc hz6 _).trans (hb7.mono (by simp; omega))); clear hb7)
          go_ret
          exact ⟨rfl, HB7.out⟩
        · have hz : z = 7 := by have h := HEE.out; rw [show (2 : Int) ^ (2 + 1) = 8 by decide] at h; omega
          subst hz
          go_wp2_with (go_at_call 12; refine HST.out.mono ?_; rintro e w7 ⟨rfl, hb7⟩; have HB7 := Lib.hid ((HB6.out.alloc hz6 _).trans (hb7.mono (by simp; omega))); clear hb7)
          go_ret
          exact ⟨rfl, HB7.out⟩
        · have hz : z = 15 := by have h := HEE.out; rw [show (2 : Int) ^ (3 + 1) = 16 by decide] at h; omega
          subst hz
          go_wp2_with (go_at_call 12; refine HST.out.mono ?_; rintro e w7 ⟨rfl, hb7⟩; have HB7 := Lib.hid ((HB6.out.alloc hz6 _).trans (hb7.mono (by simp; omega))); clear hb7)
          go_ret
          exact ⟨rfl, HB7.out⟩
        · have hz : z = 31 := by have h := HEE.out; rw [show (2 : Int) ^ (4 + 1) = 32 by decide] at h; omega
          subst hz
          go_wp2_with (go_at_call 12; refine HST.out.mono ?_; rintro e w7 ⟨rfl, hb7⟩; have HB7 := Lib.hid ((HB6.out.alloc hz6 _).trans (hb7.mono (by simp; omega))); clear hb7)
          go_ret
          exact ⟨rfl, HB7.out⟩
        · have hz : z = 63 := by have h := HEE.out; rw [show (2 : Int) ^ (5 + 1) = 64 by decide] at h; omega
          subst hz
          go_wp2_with (go_at_call 12; refine HST.out.mono ?_; rintro e w7 ⟨rfl, hb7⟩; have HB7 := Lib.hid ((HB6.out.alloc hz6 _).trans (hb7.mono (by simp; omega))); clear hb7)
          go_ret
          exact ⟨rfl, HB7.out⟩
        · have hz : z = 127 := by have h := HEE.out; rw [show (2 : Int) ^ (6 + 1) = 128 by decide] at h; omega
          subst hz
          go_wp2_with (go_at_call 12; refine HST.out.mono ?_; rintro e w7 ⟨rfl, hb7⟩; have HB7 := Lib.hid ((HB6.out.alloc hz6 _).trans (hb7.mono (by simp; omega))); clear hb7)
          go_ret
          exact ⟨rfl, HB7.out⟩
        · have hz : z = 255 := by have h := HEE.out; rw [show (2 : Int) ^ (7 + 1) = 256 by decide] at h; omega
          subst hz
          go_wp2_with (go_at_call 12; refine HST.out.mono ?_; rintro e w7 ⟨rfl, hb7⟩; have HB7 := Lib.hid ((HB6.out.alloc hz6 _).trans (hb7.mono (by simp; omega))); clear hb7)
          go_ret
          exact ⟨rfl, HB7.out⟩
        · have hz : z = 511 := by have h := HEE.out; rw [show (2 : Int) ^ (8 + 1) = 512 by decide] at h; omega
          subst hz
          go_wp2_with (go_at_call 12; refine HST.out.mono ?_; rintro e w7 ⟨rfl, hb7⟩; have HB7 := Lib.hid ((HB6.out.alloc hz6 _).trans (hb7.mono (by simp; omega))); clear hb7)
          go_ret
          exact ⟨rfl, HB7.out⟩
        · have hz : z = 1023 := by have h := HEE.out; rw [show (2 : Int) ^ (9 + 1) = 1024 by decide] at h; omega
          subst hz
          go_wp2_with (go_at_call 12; refine HST.out.mono ?_; rintro e w7 ⟨rfl, hb7⟩; have HB7 := Lib.hid ((HB6.out.alloc hz6 _).trans (hb7.mono (by simp; omega))); clear hb7)
          go_ret
          exact ⟨rfl, HB7.out⟩
        · have hz : z = 2047 := by have h := HEE.out; rw [show (2 : Int) ^ (10 + 1) = 2048 by decide] at h; omega
          subst hz
          go_wp2_with (go_at_call 12; refine HST.out.mono ?_; rintro e w7 ⟨rfl, hb7⟩; have HB7 := Lib.hid ((HB6.out.alloc hz6 _).trans (hb7.mono (by simp; omega))); clear hb7)
          go_ret
          exact ⟨rfl, HB7.out⟩
        · have hz : z = 4095 := by have h := HEE.out; rw [show (2 : Int) ^ (11 + 1) = 4096 by decide] at h; omega
          subst hz
          go_wp2_with (go_at_call 12; refine HST.out.mono ?_; rintro e w7 ⟨rfl, hb7⟩; have HB7 := Lib.hid ((HB6.out.alloc hz6 _).trans (hb7.mono (by simp; omega))); clear hb7)
          go_ret
          exact ⟨rfl, HB7.out⟩
end Go.Proofs.Ytniefnjcimempaa
