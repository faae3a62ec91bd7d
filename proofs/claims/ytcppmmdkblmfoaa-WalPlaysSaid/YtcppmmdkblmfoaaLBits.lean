/- The walk of the law WalBits. -/
import Derived.Test.YtcppmmdkblmfoaaBits
import Derived.Test.YtcppmmdkblmfoaaLSums
namespace Go.Proofs.Ytcppmmdkblmfoaa
open Go.RowKit
theorem LL.form {w : World} {A : Option Addr} {n c : Nat} {ls : List (List UInt8)} (h : LL w (.slice A n c) ls) : n = ls.length ∧ n ≤ c ∧ ∃ vs, Reads w w.heap.size 1 A n vs ∧ Pays w none vs ls := by
  obtain ⟨A', c', vs, e, hc, hr, hp⟩ := h
  injection e with e1 e2 e3
  subst e1 e2 e3
  exact ⟨rfl, hc, vs, hr, hp⟩
set_option maxRecDepth 100000 in
set_option maxHeartbeats 400000 in
theorem bits_long (A : Option Addr) (m c : Nat) (k bit : Int) (w : World) (hm : 20 < m) :
    Calls Try.prog 5 #[.slice A m c, .int .u8 k, .int .u16 bit] w (AwEnd w) := by
  have hm' : (20 : Int) < (m : Int) := by omega
  go_enter Try.func5, Try.ntmps5
  go_wp2_with fail
  refine (awake_any w).mono ?_
  rintro e w1 ⟨rfl, hb1⟩
  go_wp2_with fail
  refine (awake_any w1).mono ?_
  rintro e w2 ⟨rfl, hb2⟩
  have hb := hb1.trans (hb2.mono hb1.size)
  go_wp2_with fail
  go_ret
  exact ⟨rfl, hb⟩
set_option maxRecDepth 100000 in
set_option maxHeartbeats 400000 in
theorem bits_none (A : Option Addr) (c : Nat) (k bit : Int) (w : World) :
    Calls Try.prog 5 #[.slice A 0 c, .int .u8 k, .int .u16 bit] w (AwEnd w) := by
  go_enter Try.func5, Try.ntmps5
  go_wp2_with fail
  refine (awake_any w).mono ?_
  rintro e w1 ⟨rfl, hb1⟩
  go_wp2_with fail
  refine (awake_any w1).mono ?_
  rintro e w2 ⟨rfl, hb2⟩
  have hb := hb1.trans (hb2.mono hb1.size)
  go_wp2_with fail
  go_ret
  exact ⟨rfl, hb⟩
theorem byte_change (l : List UInt8) (j k : Nat) (hj : j < l.length) (hk : k < 8) : ∃ y : UInt8, bits BinOp.xor IntKind.u8 ((l[j].toNat : Nat) : Int) ((2 : Int) ^ k % 256) = (y.toNat : Int) ∧ l[j] ≠ y := by
  obtain ⟨y, h1, h2⟩ := bit_change l j k hj hk
  refine ⟨y, h1, fun h => h2 ?_⟩
  rw [← h, List.set_getElem_self]
def payB (l : List UInt8) : List UInt8 := 1 :: l.take 200
theorem payB_len (l : List UInt8) : 1 ≤ (payB l).length ∧ (payB l).length ≤ 201 := by
  unfold payB; simp; omega
def Good (ls : List (List UInt8)) (t k : Nat) (all : List UInt8) : Prop :=
  k ≤ t ∧ all = cat ((ls.take k).map fun l => frameL (payB l)) ∨ t < k ∧ ∃ f r, all = cat ((ls.take t).map fun l => frameL (payB l)) ++ (f ++ r) ∧ ∀ r, step1 (f ++ r) = none
def BitRel (w : World) (ls : List (List UInt8)) (t m : Nat) (s8 s9 s40 : Value) (wr : World) : Prop :=
  ∃ (k n8 : Nat) (all : List UInt8) (vs : List Value), k ≤ m ∧ s40 = .int .i64 k ∧ n8 ≤ 300 * k ∧ wr.ownsRow w.heap.size 5 1 s8 n8 (all.map byteV) ∧ wr.ownsRow w.heap.size 22 1 s9 (min k t) vs ∧
    Pays wr s9.ownBlock vs ((ls.take (min k t)).map payB) ∧ Pays wr s8.ownBlock vs ((ls.take (min k t)).map payB) ∧ Good ls t k all ∧ Below w.heap.size w wr
set_option maxRecDepth 100000 in
set_option maxHeartbeats 1000000 in
theorem bits_main (A : Option Addr) (m c k bit : Nat) (ls : List (List UInt8)) (w : World) (hL : LL w (.slice A m c) ls) (h0 : 0 < m) (hm : m ≤ 20) (hk : k < 256) (hbit : bit < 65536) :
    Calls Try.prog 5 #[.slice A m c, .int .u8 (k : Int), .int .u16 (bit : Int)] w (AwEnd w) := by
  obtain ⟨i0, hi, hz0, hz1, hz2⟩ := info_parts Try.info5
  obtain ⟨j0, ji, jz0, jz1, jz2⟩ := info_parts Try.info22
  have hm' : ¬ (20 : Int) < (m : Int) := by omega
  have hnz : ((m : Int) == 0) = false := by simp; omega
  obtain ⟨t, ht⟩ : ∃ t : Nat, t = k % m := ⟨_, rfl⟩
  have htm : t < m := by rw [ht]; exact Nat.mod_lt _ h0
  have hti : (k : Int) % (m : Int) = (t : Int) := by rw [ht]; simp
  clear ht
  go_enter Try.func5, Try.ntmps5
  go_wp2_with fail
  refine (awake_any w).mono ?_
  rintro e w1 ⟨rfl, hb1⟩
  have hL1 := hL.below hb1
  go_wp2_with fail
  rw [hti]
  clear hti
  go_loopw [8, 9, 40] (fun s8 s9 s40 wr => BitRel w ls t m s8 s9 s40 wr) (fun _ _ s40 _ => m - (intOf s40).toNat)
  case atStart => exact ⟨0, 0, [], [], by omega, rfl, by omega, World.ownsRow_nil _ _ _ _, by rw [Nat.zero_min]; exact World.ownsRow_nil _ _ _ _, by simpa using Pays.nil _ _, by simpa using Pays.nil _ _, .inl ⟨by omega, rfl⟩, hb1⟩
  case round =>
    obtain ⟨k, n8, all, vs, hk, rfl, hn8, hown8, hown9, hp9, hp8, hgood, hb⟩ := hrel
    obtain ⟨hll, hmc, us, hru, hpu⟩ := (hL.below hb).form
    by_cases hlt : k < m
    · obtain ⟨b, o, rfl, hbl, hc⟩ := hru.form h0
      obtain ⟨u, hu, hpay⟩ := hpu.at_ k (by omega)
      have hcell := hc k u hu
      obtain ⟨Au, cu, rfl, hcu, hrd⟩ := hpay.reads
      clear hc hu
      have hkl : k < ls.length := by omega
      have HLL := Lib.hid hll
      have hpB : payB ls[k] = 1 :: ls[k].take 200 := rfl
      obtain ⟨x, hx⟩ : ∃ x, x = ls[k] := ⟨_, rfl⟩
      rw [← hx] at hrd hcu hcell hpB
      have HX := Lib.hid hx
      have hpl1 := payB_len x
      clear hx hpay hll
      obtain ⟨M, hM⟩ : ∃ M : Nat, M = min x.length 200 := ⟨_, rfl⟩
      have hMl : M ≤ x.length := by omega
      have hM2 : M ≤ 200 := by omega
      have hMc : M ≤ cu := by omega
      have hmin : (if (200 : Int) < (x.length : Int) then (200 : Int) else (x.length : Int)) = (M : Int) := by split <;> omega
      have hMt : (x.take M).length = M := by simp; omega
      have hMx : x.take 200 = x.take M := by rw [hM, Nat.min_comm]; exact (List.take_eq_take_iff.2 (by omega))
      rw [hMx] at hpB
      have HM := Lib.hid hpB
      clear hM hMx hpB
      have hrdM := (hrd.take_ hMl).alloc (Nat.le_refl _) (.cells #[.int .u8 1] 5)
      rw [← List.map_take] at hrdM
      have hown1 := World.ownsRow_lit (e := 5) (size := 1) wr #[.int .u8 1] 1 (Nat.le_refl _) (by decide) rfl
      go_wp2_with (at_builtin; refine wpList_append_any _ rfl (.tmp 45) (.tmp 50) 22 rfl wr.heap.size 5 i0 (.int .u8 0) 1 1 Try.underlying22 hi hz0 hz1 hz2 rfl (by decide) _ _ _ rfl hown1 _ _ _ _ ((x.take M).map byteV) rfl hrdM (oneB _) (by unfold maxLen; omega) (by omega) (by simp) ?_)
      intro vb wb hownb hgb _
      obtain ⟨Ab, cb, rfl⟩ := own_form hownb
      have hq := (below_own ((Below.refl wr.heap.size wr).alloc (Nat.le_refl _) (.cells #[.int .u8 1] 5)) (by simp) (Nat.le_refl _) hown1 hgb)
      have hownb' : wb.ownsRow wr.heap.size 5 1 (.slice Ab (1 + M) cb) (1 + M) ((payB x).map byteV) := by rw [HM.out]; simpa [byteV] using hownb
      have hP9 := PayOk.of_own (N := u9.ownBlock) hownb' (own_le hownb') (fun g hg => (hown9.lt g hg).2)
      have hP8 := PayOk.of_own (N := u8.ownBlock) hownb' (own_le hownb') (fun g hg => (hown8.lt g hg).2)
      have hrb := Reads.of_own hownb'
      have hown8b := own_below hown8 hq
      have hown9b := own_below hown9 hq
      have hp8b := hp8.below hq
      have hp9b := hp9.below hq
      have hbb := hb.trans (hq.mono hb.size)
      clear hown1 hgb hownb hownb' hq hrdM hown8 hown9 hp8 hp9 hb hrd hru hpu hcell hmin hMt hcu
      go_wp2_with fail
      refine (frame_ok Ab (1 + M) cb _ (payB x) wb hrb (Nat.le_refl _) (by omega) (by omega)).mono ?_
      rintro e wf ⟨Af, cf, rfl, hownf, hq⟩
      have hown8f := own_below hown8b hq
      have hown9f := own_below hown9b hq
      have hpN : Hid (∀ F, wb.heap.size ≤ F → Pays wf (some F) vs ((ls.take (min k t)).map payB)) := fun F hF => (hp9b.free.move (N' := some F) (World.grownBy.refl wb none) (fun g hg => .inr (by injection hg with hg; omega))).below hq
      have hp8f := hp8b.below hq
      have hp9f := hp9b.below hq
      have hP8f := hP8.below hq
      have hP9f := hP9.below hq
      have hbf := hbb.trans (hq.mono hbb.size)
      have hbsz := hbb.size
      have hlt8 : ∀ g, u8.ownBlock = some g → g < wb.heap.size := fun g hg => (hown8b.lt g hg).2
      have hlt9 : ∀ g, u9.ownBlock = some g → g < wb.heap.size := fun g hg => (hown9b.lt g hg).2
      clear hq hown8b hown9b hp8b hp9b hP8 hP9 hbb hrb
      have htk : (ls.take (k + 1)).map payB = (ls.take k).map payB ++ [payB x] := by
        rw [List.take_succ_eq_append_getElem hkl, List.map_append, HX.out]; rfl
      have htf : cat ((ls.take (k + 1)).map fun l => frameL (payB l)) = cat ((ls.take k).map fun l => frameL (payB l)) ++ frameL (payB x) := by
        rw [List.take_succ_eq_append_getElem hkl, List.map_append, HX.out]; exact cat_snoc _ _
      have HTK := Lib.hid htk
      have HTF := Lib.hid htf
      clear htk htf
      rcases Nat.lt_trichotomy k t with hkt | hkt | hkt
      · have b1 : ((k : Int) == (t : Int)) = false := by simp; omega
        have hA := World.grownBy_alloc wf (.cells #[.slice Ab (1 + M) cb] 22) u9.ownBlock
        have hown9g := hown9f.alloc (.cells #[.slice Ab (1 + M) cb] 22)
        have hrd := Reads.of_alloc wf #[.slice Ab (1 + M) cb] 22 (B := wf.heap.size + 1) (n := 1) (by omega) rfl
        go_wp2_with (at_builtin; refine wpList_append_any _ rfl (.tmp 62) (.tmp 64) 36 rfl w.heap.size 22 j0 (.slice none 0 0) 1 24 Try.underlying36 ji jz0 jz1 jz2 rfl (by decide) _ _ _ rfl hown9g _ _ 1 1 _ rfl hrd (by intro u hu; simp at hu; subst hu; rfl) (by unfold maxLen; omega) (by omega) (by simp; have := hbf.size; omega) ?_)
        intro v9 w9 hown9' hg9 hvb9
        have hg9' := hA.trans hg9
        have hb9 := below_own hbf hbf.size (Nat.le_refl _) hown9f hg9'
        have hown8g := hown8f.kept hg9' (own_ne hown8f hown9f (by decide))
        have hownfg := hownf.kept hg9' (own_ne hownf hown9f (by decide))
        have hp9g := (hp9f.snoc hP9f).move (N' := v9.ownBlock) hg9' (by
          intro g hg
          rcases hvb9 with h | h
          · rw [h] at hg; exact .inl hg
          · rw [h] at hg; injection hg with hg; right; rw [← hg]; exact Nat.le_succ _)
        have hp8g := (hp8f.snoc hP8f).move2 (hp9f.snoc hP9f) hg9'
        have hrf := Reads.of_own hownfg
        clear hA hown9g hrd hg9 hvb9 hg9' hown8f hown9f hownf hp8f hp9f hP8f hP9f hbf hlt8 hlt9
        go_wp2_with (at_builtin; refine wpList_append_any _ rfl (.tmp 87) (.tmp 88) 22 rfl w.heap.size 5 i0 (.int .u8 0) 1 1 Try.underlying22 hi hz0 hz1 hz2 rfl (by decide) _ _ _ rfl hown8g _ _ _ _ ((frameL (payB x)).map byteV) rfl hrf (oneB _) (by unfold maxLen; omega) (by omega) hb9.size ?_)
        intro v8 w8 hown8' hg8 hvb
        have hb8 := below_own hb9 hb9.size (Nat.le_refl _) hown8g hg8
        have hown9h := hown9'.kept hg8 (own_ne hown9' hown8g (by decide))
        have hp9' := hp9g.move2 hp8g hg8
        have hp8' := hp8g.move (N' := v8.ownBlock) hg8 (by
          intro g hg
          rcases hvb with h | h
          · rw [h] at hg; exact .inl hg
          · rw [h] at hg; injection hg with hg; right; omega)
        clear hg8 hown8g hown9' hp8g hp9g hb9 hownfg hrf hvb
        go_wp2_with fail
        go_roundw
        case rel =>
          have e1 : min (k + 1) t = k + 1 := by omega
          have e2 : min k t = k := by omega
          rw [e2] at hown9h hp9' hp8'
          rw [← HTK.out] at hp9' hp8'
          refine ⟨k + 1, _, all ++ frameL (payB x), _, by omega, by go_num, ?_, by rw [List.map_append]; exact hown8', by rw [e1]; exact hown9h, by rw [e1]; exact hp9', by rw [e1]; exact hp8', ?_, hb8⟩
          · omega
          left
          rcases hgood with ⟨_, hall⟩ | ⟨h, _⟩
          · exact ⟨by omega, by rw [hall, HTF.out]⟩
          · omega
        case measure => simp [intOf]; omega
      · have b1 : ((k : Int) == (t : Int)) = true := by simp; omega
        have b2 : ¬ (k : Int) < (t : Int) := by omega
        subst hkt
        obtain ⟨F, cap, e, hFb, hFl⟩ := hownf.form (by omega)
        injection e with e1 e2 e3
        subst e1 e3
        have hfl : (frameL (payB x)).length = 1 + M + 8 := by have := hownf.1; simpa using this
        obtain ⟨q0, hq0⟩ : ∃ q0 : Nat, q0 = bit % (8 * (1 + M + 8 - 4)) := ⟨_, rfl⟩
        have hq0l : q0 < 8 * (1 + M + 8 - 4) := by rw [hq0]; exact Nat.mod_lt _ (by omega)
        have hqi : (bit : Int) % (8 * (1 + (M : Int) + 8 - 4)) = (q0 : Int) := by
          rw [hq0]
          have : (8 * (1 + (M : Int) + 8 - 4)) = ((8 * (1 + M + 8 - 4) : Nat) : Int) := by omega
          rw [this]; simp
        clear hq0
        have j1 : (32 + (q0 : Int)) / 8 < ((1 + M + 8 : Nat) : Int) := by omega
        obtain ⟨q, hq⟩ : ∃ q : Nat, q = (32 + q0) / 8 := ⟨_, rfl⟩
        have hq4 : 4 ≤ q := by omega
        have hql : q < (frameL (payB x)).length := by omega
        have hcl := hownf.cellAt q (by omega)
        have hfro := hownf.frozenAt q
        have hst := hownf.stored q
        have hvx : ((frameL (payB x)).map byteV)[q]? = some (byteV ((frameL (payB x))[q]'hql)) := by simp [hql]
        rw [hvx] at hcl
        unfold byteV at hcl
        obtain ⟨y, hy, hne⟩ := byte_change (frameL (payB x)) q ((32 + q0) % 8) hql (by omega)
        have hz : ((frameL (payB x))[q]'hql).toNat < 256 := UInt8.toNat_lt _
        have HY := Lib.hid hy
        have HNE := Lib.hid hne
        obtain ⟨z, hzz⟩ : ∃ z, z = ((frameL (payB x))[q]'hql).toNat := ⟨_, rfl⟩
        rw [← hzz] at hcl hz HY
        clear hvx hy hne hzz
        rw [hq] at hcl hfro
        go_wp2_with fail
        go_region
        rw [← hq, HY.out]
        obtain ⟨hf6, hgF⟩ := hst (.int .u8 (y.toNat : Int))
        have hset : ((frameL (payB x)).map byteV).set q (.int .u8 (y.toNat : Int)) = ((frameL (payB x)).set q y).map byteV := by rw [List.map_set]; rfl
        rw [hset] at hf6
        have hgF' := only_drew hgF
        have hown8g := hown8f.kept hgF' (.inr (by intro h; have := hlt8 F h; omega))
        have hown9g := hown9f.kept hgF' (.inr (by intro h; have := hlt9 F h; omega))
        have hp9g := hp9f.move2 (hpN.out F hFb) hgF'
        have hp8g := hp8f.move2 (hpN.out F hFb) hgF'
        have hrf : Reads (wf.setCell ⟨F, q, none⟩ (.int .u8 (y.toNat : Int))).drew (wf.setCell ⟨F, q, none⟩ (.int .u8 (y.toNat : Int))).drew.heap.size 1 _ _ _ := (Reads.of_own hf6).drew
        have hb6 : Below w.heap.size w (wf.setCell ⟨F, q, none⟩ (.int .u8 (y.toNat : Int))).drew := (hbf.setCell (p := ⟨F, q, none⟩) (by show w.heap.size ≤ F; omega) _).drew
        generalize (wf.setCell ⟨F, q, none⟩ (.int .u8 (y.toNat : Int))).drew = w6 at *
        clear hst hf6 hgF hset hgF' hown8f hown9f hp9f hp8f hP8f hP9f hbf hownf hlt8 hlt9 hcl hfro hFl hqi j1 hpN
        obtain ⟨L2, hL2⟩ : ∃ L2, L2 = (frameL (payB x)).set q y := ⟨_, rfl⟩
        rw [← hL2] at hrf
        have HL2 := Lib.hid hL2
        clear hL2 hq
        go_wp2_with (at_builtin; refine wpList_append_any _ rfl (.tmp 87) (.tmp 88) 22 rfl w.heap.size 5 i0 (.int .u8 0) 1 1 Try.underlying22 hi hz0 hz1 hz2 rfl (by decide) _ _ _ rfl hown8g _ _ _ _ (L2.map byteV) rfl hrf (oneB _) (by unfold maxLen; omega) (by omega) hb6.size ?_)
        intro v8 w8 hown8' hg8 hvb
        have hb8 := below_own hb6 hb6.size (Nat.le_refl _) hown8g hg8
        have hown9' := hown9g.kept hg8 (own_ne hown9g hown8g (by decide))
        have hp9' := hp9g.move2 hp8g hg8
        have hp8' := hp8g.move (N' := v8.ownBlock) hg8 (by
          intro g hg
          rcases hvb with h | h
          · rw [h] at hg; exact .inl hg
          · rw [h] at hg; injection hg with hg; right; omega)
        clear hg8 hown8g hown9g hp8g hp9g hb6 hrf hvb
        go_wp2_with fail
        go_roundw
        case rel =>
          have e1 : min (k + 1) k = min k k := by omega
          refine ⟨k + 1, _, all ++ L2, vs, by omega, by go_num, ?_, by rw [List.map_append]; exact hown8', by rw [e1]; exact hown9', by rw [e1]; exact hp9', by rw [e1]; exact hp8', ?_, hb8⟩
          · omega
          · right
            refine ⟨by omega, (frameL (payB x)).set q y, [], ?_, fun r => bad_frame (payB x) r q y (by omega) (by omega) hq4 hql HNE.out⟩
            rcases hgood with ⟨_, hall⟩ | ⟨h, _⟩
            · rw [hall, List.append_nil, HL2.out]
            · omega
        case measure => simp [intOf]; omega
      · have b1 : ((k : Int) == (t : Int)) = false := by simp; omega
        have b2 : ¬ (k : Int) < (t : Int) := by omega
        have hrf := Reads.of_own hownf
        go_wp2_with (at_builtin; refine wpList_append_any _ rfl (.tmp 87) (.tmp 88) 22 rfl w.heap.size 5 i0 (.int .u8 0) 1 1 Try.underlying22 hi hz0 hz1 hz2 rfl (by decide) _ _ _ rfl hown8f _ _ _ _ ((frameL (payB x)).map byteV) rfl hrf (oneB _) (by unfold maxLen; omega) (by omega) hbf.size ?_)
        intro v8 w8 hown8' hg8 hvb
        have hb8 := below_own hbf hbf.size (Nat.le_refl _) hown8f hg8
        have hown9' := hown9f.kept hg8 (own_ne hown9f hown8f (by decide))
        have hp9' := hp9f.move2 hp8f hg8
        have hp8' := hp8f.move (N' := v8.ownBlock) hg8 (by
          intro g hg
          rcases hvb with h | h
          · rw [h] at hg; exact .inl hg
          · rw [h] at hg; injection hg with hg; right; omega)
        clear hg8 hown8f hown9f hp8f hp9f hP8f hP9f hbf hownf hrf hlt8 hlt9 hvb
        go_wp2_with fail
        go_roundw
        case rel =>
          refine ⟨k + 1, _, all ++ frameL (payB x), vs, by omega, by go_num, ?_, by rw [List.map_append]; exact hown8', by rw [show min (k + 1) t = min k t by omega]; exact hown9', by rw [show min (k + 1) t = min k t by omega]; exact hp9', by rw [show min (k + 1) t = min k t by omega]; exact hp8', ?_, hb8⟩
          · omega
          · right
            rcases hgood with ⟨h, _⟩ | ⟨_, f, r, hall, hf⟩
            · omega
            · exact ⟨by omega, f, r ++ frameL (payB x), by rw [hall]; simp, hf⟩
        case measure => simp [intOf]; omega
    · have hkm : k = m := by omega
      have hgd : ∃ f r, all = cat ((ls.take t).map fun l => frameL (payB l)) ++ (f ++ r) ∧ ∀ r, step1 (f ++ r) = none := by
        rcases hgood with ⟨h, _⟩ | ⟨_, h⟩
        · omega
        · exact h
      obtain ⟨f, r, hall, hf⟩ := hgd
      have hlen : ((ls.take t).map payB).length = t := by simp; omega
      have hF : Hid (frames all = ((ls.take t).map payB, total ((ls.take t).map payB))) := by
        have h := frames_cat ((ls.take t).map payB) (f ++ r) (by
          intro p hp
          simp only [List.mem_map] at hp
          obtain ⟨l, _, rfl⟩ := hp
          have := payB_len l; omega)
        rw [frames_none (hf r)] at h
        have e1 : ((ls.take t).map payB).map frameL = (ls.take t).map fun l => frameL (payB l) := by rw [List.map_map]; rfl
        rw [e1] at h
        show frames all = _
        rw [hall, h]; simp
      have e2 : min k t = t := by omega
      rw [e2] at hown9 hp9 hp8
      have hps : ∀ p ∈ (ls.take t).map payB, p.length ≤ 201 := by
        intro p hp
        simp only [List.mem_map] at hp
        obtain ⟨l, _, rfl⟩ := hp
        exact (payB_len l).2
      obtain ⟨PS, hPS⟩ : ∃ PS, PS = (ls.take t).map payB := ⟨_, rfl⟩
      rw [← hPS] at hp9 hp8 hF hlen hps
      obtain ⟨A8, c8, rfl⟩ := own_form hown8
      obtain ⟨A9, c9, rfl⟩ := own_form hown9
      have hr8 := Reads.of_own hown8
      have hc8 := own_le hown8
      have hr9 := Reads.of_own hown9
      have hc9 := own_le hown9
      have hpn := hp9.free
      have HPS := Lib.hid hPS
      have HLN := Lib.hid hlen
      have HPL := Lib.hid hps
      clear hgood hall hf hPS hru hpu hll hown8 hown9 hp9 hp8 e2 hkm hlen hps
      go_wp2_with fail
      refine (frames_any A8 n8 c8 _ all wr hr8 (Nat.le_refl _) (by omega) hc8).mono ?_
      intro e w2 h
      obtain ⟨v2, rfl, hL2, hq⟩ := h.to hF
      have hr9' := (hr9.below hq).more hq.size
      have hpn' := hpn.below hq
      have hb2 := hb.trans (hq.mono hb.size)
      clear h hr8 hr9 hpn hq hb
      go_wp2_with fail
      have hL9 : Hid (LL w2 (.slice A9 t c9) PS) := ⟨A9, c9, vs, by rw [HLN.out], by rw [HLN.out]; exact hc9, by rw [HLN.out]; exact hr9', hpn'⟩
      have htot : Hid (∀ j, j ≤ t → total (PS.take j) ≤ 209 * j) := by
        intro j
        induction j with
        | zero => intro _; simp [total]
        | succ j ih =>
          intro hj
          have hjl : j < PS.length := by have := HLN.out; omega
          rw [List.take_succ_eq_append_getElem hjl, total_snoc]
          have := ih (by omega)
          have := HPL.out PS[j] (List.getElem_mem _)
          omega
      go_loop [17, 98] (fun s i => ∃ j : Nat, j ≤ t ∧ i = .int .i64 j ∧ s = .int .i64 (total (PS.take j) : Nat)) (fun _ i => t - (intOf i).toNat)
      case atStart => exact ⟨0, by omega, rfl, by simp [total]⟩
      case round =>
        obtain ⟨j, hj, rfl, rfl⟩ := hrel
        have htj := htot.out j hj
        by_cases hjt : j < t
        · have hjl : j < PS.length := by have := HLN.out; omega
          have hsn : total (PS.take (j + 1)) = total (PS.take j) + (8 + PS[j].length) := by rw [List.take_succ_eq_append_getElem hjl, total_snoc]
          obtain ⟨b, o, rfl, _, hc⟩ := hr9'.form (by omega)
          obtain ⟨u, hu, hpay⟩ := hpn'.at_ j hjl
          have hcell := hc j u hu
          obtain ⟨Au, cu, rfl, hcu, _⟩ := hpay.reads
          have hpl := HPL.out PS[j] (List.getElem_mem _)
          generalize PS[j] = x at *
          generalize total (PS.take j) = T at *
          have HS := Lib.hid hsn
          clear hsn hc hu hpay
          go_wp2_with fail
          go_round
          case rel => exact ⟨j + 1, by omega, by go_num, by rw [HS.out]; go_num⟩
          case measure => simp [intOf]; omega
        · have hjt' : j = t := by omega
          have hT : total (PS.take j) = total PS := by rw [List.take_of_length_le (by have := HLN.out; omega)]
          have hpl : PS.length ≤ 1000000000 := by have := HLN.out; omega
          rw [hT] at htj
          rw [hT]
          generalize total PS = T at *
          clear hT hjt'
          go_wp2_with fail
          refine (same_any v2 _ _ _ w2 hL2 hL9.out hpl).mono ?_
          intro e w3 h
          obtain ⟨rfl, hq⟩ := h.to
          have hb3 := hb2.trans (hq.mono hb2.size)
          clear h hq
          go_wp2_with fail
          go_ret
          exact ⟨rfl, hb3⟩
theorem bits_all (A : Option Addr) (m c : Nat) (k bit : Int) (ls : List (List UInt8)) (w : World) (hL : LL w (.slice A m c) ls) (wk : (Lit.int .u8 k).wf = true) (wb : (Lit.int .u16 bit).wf = true) :
    Calls Try.prog 5 #[.slice A m c, .int .u8 k, .int .u16 bit] w (AwEnd w) := by
  by_cases hm : 20 < m
  · exact bits_long A m c k bit w hm
  · rcases Nat.eq_zero_or_pos m with h0 | h0
    · subst h0; exact bits_none A c k bit w
    · simp [Lit.wf, IntKind.min, IntKind.max, IntKind.signed, IntKind.bits] at wk wb
      obtain ⟨k, rfl⟩ := Int.eq_ofNat_of_zero_le wk.1
      obtain ⟨bit, rfl⟩ := Int.eq_ofNat_of_zero_le wb.1
      exact bits_main A m c k bit ls w hL h0 (by omega) (by omega) (by omega)
end Go.Proofs.Ytcppmmdkblmfoaa
