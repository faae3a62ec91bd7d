/- The walk of the law WalKeeps. -/
import Derived.Test.YtcppmmdkblmfoaaRL
import Derived.Test.YtcppmmdkblmfoaaLOpens
import Derived.Test.YtcppmmdkblmfoaaLBits
namespace Go.Proofs.Ytcppmmdkblmfoaa
open Go.RowKit Go.WideMaps
theorem LogM.keptF {w w' : World} {base sb mb n lb : Nat} {F G : Nat → Prop} {st : AS} {nm : ByteArray} {c z : Int} {br : Bool} (h : LogM w base F sb mb n st lb nm c z br) (hk : Kept G w w') (hG : ∀ i, F i ∨ i = lb → ¬ G i) : LogM w' base F sb mb n st lb nm c z br := by
  obtain ⟨h1, h2, h3, h4, h5⟩ := h
  exact ⟨h1.kept hk fun i hi => hG i (.inl hi), h2.kept hk (hG lb (.inr rfl)), h3, h4, fun i hi => Nat.lt_of_lt_of_le (h5 i hi) hk.size⟩
def sK (n1 k : Nat) (ls : List (List UInt8)) : Nat := if k ≤ n1 then 0 else (dat ((ls.take n1).map payK)).length
def KpRel (w : World) (base lb B : Nat) (us : List Value) (ls : List (List UInt8)) (n1 M : Nat) (V : Value) (s11 s42 : Value) (wr : World) : Prop :=
  ∃ (k : Nat) (z : Int) (F G : Nat → Prop) (vs : List Value), k ≤ M ∧ s42 = .int .i64 k ∧ 0 ≤ z ∧ z ≤ 300 * k ∧
    LogM wr base F (base + 1) base k (sysK (dat ((ls.take k).map payK)) (sK n1 k ls)) lb logN k z false ∧
    wr.ownsRow B 22 1 V M us ∧ Hid (∀ g, V.ownBlock = some g → ¬ F g ∧ g ≠ lb ∧ s11.ownBlock ≠ some g) ∧
    wr.ownsRow B 22 1 s11 k vs ∧ Hid (∀ g, s11.ownBlock = some g → ¬ F g ∧ g ≠ lb) ∧
    PaysG G wr vs ((ls.take k).map payK) ∧ Hid (∀ i, i < wr.heap.size → G i → ¬ F i ∧ i ≠ lb ∧ s11.ownBlock ≠ some i) ∧ Below w.heap.size w wr
theorem takes_len (ls : List (List UInt8)) (k : Nat) : ((ls.take k).map payK).length ≤ k := by simp; omega
theorem payKs (ls : List (List UInt8)) (k : Nat) : ∀ p ∈ (ls.take k).map payK, 1 ≤ p.length ∧ p.length ≤ 201 := by
  intro p hp
  obtain ⟨x, _, rfl⟩ := List.mem_map.1 hp
  exact payK_len x
theorem datK_len (ls : List (List UInt8)) (k : Nat) : (dat ((ls.take k).map payK)).length ≤ k * 209 := by
  have h1 := dat_len ((ls.take k).map payK) 201 fun p hp => (payKs ls k p hp).2
  have h2 := Nat.mul_le_mul_right 209 (takes_len ls k)
  omega
theorem dat_take_nil (ls : List (List UInt8)) (k : Nat) (hk : k ≤ ls.length) : ((k : Int) = 0 ↔ dat ((ls.take k).map payK) = []) := by
  constructor
  · intro h
    rw [show k = 0 by omega]
    rfl
  · intro h
    rcases Nat.eq_zero_or_pos k with h0 | h0
    · omega
    · exact absurd h (dat_ne (by
        intro e
        have := congrArg List.length e
        rw [List.length_map, List.length_take, List.length_nil] at this
        omega))
theorem sK_zero (n1 k : Nat) (ls : List (List UInt8)) (hk : k ≤ ls.length) (h : dat ((ls.take k).map payK) = []) : sK n1 (k + 1) ls = 0 := by
  have h0 : k = 0 := by have := (dat_take_nil ls k hk).2 h; omega
  subst h0
  unfold sK
  split
  · rfl
  · rw [show n1 = 0 by omega]
    rfl
theorem sK_at (n1 : Nat) (ls : List (List UInt8)) : sK n1 (n1 + 1) ls = (dat ((ls.take n1).map payK)).length := by
  unfold sK
  rw [if_neg (by omega)]
theorem sK_other (n1 k : Nat) (ls : List (List UInt8)) (h : k ≠ n1) : sK n1 (k + 1) ls = sK n1 k ls := by
  unfold sK
  by_cases h1 : k ≤ n1
  · rw [if_pos h1, if_pos (by omega)]
  · rw [if_neg h1, if_neg (by omega)]
theorem dat_step (ls : List (List UInt8)) (k : Nat) (hk : k < ls.length) : (ls.take (k + 1)).map payK = (ls.take k).map payK ++ [payK ls[k]] := by
  rw [List.take_succ_eq_append_getElem hk, List.map_append]; rfl
theorem dat_split (P : List (List UInt8)) (i : Nat) : (dat (P.take i)).length ≤ (dat P).length := by
  have : dat P = dat (P.take i) ++ dat (P.drop i) := by
    unfold dat
    rw [← cat_append, ← List.map_append, List.take_append_drop]
  rw [this, List.length_append]
  omega
theorem sysK_files (d : List UInt8) (s : Nat) : (sysK d s).files.length ≤ 1000000 ∧ ∀ f ∈ (sysK d s).files, f.name.length ≤ 1000 := by
  unfold sysK
  split
  · exact ⟨by decide, fun f h => by cases h⟩
  · exact ⟨by simp [one], fun f h => by simp [one] at h; subst h; show logN.data.toList.length ≤ 1000; decide⟩
theorem slice_rows (A : Option Addr) (n c k : Nat) (h : k ≤ c) (w : World) : (Instr.slice 36 (.slice A n c) none (some (.int .i64 (k : Int))) none).run Try.prog w = .ok (.slice A k c) w := by
  have q0 : (0 : Int) ≤ (k : Int) := by omega
  have q1 : (k : Int) ≤ (c : Int) := by omega
  simp [go_sem, Try.underlying36, q0, q1]
set_option maxRecDepth 100000 in
set_option maxHeartbeats 400000 in
theorem keeps_long (A1 A2 : Option Addr) (n1 c1 n2 c2 : Nat) (keep : Int) (w : World) (hn : 30 < n1 + n2) (hm1 : n1 ≤ 9223372036854775807 / 4) (hm2 : n2 ≤ 9223372036854775807 / 4) :
    Calls Try.prog 8 #[.slice A1 n1 c1, .slice A2 n2 c2, .int .i64 keep] w (AwEnd w) := by
  have hn' : (30 : Int) < (n1 : Int) + (n2 : Int) := by omega
  have hnd : decide ((30 : Int) < (n1 : Int) + (n2 : Int)) = true := by simpa using hn'
  go_enter Try.func8, Try.ntmps8
  go_wp2_with fail
  refine (awake_any w).mono ?_
  rintro e w1 ⟨rfl, hb1⟩
  go_wp2_with fail
  refine (awake_any w1).mono ?_
  rintro e w2 ⟨rfl, hb2⟩
  have hb := hb1.trans (hb2.mono hb1.size)
  go_wp2_with fail
  go_ret
  exact ⟨rfl, hb⟩
set_option maxRecDepth 100000 in
set_option maxHeartbeats 4000000 in
theorem keeps_main (A1 A2 : Option Addr) (n1 c1 n2 c2 : Nat) (ls1 ls2 : List (List UInt8)) (keep : Int) (w : World) (hL1 : LL w (.slice A1 n1 c1) ls1) (hL2 : LL w (.slice A2 n2 c2) ls2) (hn : n1 + n2 ≤ 30) (hk : -9223372036854775808 ≤ keep ∧ keep ≤ 9223372036854775807) :
    Calls Try.prog 8 #[.slice A1 n1 c1, .slice A2 n2 c2, .int .i64 keep] w (AwEnd w) := by
  obtain ⟨i0, hi, hz0, hz1, hz2⟩ := info_parts Try.info5
  obtain ⟨j0, ji, jz0, jz1, jz2⟩ := info_parts Try.info22
  have hnd : decide ((30 : Int) < (n1 : Int) + (n2 : Int)) = false := by simp; omega
  obtain ⟨hll1, hc1, us1, hru1, hpu1⟩ := hL1.form
  obtain ⟨hll2, hc2, us2, hru2, hpu2⟩ := hL2.form
  have HL1 := Lib.hid hll1
  have HL2 := Lib.hid hll2
  have hul1 : us1.length = n1 := by have := hru1.1; simpa using this
  have hul2 : us2.length = n2 := by have := hru2.1; simpa using this
  have HU1 := Lib.hid hul1
  have HU2 := Lib.hid hul2
  have HP1 := Lib.hid hpu1
  have HP2 := Lib.hid hpu2
  clear hL1 hL2 hll1 hll2 hul1 hul2 hpu1 hpu2
  go_enter Try.func8, Try.ntmps8
  go_wp2_with fail
  refine (awake_any w).mono ?_
  rintro e w1 ⟨rfl, hb1⟩
  go_wp2_with fail
  refine (newS_any w1).mono ?_
  rintro e w2 ⟨rfl, hS2, hq⟩
  have hb2 := hb1.trans (hq.mono hb1.size)
  have hS2 := hS2.cap
  obtain ⟨F2, hF2, hS2⟩ : ∃ F2, Hid (∀ i, F2 i → w1.heap.size ≤ i ∧ i < w2.heap.size) ∧ SysM w2 w1.heap.size F2 (w1.heap.size + 1) w1.heap.size 0 emptyA := ⟨_, fun i hi => hi, hS2⟩
  have HSZ := Lib.hid (show w.heap.size ≤ w1.heap.size ∧ w1.heap.size ≤ w2.heap.size from ⟨hb1.size, hq.size⟩)
  have hop := open_any w1.heap.size (w1.heap.size + 1) w1.heap.size 0 F2 emptyA logN w2 hS2 (fun i hi => (hF2.out i hi).2) logN_valid
  rw [show openA emptyA logN = ⟨emptyA, some ([], 0), 0⟩ from rfl] at hop
  unfold OpenEnd at hop
  simp only at hop
  clear hS2 hq hb1
  go_wp2_with fail
  refine hop.mono ?_
  clear hop
  rintro e w4 ⟨wm, A4, c4, vs4, lb, rfl, hbm, hx1, hx2, hlb, hlbm, hL4, hk4⟩
  clear hx1 hx2
  have hb4 : Below w.heap.size w w4 := hk4.below (hb2.trans (hbm.mono hb2.size)) (Nat.le_trans hb2.size hbm.size) fun i hi => by
    rcases hi with h | h
    · have := (hF2.out _ h).1; have := HSZ.out; omega
    · have := HSZ.out; omega
  obtain ⟨F4, hF4, hL4⟩ : ∃ F4, Hid (∀ i, F4 i → w1.heap.size ≤ i ∧ i < w4.heap.size) ∧ LogM w4 w1.heap.size F4 (w1.heap.size + 1) w1.heap.size 0 emptyA lb logN 0 0 false := ⟨_, fun i hi => ⟨by
    rcases hi.1 with h | h
    · exact (hF2.out _ h).1
    · have := HSZ.out; have := hbm.size; omega, hi.2⟩, hL4⟩
  have HLB2 := Lib.hid (show w1.heap.size ≤ w4.heap.size by have := HSZ.out; have := hbm.size; have := hk4.size; omega)
  have HLB := Lib.hid (show w.heap.size ≤ lb ∧ lb < w4.heap.size from ⟨by have := HSZ.out; omega, Nat.lt_of_lt_of_le hlbm hk4.size⟩)
  clear hk4 hbm hb2 hlb hlbm
  -- the merged list
  have hown0 := World.ownsRow_lit (e := 22) (size := 1) w4 #[] 0 (Nat.le_refl _) (by decide) rfl
  have hr41 := (hru1.below hb4).alloc hb4.size (.cells #[] 22)
  go_wp2_with (at_builtin; refine wpList_append_any _ rfl (.tmp 36) (.tmp 37) 36 rfl w4.heap.size 22 j0 (.slice none 0 0) 1 24 Try.underlying36 ji jz0 jz1 jz2 rfl (by decide) _ _ _ rfl hown0 w.heap.size _ n1 c1 us1 rfl hr41 HP1.out.one (by unfold maxLen; omega) (by omega) (by simp) ?_)
  intro v5 w5 hown5 hg5 _
  have hb5 := below_own (hb4.alloc hb4.size (.cells #[] 22)) (by have := hb4.size; simp; omega) hb4.size hown0 hg5
  have hq5 := below_own ((Below.refl w4.heap.size w4).alloc (Nat.le_refl _) (.cells #[] 22)) (by simp) (Nat.le_refl _) hown0 hg5
  have hr42 := hru2.below hb5
  have HB5 := Lib.hid hq5.size
  have hL5 := hL4.below hq5
  clear hown0 hr41 hg5 hL4 hq5
  go_wp2_with (at_builtin; refine wpList_append_any _ rfl (.tmp 38) (.tmp 39) 36 rfl w4.heap.size 22 j0 (.slice none 0 0) 1 24 Try.underlying36 ji jz0 jz1 jz2 rfl (by decide) _ _ _ rfl hown5 w.heap.size _ n2 c2 us2 rfl hr42 HP2.out.one (by unfold maxLen; omega) (by omega) (by have := HB5.out; omega) ?_)
  intro v6 w6 hown6 hg6 _
  have hb6 := below_own hb5 hb5.size hb4.size hown5 hg6
  have hk56 : Kept (fun i => v5.ownBlock = some i) w5 w6 := Kept.of_grown hg6 fun g h => h
  have hLx : True := trivial
  have hL6 := hL5.keptF hk56 (fun i hi h => by
    have h1 := (hown5.lt i h).1
    rcases hi with hi | hi
    · have := (hF4.out _ hi).2; omega
    · have := HLB.out; omega)
  have HB6 := Lib.hid (show w4.heap.size ≤ w6.heap.size from Nat.le_trans HB5.out hk56.size)
  have HLT6 := Lib.hid (fun g hg => (hown6.lt g hg).1)
  clear hown5 hr42 hg6 hL5 hk56 hb5
  have hpu : Pays w none (us1 ++ us2) (ls1 ++ ls2) := by
    refine ⟨by rw [List.length_append, List.length_append, HU1.out, HU2.out, ← HL1.out, ← HL2.out], fun i v p hv hp => ?_⟩
    rw [List.getElem?_append] at hv hp
    by_cases h : i < us1.length
    · rw [if_pos h] at hv; rw [if_pos (by have := HU1.out; have := HL1.out; omega)] at hp
      exact HP1.out.2 i v p hv hp
    · rw [if_neg h] at hv; rw [if_neg (by have := HU1.out; have := HL1.out; omega)] at hp
      rw [show i - ls1.length = i - us1.length by have := HU1.out; have := HL1.out; omega] at hp
      exact HP2.out.2 _ v p hv hp
  have hlsl : (ls1 ++ ls2).length = n1 + n2 := by rw [List.length_append, ← HL1.out, ← HL2.out]
  have HPU := Lib.hid hpu
  have HLS := Lib.hid hlsl
  obtain ⟨us, hus⟩ : ∃ us, us = us1 ++ us2 := ⟨_, rfl⟩
  obtain ⟨ls, hls⟩ : ∃ ls, ls = ls1 ++ ls2 := ⟨_, rfl⟩
  rw [← hus, ← hls] at HPU
  rw [← hls] at HLS
  rw [← hus] at hown6
  clear hpu hlsl hus hls hru1 hru2
  obtain ⟨A6, c6, rfl⟩ := own_form hown6
  obtain ⟨M, hM⟩ : ∃ M : Nat, M = n1 + n2 := ⟨_, rfl⟩
  rw [← hM] at hown6 HLS HLT6 ⊢
  have hM30 : M ≤ 30 := by omega
  have HM := Lib.hid hM
  clear hM hLx
  go_wp2_with fail
  go_loopw [11, 42] (fun s11 s42 wr => KpRel w w1.heap.size lb w4.heap.size us ls n1 M (.slice A6 M c6) s11 s42 wr) (fun _ s42 _ => M - (intOf s42).toNat)
  case atStart =>
    refine ⟨0, 0, F4, fun _ => False, [], by omega, rfl, by omega, by omega, ?_, hown6, (show ∀ g, _ from fun g hg => ?_), World.ownsRow_nil _ _ _ _, (show ∀ g, _ from fun g hg => by cases hg), by simpa using PaysG.nil _ _, (show ∀ i, _ from fun i _ h => h.elim), hb6⟩
    · rw [List.take_zero, List.map_nil, dat_nil, sysK_nil]; exact hL6
    · have h1 := (HLT6.out g hg)
      exact ⟨fun h => by have := (hF4.out _ h).2; omega, fun h => by have := HLB.out; omega, by simp [Value.ownBlock]⟩
  case round =>
    obtain ⟨k, z, F, G, vs, hkM, rfl, hzA, hzB, hLr, hownV, HV, hown11, H11, hpG, HG, hb⟩ := hrel
    by_cases hlt : k < M
    · have HWB := Lib.hid (show w4.heap.size ≤ wr.heap.size from by
        obtain ⟨g, cap, e, h1, h2⟩ := hownV.form (by omega)
        omega)
      have hkn : (k : Int) < (n1 : Int) + (n2 : Int) := by have := HM.out; omega
      have hkl : k < ls.length := by rw [HLS.out]; exact hlt
      obtain ⟨bo, oo, rfl, hbl, hc⟩ := (Reads.of_own hownV).form (by omega)
      obtain ⟨u, hu, hpay⟩ := HPU.out.at_ k hkl
      have hcell := hc k u hu
      obtain ⟨Au, cu, rfl, hcu, hrd⟩ := (hpay.below hb).reads
      clear hc hu hpay
      have hpB : payK ls[k] = 7 :: ls[k].take 200 := rfl
      obtain ⟨x, hx⟩ : ∃ x, x = ls[k] := ⟨_, rfl⟩
      rw [← hx] at hrd hcu hcell hpB
      have HX := Lib.hid hx
      clear hx
      obtain ⟨Mx, hMx⟩ : ∃ Mx : Nat, Mx = min x.length 200 := ⟨_, rfl⟩
      have hMl : Mx ≤ x.length := by omega
      have hM2 : Mx ≤ 200 := by omega
      have hMc : Mx ≤ cu := by omega
      have hmin : min (x.length : Int) 200 = (Mx : Int) := by omega
      have hMt : x.take 200 = x.take Mx := by rw [hMx, Nat.min_comm]; exact (List.take_eq_take_iff.2 (by omega))
      rw [hMt] at hpB
      have HMP := Lib.hid hpB
      have HPB := Lib.hid (show (payK x).length = 1 + Mx by rw [hpB]; simp; omega)
      clear hMx hMt hpB
      have hrdM := (hrd.take_ hMl).alloc (Nat.le_refl _) (.cells #[.int .u8 7] 5)
      rw [← List.map_take] at hrdM
      have hown1 := World.ownsRow_lit (e := 5) (size := 1) wr #[.int .u8 7] 1 (Nat.le_refl _) (by decide) rfl
      go_wp2_with (at_builtin; (refine wpList_append_any _ rfl (.tmp 47) (.tmp 52) 22 rfl wr.heap.size 5 i0 (.int .u8 0) 1 1 Try.underlying22 hi hz0 hz1 hz2 rfl (by decide) _ _ _ rfl hown1 _ _ _ _ ((x.take Mx).map byteV) rfl hrdM (oneB _) (by unfold maxLen; omega) (by omega) (by simp) ?_))
      intro vb w5 hownb hgb _
      obtain ⟨Ab, cb, rfl⟩ := own_form hownb
      have hq := (below_own ((Below.refl wr.heap.size wr).alloc (Nat.le_refl _) (.cells #[.int .u8 7] 5)) (by simp) (Nat.le_refl _) hown1 hgb)
      have hownb : w5.ownsRow wr.heap.size 5 1 (.slice Ab (1 + Mx) cb) (1 + Mx) ((payK x).map byteV) := by rw [HMP.out]; simpa [byteV] using hownb
      have hownV := own_below hownV hq
      have hown11r := hown11
      have hown11 := own_below hown11 hq
      have hpG := (hpG.mono (G' := fun i => G i ∧ i < wr.heap.size) fun i h1 h2 => ⟨h2, h1⟩).keptF (F := fun _ => False) (Kept.of_below hq) fun _ _ _ h => h
      have hbb := hb.trans (hq.mono hb.size)
      have HFB := Lib.hid (show ∀ g, wr.heap.size ≤ g → ¬ F g from fun g hg hf => by have := hLr.2.2.2.2 g hf; omega)
      have HLBR := Lib.hid (show lb < wr.heap.size from hLr.lt)
      have HFW := Lib.hid (show ∀ i, F i → w1.heap.size ≤ i by
        obtain ⟨⟨_, _, _, _, h, _⟩, _⟩ := hLr
        exact h)
      have hLr := hLr.below hq
      have HSR := Lib.hid hq.size
      have HGL := Lib.hid (show ∀ i, i < wr.heap.size → G i → ¬ F i ∧ i ≠ lb ∧ u11.ownBlock ≠ some i from HG.out)
      have HDL := Lib.hid (datK_len ls k)
      have HS0 := Lib.hid (sK_zero n1 k ls (Nat.le_of_lt hkl))
      have hpb := PayG.of_own (G := fun i => wr.heap.size ≤ i ∧ i < w5.heap.size) hownb (own_le hownb) fun g h1 h2 => ⟨h1, h2⟩
      have HDN := Lib.hid (dat_take_nil ls k (Nat.le_of_lt hkl))
      have HST := Lib.hid (dat_step ls k hkl)
      have H11L := Lib.hid (fun g hg => (hown11r.lt g hg).2)
      clear hown1 hgb hq hrdM hb hrd hcell hcu hmin hown11r
      have HB46 := Lib.hid (show w4.heap.size ≤ wr.heap.size from HWB.out)
      have HB4L := Lib.hid (show w.heap.size ≤ w4.heap.size from hb4.size)
      have HWR := Lib.hid (show w1.heap.size ≤ wr.heap.size from by have := HWB.out; have := HLB2.out; omega)
      by_cases hkn1 : k = n1
      · have b1 : ((k : Int) == (n1 : Int)) = true := by rw [hkn1]; simp
        have hls5 := lsync_any w1.heap.size (w1.heap.size + 1) w1.heap.size k F (sysK (dat ((ls.take k).map payK)) (sK n1 k ls)) lb logN k z false w5 hLr logN_size
        rw [lsync_sys _ _ _ HDN.out] at hls5
        simp only [errV_zero] at hls5
        rw [show (dat ((ls.take k).map payK)).length = sK n1 (k + 1) ls by rw [hkn1, sK_at]] at hls5
        clear hkn1 hLr
        go_wp2_with fail
        refine hls5.mono ?_
        clear hls5
        rintro e w6 ⟨rfl, hL5, hk6⟩
        have HVL5 := Lib.hid (fun g hg => (hownV.lt g hg).2)
        have hownV := own_keptF hownV hk6 fun g hg hf => by
          rcases hf with hf | hf
          · exact (HV.out g hg).1 hf
          · exact (HV.out g hg).2.1 hf
        have hown11 := own_keptF hown11 hk6 fun g hg hf => by
          rcases hf with hf | hf
          · exact (H11.out g hg).1 hf
          · exact (H11.out g hg).2 hf
        have hownb' := own_keptF hownb hk6 fun g hg hf => by
          rcases hf with hf | hf
          · exact HFB.out g (hownb.lt g hg).1 hf
          · have := (hownb.lt g hg).1; have := HLBR.out; omega
        have hpG := hpG.keptF hk6 fun i _ hg hf => by
          rcases hf with hf | hf
          · exact (HGL.out i hg.2 hg.1).1 hf
          · exact (HGL.out i hg.2 hg.1).2.1 hf
        have hpb := hpb.keptF hk6 fun i _ hg hf => by
          rcases hf with hf | hf
          · exact HFB.out i hg.1 hf
          · have := HLBR.out; omega
        have hbb := hk6.below hbb hbb.size fun i hi => by
          rcases hi with hi | hi
          · have := HFW.out i hi; have := HSZ.out; omega
          · have := HLB.out; omega
        have HS56 := Lib.hid hk6.size
        obtain ⟨F5, hF5, hL5⟩ : ∃ F5 : Nat → Prop, Hid (∀ i, F5 i → F i ∨ w5.heap.size ≤ i) ∧ LogM w6 w1.heap.size F5 (w1.heap.size + 1) w1.heap.size k (sysK (dat ((ls.take k).map payK)) (sK n1 (k + 1) ls)) lb logN k z false := ⟨_, (show ∀ i, _ from fun i hi => hi.1), hL5⟩
        have HV5 := Lib.hid (show ∀ g, (Value.slice (some ⟨bo, oo, none⟩) M c6).ownBlock = some g → ¬ F5 g ∧ g ≠ lb from fun g hg => ⟨fun h => by
          rcases hF5.out g h with h | h
          · exact (HV.out g hg).1 h
          · have := HVL5.out g hg; omega, (HV.out g hg).2.1⟩)
        have H115 := Lib.hid (show ∀ g, u11.ownBlock = some g → ¬ F5 g ∧ g ≠ lb from fun g hg => ⟨fun h => by
          rcases hF5.out g h with h | h
          · exact (H11.out g hg).1 h
          · have := H11L.out g hg; have := HSR.out; omega, (H11.out g hg).2⟩)
        have HFB5 := Lib.hid (show ∀ i, wr.heap.size ≤ i → i < w5.heap.size → ¬ F5 i from fun i h1 h2 h => by
          rcases hF5.out i h with h | h
          · exact HFB.out i h1 h
          · omega)
        have HG5 := Lib.hid (show ∀ i, G i ∧ i < wr.heap.size → ¬ F5 i ∧ i ≠ lb ∧ u11.ownBlock ≠ some i from fun i hg => ⟨fun h => by
          rcases hF5.out i h with h | h
          · exact (HGL.out i hg.2 hg.1).1 h
          · have := HSR.out; omega, (HGL.out i hg.2 hg.1).2⟩)
        have HFW5 := Lib.hid (show ∀ i, F5 i → w1.heap.size ≤ i from fun i h => by
          rcases hF5.out i h with h | h
          · exact HFW.out i h
          · have := hbb.size; have := HSR.out; have := HWR.out; omega)
        clear hk6 hownb
        have hownb := hownb'
        clear hownb'
        have hla := lapp_any w1.heap.size (w1.heap.size + 1) w1.heap.size k F5 (sysK (dat ((ls.take k).map payK)) (sK n1 (k + 1) ls)) lb logN k z false Ab (1 + Mx) cb _ (payK x) w6 hL5 (Reads.of_own hownb) (Nat.le_refl _) HPB.out logN_size (by unfold maxLen; omega) (by omega) (by omega) (by omega) (by omega)
        rw [lapp_sys _ (payK x) _ _ _ (by rw [HPB.out]; omega) (by rw [HPB.out]; omega) (by have := HDL.out; rw [HPB.out]; omega) HS0.out, HPB.out] at hla
        simp only [errV_zero] at hla
        clear hL5
        go_wp2_with fail
        refine hla.mono ?_
        clear hla
        rintro e w7 ⟨rfl, hL7, hk7⟩
        have hV7 := own_keptF hownV hk7 fun g hg hf => by
          rcases hf with hf | hf
          · exact (HV5.out g hg).1 hf
          · exact (HV5.out g hg).2 hf
        have h117 := own_keptF hown11 hk7 fun g hg hf => by
          rcases hf with hf | hf
          · exact (H115.out g hg).1 hf
          · exact (H115.out g hg).2 hf
        have hp7 := hpG.keptF hk7 fun i _ hg hf => by
          rcases hf with hf | hf
          · exact (HG5.out i hg).1 hf
          · exact (HG5.out i hg).2.1 hf
        have hpb7 := hpb.keptF hk7 fun i _ hg hf => by
          rcases hf with hf | hf
          · exact HFB5.out i hg.1 hg.2 hf
          · have := HLBR.out; omega
        have hbb7 := hk7.below hbb hbb.size fun i hi => by
          rcases hi with hi | hi
          · have := HFW5.out i hi; have := HSZ.out; omega
          · have := HLB.out; omega
        have HS7 := Lib.hid (show w6.heap.size ≤ w7.heap.size from hk7.size)
        have HVL := Lib.hid (fun g hg => (hownV.lt g hg).2)
        have HB4 := Lib.hid (show w4.heap.size ≤ w7.heap.size from by have := HSR.out; have := HS56.out; have := hk7.size; have := HB46.out; omega)
        clear hownV hown11 hpG hpb hbb hk7 hownb
        have hA := World.grownBy_alloc w7 (.cells #[.slice Ab (1 + Mx) cb] 22) u11.ownBlock
        have hg117 := h117.alloc (.cells #[.slice Ab (1 + Mx) cb] 22)
        have hrd := Reads.of_alloc w7 #[.slice Ab (1 + Mx) cb] 22 (B := w7.heap.size + 1) (n := 1) (by omega) rfl
        go_wp2_with (at_builtin; refine wpList_append_any _ rfl (.tmp 65) (.tmp 67) 36 rfl w4.heap.size 22 j0 (.slice none 0 0) 1 24 Try.underlying36 ji jz0 jz1 jz2 rfl (by decide) _ _ _ rfl hg117 _ _ 1 1 _ rfl hrd (by intro u hu; simp at hu; subst hu; rfl) (by unfold maxLen; omega) (by omega) (by have := HB4.out; simp; omega) ?_)
        intro v11 w8 hown11' hg8 hvb
        have hg8' := hA.trans hg8
        have hk8 : Kept (fun i => u11.ownBlock = some i) w7 w8 := Kept.of_grown hg8' fun g h => h
        have hvb' : v11.ownBlock = u11.ownBlock ∨ v11.ownBlock = some (w7.heap.size + 1) := by simpa using hvb
        have HVB := Lib.hid hvb'
        have hL8 := hL7.keptF hk8 fun i hi h => by
          have h1 := H115.out i h
          have h2 := H11L.out i h
          have := HSR.out
          have := HS56.out
          rcases hi with hi | hi
          · rcases hi.1 with hi | hi
            · exact h1.1 hi
            · omega
          · exact h1.2 hi
        have hV8 := own_keptF hV7 hk8 fun g hg h => (HV.out g hg).2.2 h
        have hp8 := (hp7.mono (G' := fun i => (G i ∧ i < wr.heap.size) ∨ (wr.heap.size ≤ i ∧ i < w5.heap.size)) fun i _ h => .inl h).snoc (hpb7.mono fun i _ h => .inr h)
        have hp8 := hp8.keptF hk8 fun i _ hg h => by
          rcases hg with hg | hg
          · exact (HG5.out i hg).2.2 h
          · have := H11L.out i h; omega
        have hbb8 := hk8.below hbb7 hbb7.size fun i h => by have := (h117.lt i h).1; have := HB4L.out; omega
        have HLT8 := Lib.hid (show w7.heap.size ≤ w8.heap.size from hk8.size)
        clear hA hg8 hg8' hk8 hvb hvb' hL7 hV7 h117 hp7 hpb7 hbb7 hg117 hrd
        go_wp2_with fail
        go_roundw
        case rel =>
          have hz1' : (0 : Int) ≤ z + ((1 + Mx + 8 : Nat) : Int) := by omega
          rw [← dat_snoc, HX.out, ← HST.out] at hL8
          rw [HX.out, ← HST.out] at hp8
          refine ⟨k + 1, z + ((1 + Mx + 8 : Nat) : Int), _, _, _, by omega, by go_num, by omega, by omega, hL8, hV8, (show ∀ g, _ from fun g hg => ⟨?_, (HV.out g hg).2.1, ?_⟩), hown11', (show ∀ g, _ from fun g hg => ?_), hp8, (show ∀ i, _ from fun i _ hg => ?_), hbb8⟩
          · rintro ⟨h | h, _⟩
            · exact (HV5.out g hg).1 h
            · have := HVL.out g hg; omega
          · intro h
            rcases HVB.out with e | e
            · rw [e] at h; exact (HV.out g hg).2.2 h
            · rw [e] at h; injection h with h; have := HVL.out g hg; have := HS7.out; omega
          · rcases HVB.out with e | e
            · rw [e] at hg
              refine ⟨?_, (H115.out g hg).2⟩
              rintro ⟨h | h, _⟩
              · exact (H115.out g hg).1 h
              · have := H11L.out g hg; have := HSR.out; have := HS56.out; omega
            · rw [e] at hg; injection hg with hg
              refine ⟨fun h => ?_, ?_⟩
              · have := h.2; omega
              · have := HLBR.out; have := HSR.out; have := HS56.out; have := HS7.out; omega
          · have h5 : i < w5.heap.size := by
              rcases hg with hg | hg
              · have := HSR.out; omega
              · exact hg.2
            refine ⟨?_, ?_, ?_⟩
            · rintro ⟨h | h, _⟩
              · rcases hg with hg | hg
                · exact (HG5.out i hg).1 h
                · exact HFB5.out i hg.1 hg.2 h
              · have := HS56.out; omega
            · rcases hg with hg | hg
              · exact (HG5.out i hg).2.1
              · have := HLBR.out; omega
            · intro h
              rcases HVB.out with e | e
              · rw [e] at h
                rcases hg with hg | hg
                · exact (HG5.out i hg).2.2 h
                · have := H11L.out i h; omega
              · rw [e] at h; injection h with h; have := HS56.out; have := HS7.out; omega
        case measure => simp [intOf]; omega
      · have b1 : ((k : Int) == (n1 : Int)) = false := by simp; omega
        rw [← sK_other n1 k ls hkn1] at hLr
        have hL5 := hLr
        clear hkn1 hLr
        have HS56 := Lib.hid (Nat.le_refl w5.heap.size)
        have HV5 := Lib.hid (show ∀ g, (Value.slice (some ⟨bo, oo, none⟩) M c6).ownBlock = some g → ¬ F g ∧ g ≠ lb from fun g hg => ⟨(HV.out g hg).1, (HV.out g hg).2.1⟩)
        have H115 := Lib.hid (show ∀ g, u11.ownBlock = some g → ¬ F g ∧ g ≠ lb from fun g hg => H11.out g hg)
        have HFB5 := Lib.hid (show ∀ i, wr.heap.size ≤ i → i < w5.heap.size → ¬ F i from fun i h1 _ => HFB.out i h1)
        have HG5 := Lib.hid (show ∀ i, G i ∧ i < wr.heap.size → ¬ F i ∧ i ≠ lb ∧ u11.ownBlock ≠ some i from fun i hg => HGL.out i hg.2 hg.1)
        have HFW5 := HFW
        have hla := lapp_any w1.heap.size (w1.heap.size + 1) w1.heap.size k F (sysK (dat ((ls.take k).map payK)) (sK n1 (k + 1) ls)) lb logN k z false Ab (1 + Mx) cb _ (payK x) w5 hL5 (Reads.of_own hownb) (Nat.le_refl _) HPB.out logN_size (by unfold maxLen; omega) (by omega) (by omega) (by omega) (by omega)
        rw [lapp_sys _ (payK x) _ _ _ (by rw [HPB.out]; omega) (by rw [HPB.out]; omega) (by have := HDL.out; rw [HPB.out]; omega) HS0.out, HPB.out] at hla
        simp only [errV_zero] at hla
        clear hL5
        go_wp2_with fail
        refine hla.mono ?_
        clear hla
        rintro e w7 ⟨rfl, hL7, hk7⟩
        have hV7 := own_keptF hownV hk7 fun g hg hf => by
          rcases hf with hf | hf
          · exact (HV5.out g hg).1 hf
          · exact (HV5.out g hg).2 hf
        have h117 := own_keptF hown11 hk7 fun g hg hf => by
          rcases hf with hf | hf
          · exact (H115.out g hg).1 hf
          · exact (H115.out g hg).2 hf
        have hp7 := hpG.keptF hk7 fun i _ hg hf => by
          rcases hf with hf | hf
          · exact (HG5.out i hg).1 hf
          · exact (HG5.out i hg).2.1 hf
        have hpb7 := hpb.keptF hk7 fun i _ hg hf => by
          rcases hf with hf | hf
          · exact HFB5.out i hg.1 hg.2 hf
          · have := HLBR.out; omega
        have hbb7 := hk7.below hbb hbb.size fun i hi => by
          rcases hi with hi | hi
          · have := HFW5.out i hi; have := HSZ.out; omega
          · have := HLB.out; omega
        have HS7 := Lib.hid (show w5.heap.size ≤ w7.heap.size from hk7.size)
        have HVL := Lib.hid (fun g hg => (hownV.lt g hg).2)
        have HB4 := Lib.hid (show w4.heap.size ≤ w7.heap.size from by have := HSR.out; have := HS56.out; have := hk7.size; have := HB46.out; omega)
        clear hownV hown11 hpG hpb hbb hk7 hownb
        have hA := World.grownBy_alloc w7 (.cells #[.slice Ab (1 + Mx) cb] 22) u11.ownBlock
        have hg117 := h117.alloc (.cells #[.slice Ab (1 + Mx) cb] 22)
        have hrd := Reads.of_alloc w7 #[.slice Ab (1 + Mx) cb] 22 (B := w7.heap.size + 1) (n := 1) (by omega) rfl
        go_wp2_with (at_builtin; refine wpList_append_any _ rfl (.tmp 65) (.tmp 67) 36 rfl w4.heap.size 22 j0 (.slice none 0 0) 1 24 Try.underlying36 ji jz0 jz1 jz2 rfl (by decide) _ _ _ rfl hg117 _ _ 1 1 _ rfl hrd (by intro u hu; simp at hu; subst hu; rfl) (by unfold maxLen; omega) (by omega) (by have := HB4.out; simp; omega) ?_)
        intro v11 w8 hown11' hg8 hvb
        have hg8' := hA.trans hg8
        have hk8 : Kept (fun i => u11.ownBlock = some i) w7 w8 := Kept.of_grown hg8' fun g h => h
        have hvb' : v11.ownBlock = u11.ownBlock ∨ v11.ownBlock = some (w7.heap.size + 1) := by simpa using hvb
        have HVB := Lib.hid hvb'
        have hL8 := hL7.keptF hk8 fun i hi h => by
          have h1 := H115.out i h
          have h2 := H11L.out i h
          have := HSR.out
          have := HS56.out
          rcases hi with hi | hi
          · rcases hi.1 with hi | hi
            · exact h1.1 hi
            · omega
          · exact h1.2 hi
        have hV8 := own_keptF hV7 hk8 fun g hg h => (HV.out g hg).2.2 h
        have hp8 := (hp7.mono (G' := fun i => (G i ∧ i < wr.heap.size) ∨ (wr.heap.size ≤ i ∧ i < w5.heap.size)) fun i _ h => .inl h).snoc (hpb7.mono fun i _ h => .inr h)
        have hp8 := hp8.keptF hk8 fun i _ hg h => by
          rcases hg with hg | hg
          · exact (HG5.out i hg).2.2 h
          · have := H11L.out i h; omega
        have hbb8 := hk8.below hbb7 hbb7.size fun i h => by have := (h117.lt i h).1; have := HB4L.out; omega
        have HLT8 := Lib.hid (show w7.heap.size ≤ w8.heap.size from hk8.size)
        clear hA hg8 hg8' hk8 hvb hvb' hL7 hV7 h117 hp7 hpb7 hbb7 hg117 hrd
        go_wp2_with fail
        go_roundw
        case rel =>
          have hz1' : (0 : Int) ≤ z + ((1 + Mx + 8 : Nat) : Int) := by omega
          rw [← dat_snoc, HX.out, ← HST.out] at hL8
          rw [HX.out, ← HST.out] at hp8
          refine ⟨k + 1, z + ((1 + Mx + 8 : Nat) : Int), _, _, _, by omega, by go_num, by omega, by omega, hL8, hV8, (show ∀ g, _ from fun g hg => ⟨?_, (HV.out g hg).2.1, ?_⟩), hown11', (show ∀ g, _ from fun g hg => ?_), hp8, (show ∀ i, _ from fun i _ hg => ?_), hbb8⟩
          · rintro ⟨h | h, _⟩
            · exact (HV5.out g hg).1 h
            · have := HVL.out g hg; omega
          · intro h
            rcases HVB.out with e | e
            · rw [e] at h; exact (HV.out g hg).2.2 h
            · rw [e] at h; injection h with h; have := HVL.out g hg; have := HS7.out; omega
          · rcases HVB.out with e | e
            · rw [e] at hg
              refine ⟨?_, (H115.out g hg).2⟩
              rintro ⟨h | h, _⟩
              · exact (H115.out g hg).1 h
              · have := H11L.out g hg; have := HSR.out; have := HS56.out; omega
            · rw [e] at hg; injection hg with hg
              refine ⟨fun h => ?_, ?_⟩
              · have := h.2; omega
              · have := HLBR.out; have := HSR.out; have := HS56.out; have := HS7.out; omega
          · have h5 : i < w5.heap.size := by
              rcases hg with hg | hg
              · have := HSR.out; omega
              · exact hg.2
            refine ⟨?_, ?_, ?_⟩
            · rintro ⟨h | h, _⟩
              · rcases hg with hg | hg
                · exact (HG5.out i hg).1 h
                · exact HFB5.out i hg.1 hg.2 h
              · have := HS56.out; omega
            · rcases hg with hg | hg
              · exact (HG5.out i hg).2.1
              · have := HLBR.out; omega
            · intro h
              rcases HVB.out with e | e
              · rw [e] at h
                rcases hg with hg | hg
                · exact (HG5.out i hg).2.2 h
                · have := H11L.out i h; omega
              · rw [e] at h; injection h with h; have := HS56.out; have := HS7.out; omega
        case measure => simp [intOf]; omega
    · have hkM' : k = M := by omega
      have hkn0 : ¬ (k : Int) < (M : Int) := by omega
      have hTK : ls.take k = ls := List.take_of_length_le (by rw [HLS.out]; omega)
      rw [hTK] at hLr hpG
      obtain ⟨P, hP⟩ : ∃ P, P = ls.map payK := ⟨_, rfl⟩
      rw [← hP] at hLr hpG
      have HP := Lib.hid hP
      have HPK := Lib.hid (show ∀ p ∈ P, 1 ≤ p.length ∧ p.length ≤ 1048576 from fun p hp => by
        rw [hP] at hp
        obtain ⟨x, _, rfl⟩ := List.mem_map.1 hp
        have := payK_len x
        omega)
      have HPL := Lib.hid (show P.length = k by rw [hP, List.length_map, HLS.out]; omega)
      have HN1 := Lib.hid (show n1 ≤ P.length by have := HPL.out; have := HM.out; omega)
      have HPT := Lib.hid (show P.take n1 = (ls.take n1).map payK by rw [hP, List.map_take])
      have HKB := Lib.hid hk
      have HW := Lib.hid (show ∀ i, F i → w.heap.size ≤ i by
        obtain ⟨⟨_, _, _, _, h, _⟩, _⟩ := hLr
        intro i hi
        have := h i hi
        have := HSZ.out
        omega)
      have H11L := Lib.hid (fun g hg => (hown11.lt g hg).2)
      have HKM := Lib.hid hkM'
      have hbs := Lib.hid hb.size
      have HLR := Lib.hid hLr.lt
      have hpG := hpG.mono (G' := fun i => G i ∧ i < wr.heap.size) fun i h1 h2 => ⟨h2, h1⟩
      clear hP hTK hkM' hk hown6 hownV hlt hb4 hL6
      by_cases h2 : n2 = 0
      · have b2 : ((n2 : Int) == 0) = true := by simpa using h2
        have hls := lsync_any w1.heap.size (w1.heap.size + 1) w1.heap.size k F (sysK (dat P) (sK n1 k ls)) lb logN k z false wr hLr logN_size
        rw [lsync_sys _ _ _ (by have := dat_take_nil ls k (by rw [HLS.out]; omega); rw [List.take_of_length_le (by rw [HLS.out, HKM.out]; exact Nat.le_refl _), ← HP.out] at this; exact this)] at hls
        simp only [errV_zero] at hls
        clear hLr h2
        go_wp2_with fail
        refine hls.mono ?_
        clear hls
        rintro e w9 ⟨rfl, hL9, hk9⟩
        have ho9 := own_keptF hown11 hk9 fun g hg hf => by
          rcases hf with hf | hf
          · exact (H11.out g hg).1 hf
          · exact (H11.out g hg).2 hf
        have hp9 := hpG.keptF hk9 fun i _ hg hf => by
          rcases hf with hf | hf
          · exact (HG.out i hg.2 hg.1).1 hf
          · exact (HG.out i hg.2 hg.1).2.1 hf
        have hbb9 := hk9.below hb hb.size fun i hi => by
          rcases hi with hi | hi
          · exact HW.out i hi
          · have := HLB.out; omega
        have HSR := Lib.hid hk9.size
        obtain ⟨F9, hF9, hL9⟩ : ∃ F9 : Nat → Prop, Hid (∀ i, F9 i → F i ∨ wr.heap.size ≤ i) ∧ LogM w9 w1.heap.size F9 (w1.heap.size + 1) w1.heap.size k (sysK (dat P) (dat P).length) lb logN k z false := ⟨_, (show ∀ i, _ from fun i hi => hi.1), hL9⟩
        obtain ⟨s9, hs9⟩ : ∃ s9, s9 = (dat P).length := ⟨_, rfl⟩
        have HS9 := Lib.hid (show (dat (P.take n1)).length ≤ s9 ∧ s9 ≤ (dat P).length from ⟨by rw [hs9]; exact dat_split P n1, by omega⟩)
        rw [← hs9] at hL9
        have H9 := Lib.hid (show ∀ g, u11.ownBlock = some g → ¬ F9 g ∧ True from fun g hg => ⟨fun h => by
          rcases hF9.out g h with h | h
          · exact (H11.out g hg).1 h
          · have := H11L.out g hg; omega, trivial⟩)
        have HG9 := Lib.hid (show ∀ i, G i ∧ i < wr.heap.size → ¬ F9 i from fun i hg h => by
          rcases hF9.out i h with h | h
          · exact (HG.out i hg.2 hg.1).1 h
          · omega)
        have HGS := Lib.hid (show ∀ i, G i ∧ i < wr.heap.size → i < w9.heap.size from fun i hg => by have := HSR.out; omega)
        have HW9 := Lib.hid (show ∀ i, F9 i → w.heap.size ≤ i from fun i h => by
          rcases hF9.out i h with h | h
          · exact HW.out i h
          · have := hbs.out; omega)
        clear hs9 hk9 hb hown11 hpG
        go_wp2_with fail
        have hr9 := Reads.of_alloc w9 #[.int .i64 keep] 3 (B := w9.heap.size + 1) (n := 1) (by omega) rfl
        have hq9 := (Below.refl w9.heap.size w9).alloc (Nat.le_refl _) (.cells #[.int .i64 keep] 3)
        have hcr := crash_any w1.heap.size (w1.heap.size + 1) w1.heap.size k F9 (sysK (dat P) s9) _ 1 1 _ [keep] _ (hL9.1.below hq9) hr9 (by simp) (fun ad e _ hf => by
          injection e with e
          subst e
          have := hL9.2.2.2.2 _ hf
          simp at this) (Nat.le_refl _) (sysK_files _ _).1 (sysK_files _ _).2 (by intro x hx; simp at hx; subst hx; exact HKB.out) (fun i hi => by have := hL9.2.2.2.2 i hi; simp; omega)
        have HF9 := Lib.hid hL9.2.2.2.2
        have HB9 := Lib.hid (hbb9.alloc hbb9.size (.cells #[.int .i64 keep] 3))
        have ho9 := own_below ho9 hq9
        have hp9 := hp9.keptF (F := fun _ => False) (Kept.of_below hq9) fun _ _ _ h => h
        clear hL9 hr9 hq9 hbb9
        go_wp2_with fail
        refine hcr.mono ?_
        clear hcr
        rintro e w10 ⟨rfl, hS10, hk10⟩
        have hb10 := hk10.below HB9.out (by have := HB9.out.size; simp at this ⊢; omega) fun i hi => HW9.out i hi
        have ho10 := own_keptF ho9 hk10 fun g hg hf => (H9.out g hg).1 hf
        have hp10 := hp9.keptF hk10 fun i _ hg hf => HG9.out i hg hf
        have HS10 := Lib.hid (show w9.heap.size ≤ w10.heap.size by have := hk10.size; simp at this; omega)
        have hop := open_any w1.heap.size (w1.heap.size + 1) w1.heap.size k F9 _ logN w10 hS10 (fun i hi => by have := HF9.out i hi; have := HS10.out; omega) logN_valid
        obtain ⟨m, hm1, hm2, st', hopn⟩ := crash_open (dat P) s9 [keep] HS9.out.2
        obtain ⟨j, hj, hfj, hji⟩ := frames_cut P m HPK.out
        have hjn : n1 ≤ j := hji n1 HN1.out (Nat.le_trans HS9.out.1 hm1)
        obtain ⟨K, hK⟩ : ∃ K, frames ((dat P).take m) = (P.take j, K) := ⟨_, Prod.ext hfj rfl⟩
        rw [hopn, hK] at hop
        unfold OpenEnd at hop
        simp only at hop
        obtain ⟨Q, hQ⟩ : ∃ Q, Q = P.take j := ⟨_, rfl⟩
        rw [← hQ] at hop
        have hQl : Q.length = j := by rw [hQ, List.length_take]; omega
        have HQ := Lib.hid hQ
        have HQL := Lib.hid hQl
        have q1 : n1 ≤ Q.length := by omega
        have q2 : Q.length ≤ k := by rw [hQl]; have := HPL.out; omega
        have d1 : decide ((Q.length : Int) < (n1 : Int)) = false := by simp; omega
        have d2 : decide ((k : Int) < (Q.length : Int)) = false := by simp; omega
        clear hQ hQl hfj hji hK hopn hm1 hm2 hjn ho9 hp9 hS10 hk10 hj
        go_wp2_with fail
        refine hop.mono ?_
        clear hop
        rintro e w11 ⟨wn, An, cn, vsn, lb2, rfl, hbn, hrown, hpayn, hlb2, hlbm2, hLn, hkn⟩
        have hFn : ∀ i, F9 i ∨ i = lb2 → i < lb2 + 1 ∨ wn.heap.size ≤ i := fun i hi => by
          rcases hi with h | h
          · have := HF9.out i h; have := HS10.out; omega
          · omega
        have hLLn : LL w11 (.slice An Q.length cn) Q := LL.of_own (own_keptF hrown hkn fun g hg hf => by have := hFn g hf; have := hrown.lt g hg; omega) (hpayn.keptF hkn hFn).ok
        have ho11 := own_keptF (own_below ho10 hbn) hkn fun g hg hf => by
          rcases hf with hf | hf
          · exact (H9.out g hg).1 hf
          · have := (ho10.lt g hg).2; omega
        have hp11 := (hp10.keptF (F := fun _ => False) (Kept.of_below hbn) fun _ _ _ h => h).keptF hkn fun i _ hg hf => by
          rcases hf with hf | hf
          · exact HG9.out i hg hf
          · have := HGS.out i hg; have := HS10.out; omega
        have hb11 := hkn.below (hb10.trans (hbn.mono hb10.size)) (Nat.le_trans hb10.size hbn.size) fun i hi => by
          rcases hi with hi | hi
          · exact HW9.out i hi
          · have := hb10.size; omega
        obtain ⟨A11, c11, rfl⟩ := own_form ho11
        have hkc := own_le ho11
        have hLLa : LL w11 (.slice A11 Q.length c11) Q := ⟨A11, c11, vs.take Q.length, rfl, by omega, (Reads.of_own ho11).take_ q2, by
          have h := (hp11.take Q.length).ok
          rw [show P.take Q.length = Q by rw [HQL.out]; exact HQ.out.symm] at h
          exact h⟩
        have hslc := fun W => slice_rows A11 k c11 Q.length (by omega) W
        have hblk := hLn.2.1
        clear hFn ho11 hp11 ho10 hp10 hb10 hbn hrown hpayn hkn hLn hlb2 hlbm2
        go_wp2_with fail
        refine (llen_any lb2 _ logN _ _ _ w11 hblk).mono ?_
        rintro e w' ⟨rfl, rfl⟩
        clear hblk
        go_wp2_with fail
        refine (same_any _ _ _ _ w11 hLLn hLLa (by omega)).mono ?_
        intro e w12 h
        obtain ⟨rfl, hq⟩ := h.to
        have hb12 := hb11.trans (hq.mono hb11.size)
        clear h hq hLLn hLLa hb11
        go_wp2_with fail
        go_ret
        exact ⟨rfl, hb12⟩
      · have b2 : ((n2 : Int) == 0) = false := by simpa using h2
        have hs9 : sK n1 k ls = (dat (P.take n1)).length := by
          unfold sK
          rw [if_neg (by have := HM.out; have := HKM.out; omega), HPT.out]
        rw [hs9] at hLr
        obtain ⟨s9, hs⟩ : ∃ s9, s9 = (dat (P.take n1)).length := ⟨_, rfl⟩
        have HS9 := Lib.hid (show (dat (P.take n1)).length ≤ s9 ∧ s9 ≤ (dat P).length from ⟨by omega, by rw [hs]; exact dat_split P n1⟩)
        rw [← hs] at hLr
        have hL9 := hLr
        have ho9 := hown11
        have hp9 := hpG
        have hbb9 := hb
        have H9 := Lib.hid (show ∀ g, u11.ownBlock = some g → ¬ F g ∧ True from fun g hg => ⟨(H11.out g hg).1, trivial⟩)
        have HG9 := Lib.hid (show ∀ i, G i ∧ i < wr.heap.size → ¬ F i from fun i hg h => (HG.out i hg.2 hg.1).1 h)
        have HGS := Lib.hid (show ∀ i, G i ∧ i < wr.heap.size → i < wr.heap.size from fun i hg => hg.2)
        have HW9 := HW
        clear hs9 hs hLr hb hown11 hpG h2
        go_wp2_with fail
        have hr9 := Reads.of_alloc wr #[.int .i64 keep] 3 (B := wr.heap.size + 1) (n := 1) (by omega) rfl
        have hq9 := (Below.refl wr.heap.size wr).alloc (Nat.le_refl _) (.cells #[.int .i64 keep] 3)
        have hcr := crash_any w1.heap.size (w1.heap.size + 1) w1.heap.size k F (sysK (dat P) s9) _ 1 1 _ [keep] _ (hL9.1.below hq9) hr9 (by simp) (fun ad e _ hf => by
          injection e with e
          subst e
          have := hL9.2.2.2.2 _ hf
          simp at this) (Nat.le_refl _) (sysK_files _ _).1 (sysK_files _ _).2 (by intro x hx; simp at hx; subst hx; exact HKB.out) (fun i hi => by have := hL9.2.2.2.2 i hi; simp; omega)
        have HF_ := Lib.hid hL9.2.2.2.2
        have HB9 := Lib.hid (hbb9.alloc hbb9.size (.cells #[.int .i64 keep] 3))
        have ho9 := own_below ho9 hq9
        have hp9 := hp9.keptF (F := fun _ => False) (Kept.of_below hq9) fun _ _ _ h => h
        clear hL9 hr9 hq9 hbb9
        go_wp2_with fail
        refine hcr.mono ?_
        clear hcr
        rintro e w10 ⟨rfl, hS10, hk10⟩
        have hb10 := hk10.below HB9.out (by have := HB9.out.size; simp at this ⊢; omega) fun i hi => HW9.out i hi
        have ho10 := own_keptF ho9 hk10 fun g hg hf => (H9.out g hg).1 hf
        have hp10 := hp9.keptF hk10 fun i _ hg hf => HG9.out i hg hf
        have HS10 := Lib.hid (show wr.heap.size ≤ w10.heap.size by have := hk10.size; simp at this; omega)
        have hop := open_any w1.heap.size (w1.heap.size + 1) w1.heap.size k F _ logN w10 hS10 (fun i hi => by have := HF_.out i hi; have := HS10.out; omega) logN_valid
        obtain ⟨m, hm1, hm2, st', hopn⟩ := crash_open (dat P) s9 [keep] HS9.out.2
        obtain ⟨j, hj, hfj, hji⟩ := frames_cut P m HPK.out
        have hjn : n1 ≤ j := hji n1 HN1.out (Nat.le_trans HS9.out.1 hm1)
        obtain ⟨K, hK⟩ : ∃ K, frames ((dat P).take m) = (P.take j, K) := ⟨_, Prod.ext hfj rfl⟩
        rw [hopn, hK] at hop
        unfold OpenEnd at hop
        simp only at hop
        obtain ⟨Q, hQ⟩ : ∃ Q, Q = P.take j := ⟨_, rfl⟩
        rw [← hQ] at hop
        have hQl : Q.length = j := by rw [hQ, List.length_take]; omega
        have HQ := Lib.hid hQ
        have HQL := Lib.hid hQl
        have q1 : n1 ≤ Q.length := by omega
        have q2 : Q.length ≤ k := by rw [hQl]; have := HPL.out; omega
        have d1 : decide ((Q.length : Int) < (n1 : Int)) = false := by simp; omega
        have d2 : decide ((k : Int) < (Q.length : Int)) = false := by simp; omega
        clear hQ hQl hfj hji hK hopn hm1 hm2 hjn ho9 hp9 hS10 hk10 hj
        go_wp2_with fail
        refine hop.mono ?_
        clear hop
        rintro e w11 ⟨wn, An, cn, vsn, lb2, rfl, hbn, hrown, hpayn, hlb2, hlbm2, hLn, hkn⟩
        have hFn : ∀ i, F i ∨ i = lb2 → i < lb2 + 1 ∨ wn.heap.size ≤ i := fun i hi => by
          rcases hi with h | h
          · have := HF_.out i h; have := HS10.out; omega
          · omega
        have hLLn : LL w11 (.slice An Q.length cn) Q := LL.of_own (own_keptF hrown hkn fun g hg hf => by have := hFn g hf; have := hrown.lt g hg; omega) (hpayn.keptF hkn hFn).ok
        have ho11 := own_keptF (own_below ho10 hbn) hkn fun g hg hf => by
          rcases hf with hf | hf
          · exact (H9.out g hg).1 hf
          · have := (ho10.lt g hg).2; omega
        have hp11 := (hp10.keptF (F := fun _ => False) (Kept.of_below hbn) fun _ _ _ h => h).keptF hkn fun i _ hg hf => by
          rcases hf with hf | hf
          · exact HG9.out i hg hf
          · have := HGS.out i hg; have := HS10.out; omega
        have hb11 := hkn.below (hb10.trans (hbn.mono hb10.size)) (Nat.le_trans hb10.size hbn.size) fun i hi => by
          rcases hi with hi | hi
          · exact HW9.out i hi
          · have := hb10.size; omega
        obtain ⟨A11, c11, rfl⟩ := own_form ho11
        have hkc := own_le ho11
        have hLLa : LL w11 (.slice A11 Q.length c11) Q := ⟨A11, c11, vs.take Q.length, rfl, by omega, (Reads.of_own ho11).take_ q2, by
          have h := (hp11.take Q.length).ok
          rw [show P.take Q.length = Q by rw [HQL.out]; exact HQ.out.symm] at h
          exact h⟩
        have hslc := fun W => slice_rows A11 k c11 Q.length (by omega) W
        have hblk := hLn.2.1
        clear hFn ho11 hp11 ho10 hp10 hb10 hbn hrown hpayn hkn hLn hlb2 hlbm2
        go_wp2_with fail
        refine (llen_any lb2 _ logN _ _ _ w11 hblk).mono ?_
        rintro e w' ⟨rfl, rfl⟩
        clear hblk
        go_wp2_with fail
        refine (same_any _ _ _ _ w11 hLLn hLLa (by omega)).mono ?_
        intro e w12 h
        obtain ⟨rfl, hq⟩ := h.to
        have hb12 := hb11.trans (hq.mono hb11.size)
        clear h hq hLLn hLLa hb11
        go_wp2_with fail
        go_ret
        exact ⟨rfl, hb12⟩
theorem wKeeps (A1 A2 : Option Addr) (n1 c1 n2 c2 : Nat) (ls1 ls2 : List (List UInt8)) (keep : Int) (w : World) (hL1 : LL w (.slice A1 n1 c1) ls1) (hL2 : LL w (.slice A2 n2 c2) ls2) (h1 : n1 ≤ 140737488355328) (h2 : n2 ≤ 140737488355328) (hk : (Lit.int .i64 keep).wf = true) :
    Calls Try.prog 8 #[.slice A1 n1 c1, .slice A2 n2 c2, .int .i64 keep] w (AwEnd w) := by
  by_cases hn : 30 < n1 + n2
  · exact keeps_long A1 A2 n1 c1 n2 c2 keep w hn (by omega) (by omega)
  · exact keeps_main A1 A2 n1 c1 n2 c2 ls1 ls2 keep w hL1 hL2 (by omega) (by simp [Lit.wf, IntKind.min, IntKind.max, IntKind.signed, IntKind.bits] at hk; omega)
end Go.Proofs.Ytcppmmdkblmfoaa
