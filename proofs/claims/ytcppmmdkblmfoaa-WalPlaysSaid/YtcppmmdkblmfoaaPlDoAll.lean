/- The walk of the player's do at a sync. The walk of the player's do at an append. The walk of the player's do at an append of nothing. The walk of the player's do at a crash. The player's do, whatever the act (all arms in one). -/
import Derived.Test.YtcppmmdkblmfoaaPlOpen
import Derived.Test.YtcppmmdkblmfoaaCrash
import Derived.Deep.RegionHeld3
namespace Go.Proofs.Ytcppmmdkblmfoaa
open Go.RowKit Go.WideMaps
def wr5 (w : World) (g : Nat) (b0 b1 b2 b3 b4 : Value) : World :=
  ((((w.setCell ⟨g, 2, none⟩ b0).setCell ⟨g, 3, none⟩ b1).setCell ⟨g, 4, none⟩ b2).setCell ⟨g, 5, none⟩ b3).setCell ⟨g, 6, none⟩ b4
set_option maxRecDepth 100000 in
set_option maxHeartbeats 2000000 in
theorem pdo_sync {w : World} {base : Nat} {F : Nat → Prop} {sb mb n pb : Nat} {G : Nat → Prop} {st : AS} {r : RL} {lv : Value} (h : PlM w base F sb mb n pb G st r lv) (hpb : base ≤ pb) (hlv : lv ≠ .pointer none)
    (k : Nat) (A : Option Addr) (nb cb : Nat) (x : Int) (hk : k % 8 = 4) (hk2 : k < 256) (N : Nat) (hN : (r.syn ++ r.more).length ≤ N) :
    Calls Try.prog 31 #[.pointer (some ⟨pb, 0, none⟩), actV k A nb cb x] w (PdEnd w base sb mb n pb N) := by
  have ht : ((k : Int).tmod 8) = 4 := by rw [Int.tmod_eq_emod_of_nonneg (by omega)]; omega
  obtain ⟨wa, hwa⟩ : ∃ wa, wa = w.alloc (.cells #[.int .u8 (k : Int), .slice A nb cb, .int .i64 x] 61) := ⟨_, rfl⟩
  have hba : Below w.heap.size w wa := by rw [hwa]; exact (Below.refl _ _).alloc (Nat.le_refl _) _
  have hbk : Blk wa w.heap.size 61 #[.int .u8 (k : Int), .slice A nb cb, .int .i64 x] := by rw [hwa]; exact Blk.new _ _ _
  have hbs := h.sys.base_le
  obtain ⟨G', h'⟩ := h.below hba
  obtain ⟨A1, n1, c1, A2, n2, c2, hblk, hp1, hp2⟩ := h'.blk
  have hlog := h'.log
  rcases hlog with h0 | ⟨hw, lb, c, z, rfl, hlb, hlF, hlp, hlG, hlbase, hc, hz⟩
  · exact absurd h0 hlv
  have hFB : ∀ i, F i → base ≤ i := by obtain ⟨_, _, _, _, h4, _⟩ := h'.sys; exact h4
  have hsl := sync_law h'.str hw hc
  have hls := lsync_any base sb mb n F st lb logN c z r.br wa ⟨h'.sys, hlb, hlF, hlbase, h'.cap⟩ logN_size
  obtain ⟨st', hst'⟩ : ∃ st', st' = (lsyncA st logN c r.br).1 := ⟨_, rfl⟩
  obtain ⟨br', hbr'⟩ : ∃ br', br' = (lsyncA st logN c r.br).2.1 := ⟨_, rfl⟩
  obtain ⟨code, hcode⟩ : ∃ code, code = (lsyncA st logN c r.br).2.2 := ⟨_, rfl⟩
  obtain ⟨r', hr'⟩ : ∃ r', r' = (rSync r).1 := ⟨_, rfl⟩
  obtain ⟨code', hcode'⟩ : ∃ code', code' = (rSync r).2 := ⟨_, rfl⟩
  have hrs := fun w' v (hv : RLM (fun i => G' i ∧ i < wa.heap.size) w' v r) => rsync_any _ v r w' hv h'.str.lo h'.str.hi (by have := h'.small; rw [List.length_append] at this; omega)
  simp only [← hst', ← hbr', ← hcode, ← hr', ← hcode'] at hsl hls hrs
  obtain ⟨hS', hdd, hbb, hcc⟩ := hsl
  have x0 := hbk.cell 0
  have p1 : wa.cell? ⟨pb, 1, none⟩ = some (.pointer (some ⟨lb, 0, none⟩)) := by have := hblk.cell 1; simpa using this
  simp only [List.getElem?_toArray, List.getElem?_cons_zero] at x0
  have HWA := Lib.hid hwa
  have HBA := Lib.hid (hba.mono hbs)
  have HP := Lib.hid h'
  have HFB := Lib.hid hFB
  have HBL := Lib.hid hblk
  have HN := Lib.hid hN
  have HSL := Lib.hid (show StR st' r' from hS')
  have HDD := Lib.hid hdd
  have HBB := Lib.hid (show br' = r'.br from hbb)
  have HCC := Lib.hid (show kcode code = code' from hcc)
  have HLG := Lib.hid (show Whole r ∧ ¬ F lb ∧ lb ≠ pb ∧ ¬ G' lb ∧ base ≤ lb ∧ c = ((frames (r.syn ++ r.more)).1.length : Int) ∧ z = ((frames (r.syn ++ r.more)).2 : Int) from ⟨hw, hlF, hlp, hlG, hlbase, hc, hz⟩)
  have HLL := Lib.hid hlb.lt
  have HRL := Lib.hid (show ∀ w', Kept (fun i => F i ∨ i = lb) wa w' → RLM (fun i => G' i ∧ i < wa.heap.size) w' (rlV (.slice A1 n1 c1) (.slice A2 n2 c2) r.left r.off r.br) r from fun w' hk => by
    have hd : ∀ i, i < wa.heap.size → G' i ∧ i < wa.heap.size → ¬ (F i ∨ i = lb) := fun i _ hg h => by
      rcases h with h | h
      · exact (h'.gF i hg.1).1 h
      · exact hlG (h ▸ hg.1)
    exact ⟨A1, n1, c1, A2, n2, c2, rfl, (hp1.mono (fun i hi hg => ⟨hg, hi⟩)).keptF hk hd, (hp2.mono (fun i hi hg => ⟨hg, hi⟩)).keptF hk hd⟩)
  clear hwa h h' hba hbk hk hblk hp1 hp2 hFB hN hw hlb hlF hlp hlG hlbase hc hz hS' hdd hbb hcc hst' hbr' hcode hr' hcode'
  unfold actV
  go_enter Try.func31, Try.ntmps31
  go_upto_region 1 with (fail)
  rw [← HWA.out]
  go_wp2_with fail
  refine hls.mono ?_
  rintro e w1 ⟨rfl, hL1, hk1⟩
  clear hls x0 p1
  have hnp : ¬ (F pb ∨ pb = lb) := fun h => by
    rcases h with h | h
    · exact HP.out.pbF h
    · exact HLG.out.2.2.1 h.symm
  have hkp := HBL.out.kept hk1 hnp
  have hrs1 := hrs w1 _ (HRL.out w1 hk1)
  unfold rlV at hrs1
  have HL1 := Lib.hid hL1
  have HK1 := Lib.hid hk1
  have HPL := Lib.hid (show pb < wa.heap.size from HBL.out.lt)
  have HS1 := Lib.hid hk1.size
  clear hrs hL1 hk1 hnp
  have x2 := hkp.cell 2
  have x3 := hkp.cell 3
  have x4 := hkp.cell 4
  have x5 := hkp.cell 5
  have x6 := hkp.cell 6
  simp only [List.getElem?_toArray, List.getElem?_cons_zero, List.getElem?_cons_succ] at x2 x3 x4 x5 x6
  go_wp2_with fail
  refine hrs1.mono ?_
  rintro e w2 ⟨v, rfl, ⟨A3, n3, c3, A4, n4, c4, rfl, hp3, hp4⟩, hb2⟩
  unfold rlV
  clear hrs1 x2 x3 x4 x5 x6
  have hkq := hkp.below hb2 hkp.lt
  clear hkp
  have z2 := hkq.cell 2
  have z3 := hkq.cell 3
  have z4 := hkq.cell 4
  have z5 := hkq.cell 5
  have z6 := hkq.cell 6
  simp only [List.getElem?_toArray, List.getElem?_cons_zero, List.getElem?_cons_succ] at z2 z3 z4 z5 z6
  have y2 := hkq.frozen 2
  have y3 := hkq.frozen 3
  have y4 := hkq.frozen 4
  have y5 := hkq.frozen 5
  have y6 := hkq.frozen 6
  go_upto_region 6 with (fail)
  obtain ⟨w3, hw3⟩ : ∃ w3, w3 = wr5 w2 pb (.slice A3 n3 c3) (.slice A4 n4 c4) (.int .i64 r'.left) (.bool r'.off) (.bool r'.br) := ⟨_, rfl⟩
  have hkr : Blk w3 pb 59 #[.pointer (some ⟨sb, 0, none⟩), .pointer (some ⟨lb, 0, none⟩), .slice A3 n3 c3, .slice A4 n4 c4, .int .i64 r'.left, .bool r'.off, .bool r'.br] := by
    have := ((((hkq.set_ 2 (.slice A3 n3 c3)).set_ 3 (.slice A4 n4 c4)).set_ 4 (.int .i64 r'.left)).set_ 5 (.bool r'.off)).set_ 6 (.bool r'.br)
    rw [hw3]
    simpa [wr5] using this
  have hk23 : Kept (fun i => i = pb) w2 w3 := by
    rw [hw3]
    exact ((((kept_set w2 pb 2 _).trans ((kept_set _ pb 3 _).mono fun _ hi => .inl hi)).trans ((kept_set _ pb 4 _).mono fun _ hi => .inl hi)).trans ((kept_set _ pb 5 _).mono fun _ hi => .inl hi)).trans ((kept_set _ pb 6 _).mono fun _ hi => .inl hi)
  unfold wr5 at hw3
  rw [← hw3]
  clear hw3 z2 z3 z4 z5 z6 y2 y3 y4 y5 y6 hkq
  have hk13 : Kept (fun i => i = pb) w1 w3 := (Kept.of_below hb2).trans (hk23.mono fun _ hi => .inl hi)
  have hkind := kind_any code w3
  rw [HCC.out] at hkind
  have HKR := Lib.hid hkr
  have HP3 := Lib.hid hp3
  have HP4 := Lib.hid hp4
  clear hkr hp3 hp4
  go_wp2_with fail
  refine hkind.mono ?_
  rintro e w4 ⟨rfl, rfl⟩
  clear hkind
  go_wp2_with fail
  go_ret
  have hp := HP.out
  have hS1 := HS1.out
  have hL := HL1.out
  have hlg := HLG.out
  have hpl := HPL.out
  have hb1 : Below base wa w1 := HK1.out.below (Below.refl base wa) hp.sys.base_le fun i hi => by
    rcases hi with h | h
    · exact HFB.out i h
    · rw [h]; exact hlg.2.2.2.2.1
  have hb3 : Below base wa w3 := hk13.below hb1 (Nat.le_trans hp.sys.base_le hS1) fun i hi => by have : i = pb := hi; omega
  have hFp : ¬ Cap F wa.heap.size w1.heap.size pb := fun hf => by
    rcases hf.1 with h | h
    · exact hp.pbF h
    · omega
  have hg : ∀ i, ((G' i ∧ i < wa.heap.size) ∨ w1.heap.size ≤ i) → ¬ i = pb := fun i hi e => by
    rcases hi with h | h
    · exact (hp.gF i h.1).2 e
    · omega
  refine ⟨by simp, HBA.out.trans hb3, Cap F wa.heap.size w1.heap.size, fun i => (G' i ∧ i < wa.heap.size) ∨ w1.heap.size ≤ i, st', r', .pointer (some ⟨lb, 0, none⟩),
    ⟨hL.1.kept hk13 fun i hi e => hFp (e ▸ hi), fun i hi => Nat.lt_of_lt_of_le hi.2 hk13.size, HSL.out, ⟨A3, n3, c3, A4, n4, c4, HKR.out, HP3.out.keptF hk23 fun i _ hi => hg i hi, HP4.out.keptF hk23 fun i _ hi => hg i hi⟩, hFp, ?_, .inr ⟨?_, lb, c, z, rfl, ?_, hL.2.2.1, hlg.2.2.1, ?_, hlg.2.2.2.2.1, ?_, ?_⟩, ?_⟩, ?_⟩
  · intro i hi
    refine ⟨fun hf => ?_, hg i hi⟩
    rcases hi with h | h
    · rcases hf.1 with h' | h'
      · exact (hp.gF i h.1).1 h'
      · omega
    · have := hf.2; omega
  · show (frames (r'.syn ++ r'.more)).2 = (r'.syn ++ r'.more).length
    rw [HDD.out]; exact hlg.1
  · have := hL.2.1
    rw [HBB.out] at this
    exact this.kept hk13 hlg.2.2.1
  · rintro (h | h)
    · exact hlg.2.2.2.1 h.1
    · have := HLL.out; omega
  · rw [HDD.out]; exact hlg.2.2.2.2.2.1
  · rw [HDD.out]; exact hlg.2.2.2.2.2.2
  · rw [HDD.out]; exact hp.small
  · rw [HDD.out]; exact HN.out
end Go.Proofs.Ytcppmmdkblmfoaa
namespace Go.Proofs.Ytcppmmdkblmfoaa
open Go.RowKit Go.WideMaps
theorem PlM.below1 {w w' : World} {base : Nat} {F : Nat → Prop} {sb mb n pb : Nat} {G : Nat → Prop} {st : AS} {r : RL} {lv : Value} (h : PlM w base F sb mb n pb G st r lv) (hb : Below w.heap.size w w') : PlM w' base F sb mb n pb G st r lv := by
  obtain ⟨A1, n1, c1, A2, n2, c2, hblk, hp1, hp2⟩ := h.blk
  have hk := Kept.of_below (F := fun _ => False) hb
  refine ⟨h.sys.below hb, fun i hi => Nat.lt_of_lt_of_le (h.cap i hi) hb.size, h.str, ⟨A1, n1, c1, A2, n2, c2, hblk.below hb hblk.lt, hp1.keptF hk fun _ _ _ h => h, hp2.keptF hk fun _ _ _ h => h⟩, h.pbF, h.gF, ?_, h.small⟩
  rcases h.log with h1 | ⟨hw, lb, c, z, h1, h2, h3⟩
  · exact .inl h1
  · exact .inr ⟨hw, lb, c, z, h1, h2.below hb h2.lt, h3⟩
set_option maxRecDepth 100000 in
set_option maxHeartbeats 4000000 in
theorem pdo_app {w : World} {base : Nat} {F : Nat → Prop} {sb mb n pb : Nat} {G : Nat → Prop} {st : AS} {r : RL} {lv : Value} (h : PlM w base F sb mb n pb G st r lv) (hpb : base ≤ pb) (hlv : lv ≠ .pointer none)
    (k j : Nat) (A : Option Addr) (nb cb B : Nat) (b : List UInt8) (x : Int) (hk : k % 8 = j) (hj : j < 4) (hk2 : k < 256) (hr : Reads w B 1 A nb (b.map byteV)) (hB : B ≤ w.heap.size) (hcb : nb ≤ cb) (hnz : 1 ≤ nb) (hn : n < maxLen) (N : Nat) (hN : (r.syn ++ r.more).length + 308 ≤ N) (hN2 : N ≤ 100000) :
    Calls Try.prog 31 #[.pointer (some ⟨pb, 0, none⟩), actV k A nb cb x] w (PdEnd w base sb mb (n + 1) pb N) := by
  obtain ⟨i0, hi, hz0, hz1, hz2⟩ := info_parts infoB
  have ht : ((k : Int).tmod 8) = (j : Int) := by rw [Int.tmod_eq_emod_of_nonneg (by omega)]; omega
  have e4 : ((j : Int) == 4) = false := by rw [beq_eq_false_iff_ne]; omega
  have e5 : ((j : Int) == 5) = false := by rw [beq_eq_false_iff_ne]; omega
  have e6 : ((j : Int) == 6) = false := by rw [beq_eq_false_iff_ne]; omega
  have e7 : ((j : Int) == 7) = false := by rw [beq_eq_false_iff_ne]; omega
  obtain ⟨M, hM⟩ : ∃ M, M = min nb 300 := ⟨_, rfl⟩
  have hmin : min (nb : Int) 300 = (M : Int) := by rw [hM]; omega
  have hM1 : 1 ≤ M := by omega
  have hM2 : M ≤ 300 := by omega
  have hMn : M ≤ nb := by omega
  have hm0 : ((M : Int) == 0) = false := by rw [beq_eq_false_iff_ne]; omega
  have hsl0 : ∀ W : World, (Instr.slice 22 (.slice A nb cb) none (some (.int .i64 (M : Int))) none).run Try.prog W = .ok (.slice A M cb) W := slice_to A nb cb M (by omega)
  obtain ⟨wa, hwa⟩ : ∃ wa, wa = w.alloc (.cells #[.int .u8 (k : Int), .slice A nb cb, .int .i64 x] 61) := ⟨_, rfl⟩
  have hba : Below w.heap.size w wa := by rw [hwa]; exact (Below.refl _ _).alloc (Nat.le_refl _) _
  have hbk : Blk wa w.heap.size 61 #[.int .u8 (k : Int), .slice A nb cb, .int .i64 x] := by rw [hwa]; exact Blk.new _ _ _
  have hbs := h.sys.base_le
  have h' := h.below1 hba
  have hq : Below wa.heap.size wa (wa.alloc (.cells #[] 5)) := (Below.refl _ _).alloc (Nat.le_refl _) _
  have hown : (wa.alloc (.cells #[] 5)).ownsRow wa.heap.size 5 1 (.slice (some ⟨wa.heap.size, 0, none⟩) 0 0) 0 [] := World.ownsRow_lit (e := 5) (size := 1) wa #[] 0 (Nat.le_refl _) (by decide) rfl
  have hrd : Reads (wa.alloc (.cells #[] 5)) B 1 A M ((b.take M).map byteV) := by
    rw [List.map_take]
    exact ((hr.below (hba.mono hB)).below (hq.mono (Nat.le_trans hB hba.size))).take_ hMn
  have hbl : (b.take M).length = M := by have := hr.1; rw [List.length_map] at this; rw [List.length_take]; omega
  have x0 := hbk.cell 0
  have x1 := (hbk.alloc (.cells #[] 5)).cell 1
  simp only [List.getElem?_toArray, List.getElem?_cons_zero, List.getElem?_cons_succ] at x0 x1
  have hs1 : 0 + M ≤ maxLen := by unfold maxLen; omega
  have hs2 : (0 + M) * 1 ≤ 140737488355328 := by omega
  have hs3 := hq.size
  have HWA := Lib.hid hwa
  have HBA := Lib.hid (hba.mono hbs)
  have HP := Lib.hid h'
  have HPA := Lib.hid h'
  have HLA := Lib.hid (show ∀ lb, lv = .pointer (some ⟨lb, 0, none⟩) → lb < wa.heap.size from fun lb e => by
    rcases h'.log with h1 | ⟨_, lb', _, _, h1, h2, _⟩
    · rw [e] at h1; cases h1
    · rw [e] at h1; cases h1; exact h2.lt)
  have HN := Lib.hid hN
  have HN2 := Lib.hid hN2
  have HBL := Lib.hid hbl
  have HWS := Lib.hid hba.size
  clear hwa h h' hba hbk hk hr hN hN2 hbl hM hcb
  unfold actV
  go_enter Try.func31, Try.ntmps31
  go_upto_region 1 with (fail)
  rw [← HWA.out]
  go_wp2_with (at_builtin; refine wpList_append_any _ rfl (.tmp 76) (.tmp 83) 22 rfl wa.heap.size 5 i0 (.int .u8 0) 1 1 Try.underlying22 hi hz0 hz1 hz2 rfl (by decide) _ _ _ rfl hown B A M cb ((b.take M).map byteV) rfl hrd (oneB _) hs1 hs2 hs3 ?_)
  intro v5 w5 hown5 hg5 _
  obtain ⟨A5, c5, rfl⟩ := own_form hown5
  have hb5 : Below wa.heap.size wa w5 := below_own hq hq.size (Nat.le_refl _) hown hg5
  have h5 := HP.out.below1 hb5
  have hown5' : w5.ownsRow wa.heap.size 5 1 (.slice A5 M c5) M ((b.take M).map byteV) := by rw [List.map_take]; exact hown5
  clear hown hrd hq hg5 hown5 x0 x1 hs1 hs2 hs3 hsl0
  obtain ⟨A1, n1, c1, A2, n2, c2, hblk, hp1, hp2⟩ := h5.blk
  rcases h5.log with h0 | ⟨hw, lb, c, z, rfl, hlb, hlF, hlp, hlG, hlbase, hc, hz⟩
  · exact absurd h0 hlv
  have hFB : ∀ i, F i → base ≤ i := by obtain ⟨_, _, _, _, h4, _⟩ := h5.sys; exact h4
  have hfl := frames_len _ (r.syn ++ r.more) (Nat.le_refl _)
  have hsmall := h5.small
  have hal := app_law (b := b.take M) h5.str hw hc hz (by rw [HBL.out]; exact hM1) (by rw [HBL.out]; omega) (by rw [HBL.out]; omega)
  have hla := lapp_any base sb mb n F st lb logN c z r.br A5 M c5 w5.heap.size (b.take M) w5 ⟨h5.sys, hlb, hlF, hlbase, h5.cap⟩ (Reads.of_own hown5') (Nat.le_refl _) HBL.out logN_size hn (by omega) (by omega) (by omega) (by omega)
  obtain ⟨R, hR⟩ : ∃ R, R = lappA st logN c z r.br (b.take M) := ⟨_, rfl⟩
  obtain ⟨r', hr'⟩ : ∃ r', r' = (rApp r (b.take M)).1 := ⟨_, rfl⟩
  obtain ⟨code', hcode'⟩ : ∃ code', code' = (rApp r (b.take M)).2 := ⟨_, rfl⟩
  have hra := fun w' v (hv : RLM (fun i => G i ∧ i < w5.heap.size) w' v r) (hrr : Reads w' w'.heap.size 1 A5 M ((b.take M).map byteV)) => rapp_any _ v r A5 M c5 w'.heap.size (b.take M) w' hv hrr (Nat.le_refl _) h5.str.lo h5.str.hi (by rw [List.length_append] at hsmall; omega) (by omega)
  simp only [← hR, ← hr', ← hcode'] at hal hla hra
  obtain ⟨hS', hW', hC', hZ', hBr', hK', hLen'⟩ := hal
  obtain ⟨st', c', z', br', code⟩ := R
  simp only at hla
  have p1 : w5.cell? ⟨pb, 1, none⟩ = some (.pointer (some ⟨lb, 0, none⟩)) := by have := hblk.cell 1; simpa using this
  have HB5 := Lib.hid (HBA.out.trans (hb5.mono (Nat.le_trans hbs HWS.out)))
  have HP := Lib.hid h5
  have HFB := Lib.hid hFB
  have HBL5 := Lib.hid hblk
  have HSL := Lib.hid (show StR st' r' from hS')
  have HW' := Lib.hid (show Whole r' from hW')
  have HC' := Lib.hid (show c' = ((frames (r'.syn ++ r'.more)).1.length : Int) from hC')
  have HZ' := Lib.hid (show z' = ((frames (r'.syn ++ r'.more)).2 : Int) from hZ')
  have HBB := Lib.hid (show br' = r'.br from hBr')
  have HCC := Lib.hid (show kcode code = code' from hK')
  have HLEN := Lib.hid (show (r'.syn ++ r'.more).length ≤ N from by have := HN.out; rw [HBL.out] at hLen'; omega)
  have HLG := Lib.hid (show ¬ F lb ∧ lb ≠ pb ∧ ¬ G lb ∧ base ≤ lb from ⟨hlF, hlp, hlG, hlbase⟩)
  have HLL := Lib.hid hlb.lt
  have HOWN := Lib.hid (show ∀ w', Kept (fun i => F i ∨ i = lb) w5 w' → Reads w' w'.heap.size 1 A5 M ((b.take M).map byteV) from fun w' hk => Reads.of_own (own_keptF hown5' hk fun g hg hf => by
    have h1 := (hown5'.lt g hg).1
    rcases hf with h | h
    · have := HPA.out.cap g h; omega
    · have := HLA.out lb rfl; omega))
  have HRL := Lib.hid (show ∀ w', Kept (fun i => F i ∨ i = lb) w5 w' → RLM (fun i => G i ∧ i < w5.heap.size) w' (rlV (.slice A1 n1 c1) (.slice A2 n2 c2) r.left r.off r.br) r from fun w' hk => by
    have hd : ∀ i, i < w5.heap.size → G i ∧ i < w5.heap.size → ¬ (F i ∨ i = lb) := fun i _ hg h => by
      rcases h with h | h
      · exact (h5.gF i hg.1).1 h
      · exact hlG (h ▸ hg.1)
    exact ⟨A1, n1, c1, A2, n2, c2, rfl, (hp1.mono (fun i hi hg => ⟨hg, hi⟩)).keptF hk hd, (hp2.mono (fun i hi hg => ⟨hg, hi⟩)).keptF hk hd⟩)
  clear h5 hblk hp1 hp2 hFB hw hlb hlF hlp hlG hlbase hc hz hS' hW' hC' hZ' hBr' hK' hLen' hR hr' hcode' hb5 hown5' hfl hsmall
  go_wp2_with fail
  refine hla.mono ?_
  rintro e w1 ⟨rfl, hL1, hk1⟩
  clear hla p1
  have hnp : ¬ (F pb ∨ pb = lb) := fun h => by
    rcases h with h | h
    · exact HP.out.pbF h
    · exact HLG.out.2.1 h.symm
  have hkp := HBL5.out.kept hk1 hnp
  have hrs1 := hra w1 _ (HRL.out w1 hk1) (HOWN.out w1 hk1)
  unfold rlV at hrs1
  have HL1 := Lib.hid hL1
  have HK1 := Lib.hid hk1
  have HPL := Lib.hid (show pb < w5.heap.size from HBL5.out.lt)
  have HS1 := Lib.hid hk1.size
  clear hra hL1 hk1 hnp
  have x2 := hkp.cell 2
  have x3 := hkp.cell 3
  have x4 := hkp.cell 4
  have x5 := hkp.cell 5
  have x6 := hkp.cell 6
  simp only [List.getElem?_toArray, List.getElem?_cons_zero, List.getElem?_cons_succ] at x2 x3 x4 x5 x6
  go_wp2_with fail
  refine hrs1.mono ?_
  rintro e w2 ⟨v, rfl, ⟨A3, n3, c3, A4, n4, c4, rfl, hp3, hp4⟩, hb2⟩
  unfold rlV
  clear hrs1 x2 x3 x4 x5 x6
  have hkq := hkp.below hb2 hkp.lt
  clear hkp
  have z2 := hkq.cell 2
  have z3 := hkq.cell 3
  have z4 := hkq.cell 4
  have z5 := hkq.cell 5
  have z6 := hkq.cell 6
  simp only [List.getElem?_toArray, List.getElem?_cons_zero, List.getElem?_cons_succ] at z2 z3 z4 z5 z6
  have y2 := hkq.frozen 2
  have y3 := hkq.frozen 3
  have y4 := hkq.frozen 4
  have y5 := hkq.frozen 5
  have y6 := hkq.frozen 6
  go_upto_region 22 with (fail)
  obtain ⟨w3, hw3⟩ : ∃ w3, w3 = wr5 w2 pb (.slice A3 n3 c3) (.slice A4 n4 c4) (.int .i64 r'.left) (.bool r'.off) (.bool r'.br) := ⟨_, rfl⟩
  have hkr : Blk w3 pb 59 #[.pointer (some ⟨sb, 0, none⟩), .pointer (some ⟨lb, 0, none⟩), .slice A3 n3 c3, .slice A4 n4 c4, .int .i64 r'.left, .bool r'.off, .bool r'.br] := by
    have := ((((hkq.set_ 2 (.slice A3 n3 c3)).set_ 3 (.slice A4 n4 c4)).set_ 4 (.int .i64 r'.left)).set_ 5 (.bool r'.off)).set_ 6 (.bool r'.br)
    rw [hw3]
    simpa [wr5] using this
  have hk23 : Kept (fun i => i = pb) w2 w3 := by
    rw [hw3]
    exact ((((kept_set w2 pb 2 _).trans ((kept_set _ pb 3 _).mono fun _ hi => .inl hi)).trans ((kept_set _ pb 4 _).mono fun _ hi => .inl hi)).trans ((kept_set _ pb 5 _).mono fun _ hi => .inl hi)).trans ((kept_set _ pb 6 _).mono fun _ hi => .inl hi)
  unfold wr5 at hw3
  rw [← hw3]
  clear hw3 z2 z3 z4 z5 z6 y2 y3 y4 y5 y6 hkq
  have hk13 : Kept (fun i => i = pb) w1 w3 := (Kept.of_below hb2).trans (hk23.mono fun _ hi => .inl hi)
  have hkind := kind_any code w3
  rw [HCC.out] at hkind
  have HKR := Lib.hid hkr
  have HP3 := Lib.hid hp3
  have HP4 := Lib.hid hp4
  clear hkr hp3 hp4
  go_wp2_with fail
  refine hkind.mono ?_
  rintro e w4 ⟨rfl, rfl⟩
  clear hkind
  go_wp2_with fail
  go_ret
  have hp := HP.out
  have hS1 := HS1.out
  have hL := HL1.out
  have hlg := HLG.out
  have hpl := HPL.out
  have hb1 : Below base w5 w1 := HK1.out.below (Below.refl base w5) hp.sys.base_le fun i hi => by
    rcases hi with h | h
    · exact HFB.out i h
    · rw [h]; exact hlg.2.2.2
  have hb3 : Below base w5 w3 := hk13.below hb1 (Nat.le_trans hp.sys.base_le hS1) fun i hi => by have : i = pb := hi; omega
  have hFp : ¬ Cap F w5.heap.size w1.heap.size pb := fun hf => by
    rcases hf.1 with h | h
    · exact hp.pbF h
    · omega
  have hg : ∀ i, ((G i ∧ i < w5.heap.size) ∨ w1.heap.size ≤ i) → ¬ i = pb := fun i hi e => by
    rcases hi with h | h
    · exact (hp.gF i h.1).2 e
    · omega
  refine ⟨by simp, HB5.out.trans hb3, Cap F w5.heap.size w1.heap.size, fun i => (G i ∧ i < w5.heap.size) ∨ w1.heap.size ≤ i, st', r', .pointer (some ⟨lb, 0, none⟩),
    ⟨hL.1.kept hk13 fun i hi e => hFp (e ▸ hi), fun i hi => Nat.lt_of_lt_of_le hi.2 hk13.size, HSL.out, ⟨A3, n3, c3, A4, n4, c4, HKR.out, HP3.out.keptF hk23 fun i _ hi => hg i hi, HP4.out.keptF hk23 fun i _ hi => hg i hi⟩, hFp, ?_, .inr ⟨HW'.out, lb, c', z', rfl, ?_, hL.2.2.1, hlg.2.1, ?_, hlg.2.2.2, HC'.out, HZ'.out⟩, Nat.le_trans HLEN.out HN2.out⟩, HLEN.out⟩
  · intro i hi
    refine ⟨fun hf => ?_, hg i hi⟩
    rcases hi with h | h
    · rcases hf.1 with h' | h'
      · exact (hp.gF i h.1).1 h'
      · omega
    · have := hf.2; omega
  · have := hL.2.1
    rw [HBB.out] at this
    exact this.kept hk13 hlg.2.1
  · rintro (h | h)
    · exact hlg.2.2.1 h.1
    · have := HLL.out; omega
end Go.Proofs.Ytcppmmdkblmfoaa
namespace Go.Proofs.Ytcppmmdkblmfoaa
open Go.RowKit Go.WideMaps
set_option maxRecDepth 100000 in
set_option maxHeartbeats 4000000 in
theorem pdo_empty {w : World} {base : Nat} {F : Nat → Prop} {sb mb n pb : Nat} {G : Nat → Prop} {st : AS} {r : RL} {lv : Value} (h : PlM w base F sb mb n pb G st r lv) (hlv : lv ≠ .pointer none)
    (k j : Nat) (A : Option Addr) (nb cb B : Nat) (b : List UInt8) (x : Int) (hk : k % 8 = j) (hj : j < 4) (hk2 : k < 256) (hr : Reads w B 1 A nb (b.map byteV)) (hB : B ≤ w.heap.size) (hnz : nb = 0) (hn : n < maxLen) (N : Nat) (hN : (r.syn ++ r.more).length ≤ N) :
    Calls Try.prog 31 #[.pointer (some ⟨pb, 0, none⟩), actV k A nb cb x] w (PdEnd w base sb mb (n + 1) pb N) := by
  obtain ⟨i0, hi, hz0, hz1, hz2⟩ := info_parts infoB
  have ht : ((k : Int).tmod 8) = (j : Int) := by rw [Int.tmod_eq_emod_of_nonneg (by omega)]; omega
  have e4 : ((j : Int) == 4) = false := by rw [beq_eq_false_iff_ne]; omega
  have e5 : ((j : Int) == 5) = false := by rw [beq_eq_false_iff_ne]; omega
  have e6 : ((j : Int) == 6) = false := by rw [beq_eq_false_iff_ne]; omega
  have e7 : ((j : Int) == 7) = false := by rw [beq_eq_false_iff_ne]; omega
  obtain ⟨M, hM⟩ : ∃ M, M = min nb 300 := ⟨_, rfl⟩
  have hmin : min (nb : Int) 300 = (M : Int) := by rw [hM]; omega
  have hM2 : M ≤ 300 := by omega
  have hMn : M ≤ nb := by omega
  have hm0 : ((M : Int) == 0) = true := by rw [beq_iff_eq]; omega
  have hM0 : M = 0 := by omega
  have hsl0 : ∀ W : World, (Instr.slice 22 (.slice A nb cb) none (some (.int .i64 (M : Int))) none).run Try.prog W = .ok (.slice A M cb) W := slice_to A nb cb M (by omega)
  obtain ⟨wa, hwa⟩ : ∃ wa, wa = w.alloc (.cells #[.int .u8 (k : Int), .slice A nb cb, .int .i64 x] 61) := ⟨_, rfl⟩
  have hba : Below w.heap.size w wa := by rw [hwa]; exact (Below.refl _ _).alloc (Nat.le_refl _) _
  have hbk : Blk wa w.heap.size 61 #[.int .u8 (k : Int), .slice A nb cb, .int .i64 x] := by rw [hwa]; exact Blk.new _ _ _
  have hbs := h.sys.base_le
  have h' := h.below1 hba
  have hq : Below wa.heap.size wa (wa.alloc (.cells #[] 5)) := (Below.refl _ _).alloc (Nat.le_refl _) _
  have hown : (wa.alloc (.cells #[] 5)).ownsRow wa.heap.size 5 1 (.slice (some ⟨wa.heap.size, 0, none⟩) 0 0) 0 [] := World.ownsRow_lit (e := 5) (size := 1) wa #[] 0 (Nat.le_refl _) (by decide) rfl
  have hrd : Reads (wa.alloc (.cells #[] 5)) B 1 A M ((b.take M).map byteV) := by
    rw [List.map_take]
    exact ((hr.below (hba.mono hB)).below (hq.mono (Nat.le_trans hB hba.size))).take_ hMn
  have hbl : (b.take M).length = M := by have := hr.1; rw [List.length_map] at this; rw [List.length_take]; omega
  have x0 := hbk.cell 0
  have x1 := (hbk.alloc (.cells #[] 5)).cell 1
  simp only [List.getElem?_toArray, List.getElem?_cons_zero, List.getElem?_cons_succ] at x0 x1
  have hs1 : 0 + M ≤ maxLen := by unfold maxLen; omega
  have hs2 : (0 + M) * 1 ≤ 140737488355328 := by omega
  have hs3 := hq.size
  have HWA := Lib.hid hwa
  have HBA := Lib.hid (hba.mono hbs)
  have HP := Lib.hid h'
  have HPA := Lib.hid h'
  have HLA := Lib.hid (show ∀ lb, lv = .pointer (some ⟨lb, 0, none⟩) → lb < wa.heap.size from fun lb e => by
    rcases h'.log with h1 | ⟨_, lb', _, _, h1, h2, _⟩
    · rw [e] at h1; cases h1
    · rw [e] at h1; cases h1; exact h2.lt)
  have HN := Lib.hid hN
  have HBL := Lib.hid hbl
  have HWS := Lib.hid hba.size
  have HM0 := Lib.hid hM0
  clear hwa h h' hba hbk hk hr hN hbl hM hM0 hnz
  unfold actV
  go_enter Try.func31, Try.ntmps31
  go_upto_region 1 with (fail)
  rw [← HWA.out]
  go_wp2_with (at_builtin; refine wpList_append_any _ rfl (.tmp 76) (.tmp 83) 22 rfl wa.heap.size 5 i0 (.int .u8 0) 1 1 Try.underlying22 hi hz0 hz1 hz2 rfl (by decide) _ _ _ rfl hown B A M cb ((b.take M).map byteV) rfl hrd (oneB _) hs1 hs2 hs3 ?_)
  intro v5 w5 hown5 hg5 _
  obtain ⟨A5, c5, rfl⟩ := own_form hown5
  have hb5 : Below wa.heap.size wa w5 := below_own hq hq.size (Nat.le_refl _) hown hg5
  have h5 := HP.out.below1 hb5
  have hown5' : w5.ownsRow wa.heap.size 5 1 (.slice A5 M c5) M ((b.take M).map byteV) := by rw [List.map_take]; exact hown5
  clear hown hrd hq hg5 hown5 x0 x1 hs1 hs2 hs3 hsl0
  obtain ⟨A1, n1, c1, A2, n2, c2, hblk, hp1, hp2⟩ := h5.blk
  rcases h5.log with h0 | ⟨hw, lb, c, z, rfl, hlb, hlF, hlp, hlG, hlbase, hc, hz⟩
  · exact absurd h0 hlv
  have hFB : ∀ i, F i → base ≤ i := by obtain ⟨_, _, _, _, h4, _⟩ := h5.sys; exact h4
  have hfl := frames_len _ (r.syn ++ r.more) (Nat.le_refl _)
  have hsmall := h5.small
  have hla := lapp_any base sb mb n F st lb logN c z r.br A5 M c5 w5.heap.size (b.take M) w5 ⟨h5.sys, hlb, hlF, hlbase, h5.cap⟩ (Reads.of_own hown5') (Nat.le_refl _) HBL.out logN_size hn (by omega) (by omega) (by omega) (by omega)
  have hll : lappA st logN c z r.br (b.take M) = ⟨st, c, z, r.br, if r.br = true then 7 else 4⟩ := by
    unfold lappA
    by_cases hb : r.br = true
    · rw [if_pos hb, if_pos hb]
    · rw [if_neg hb, if_neg hb, if_pos (by rw [HBL.out]; exact HM0.out)]
  rw [hll] at hla
  simp only at hla
  have p1 : w5.cell? ⟨pb, 1, none⟩ = some (.pointer (some ⟨lb, 0, none⟩)) := by have := hblk.cell 1; simpa using this
  have HB5 := Lib.hid (HBA.out.trans (hb5.mono (Nat.le_trans hbs HWS.out)))
  have HP := Lib.hid h5
  have HFB := Lib.hid hFB
  have HBL5 := Lib.hid hblk
  have HP1 := Lib.hid hp1
  have HP2 := Lib.hid hp2
  have HLG := Lib.hid (show Whole r ∧ ¬ F lb ∧ lb ≠ pb ∧ ¬ G lb ∧ base ≤ lb ∧ c = ((frames (r.syn ++ r.more)).1.length : Int) ∧ z = ((frames (r.syn ++ r.more)).2 : Int) from ⟨hw, hlF, hlp, hlG, hlbase, hc, hz⟩)
  have HLL := Lib.hid hlb.lt
  clear h5 hblk hp1 hp2 hFB hw hlb hlF hlp hlG hlbase hc hz hb5 hown5' hfl hsmall hll
  go_wp2_with fail
  refine hla.mono ?_
  rintro e w1 ⟨rfl, hL1, hk1⟩
  clear hla p1
  have hnp : ¬ (F pb ∨ pb = lb) := fun h => by
    rcases h with h | h
    · exact HP.out.pbF h
    · exact HLG.out.2.2.1 h.symm
  have hkp := HBL5.out.kept hk1 hnp
  have p6 := hkp.cell 6
  simp only [List.getElem?_toArray, List.getElem?_cons_zero, List.getElem?_cons_succ] at p6
  have hend : PdEnd w base sb mb (n + 1) pb N (.returned (.bool true)) w1 := by
    have hp := HP.out
    have hlg := HLG.out
    have hpl : pb < w5.heap.size := HBL5.out.lt
    have hb1 : Below base w5 w1 := hk1.below (Below.refl base w5) hp.sys.base_le fun i hi => by
      rcases hi with h | h
      · exact HFB.out i h
      · rw [h]; exact hlg.2.2.2.2.1
    have hFp : ¬ Cap F w5.heap.size w1.heap.size pb := fun hf => by
      rcases hf.1 with h | h
      · exact hp.pbF h
      · omega
    have hd : ∀ i, i < w5.heap.size → G i ∧ i < w5.heap.size → ¬ (F i ∨ i = lb) := fun i _ hg h => by
      rcases h with h | h
      · exact (hp.gF i hg.1).1 h
      · exact hlg.2.2.2.1 (h ▸ hg.1)
    refine ⟨rfl, HB5.out.trans hb1, Cap F w5.heap.size w1.heap.size, fun i => G i ∧ i < w5.heap.size, st, r, .pointer (some ⟨lb, 0, none⟩),
      ⟨hL1.1, fun i hi => hi.2, hp.str, ⟨A1, n1, c1, A2, n2, c2, hkp, (HP1.out.mono (fun i hi hg => ⟨hg, hi⟩)).keptF hk1 hd, (HP2.out.mono (fun i hi hg => ⟨hg, hi⟩)).keptF hk1 hd⟩, hFp, ?_, .inr ⟨hlg.1, lb, c, z, rfl, hL1.2.1, hL1.2.2.1, hlg.2.2.1, fun h => hlg.2.2.2.1 h.1, hlg.2.2.2.2.1, hlg.2.2.2.2.2.1, hlg.2.2.2.2.2.2⟩, hp.small⟩, HN.out⟩
    intro i hi
    refine ⟨fun hf => ?_, (hp.gF i hi.1).2⟩
    rcases hf.1 with h' | h'
    · exact (hp.gF i hi.1).1 h'
    · omega
  have HEND := Lib.hid hend
  clear hend hL1 hk1 hnp hkp
  cases hbr : r.br
  · rw [hbr] at p6
    have his := is_same 4 w1 (by decide)
    rw [show (Value.iface 33 (.int .i64 4)) = errV 4 from rfl] at his
    go_wp2_with fail
    refine his.mono ?_
    rintro e w2 ⟨rfl, rfl⟩
    go_wp2_with fail
    go_ret
    exact HEND.out
  · rw [hbr] at p6
    have hkind := kind_any 7 w1
    rw [show kcode 7 = 1 from rfl] at hkind
    go_wp2_with fail
    refine hkind.mono ?_
    rintro e w2 ⟨rfl, rfl⟩
    go_wp2_with fail
    go_ret
    exact HEND.out
end Go.Proofs.Ytcppmmdkblmfoaa
namespace Go.Proofs.Ytcppmmdkblmfoaa
open Go.RowKit Go.WideMaps
theorem RLM.drew {G : Nat → Prop} {w : World} {v : Value} {r : RL} (h : RLM G w v r) : RLM G w.drew v r := by
  obtain ⟨A1, n1, c1, A2, n2, c2, e, h1, h2⟩ := h
  have hk : Kept (fun _ => False) w w.drew := Kept.of_below (Below.refl w.heap.size w).drew
  exact ⟨A1, n1, c1, A2, n2, c2, e, h1.keptF hk fun _ _ _ h => h, h2.keptF hk fun _ _ _ h => h⟩
def cr5 (w : World) (g : Nat) (b0 b1 b2 b3 b4 : Value) : World :=
  ((((w.setCell ⟨g, 2, none⟩ b0).setCell ⟨g, 3, none⟩ b1).setCell ⟨g, 4, none⟩ b2).setCell ⟨g, 5, none⟩ b3).setCell ⟨g, 6, none⟩ b4
theorem cr5_kept (w : World) (g : Nat) (b0 b1 b2 b3 b4 : Value) : Kept (fun i => i = g) w (cr5 w g b0 b1 b2 b3 b4) :=
  ((((kept_set w g 2 b0).trans ((kept_set _ g 3 b1).mono fun _ hi => .inl hi)).trans ((kept_set _ g 4 b2).mono fun _ hi => .inl hi)).trans ((kept_set _ g 5 b3).mono fun _ hi => .inl hi)).trans ((kept_set _ g 6 b4).mono fun _ hi => .inl hi)
theorem cr5_blk {w : World} {g : Nat} {t : TypeId} {x0 x1 a0 a1 a2 a3 a4 : Value} (h : Blk w g t #[x0, x1, a0, a1, a2, a3, a4]) (b0 b1 b2 b3 b4 : Value) : Blk (cr5 w g b0 b1 b2 b3 b4) g t #[x0, x1, b0, b1, b2, b3, b4] := by
  have := ((((h.set_ 2 b0).set_ 3 b1).set_ 4 b2).set_ 5 b3).set_ 6 b4
  simpa [cr5] using this
/-- What the crash leaves, and the specification's new log in the player's cells. -/
theorem crash_next {wc w1 w2 : World} {base : Nat} {F : Nat → Prop} {sb mb n pb : Nat} {G : Nat → Prop} {st st' : AS} {r r' : RL} {lv : Value} {A3 A4 : Option Addr} {n3 c3 n4 c4 : Nat} (h : PlM wc base F sb mb n pb G st r lv) (hpb : base ≤ pb)
    (hS1 : SysM w1 base F sb mb n st') (hk1 : Kept F wc w1) (hst : StR st' r') (hlen : (r'.syn ++ r'.more).length ≤ 100000) (hb2 : Below w1.drew.heap.size w1.drew w2)
    (h3 : PayG (fun i => (G i ∧ i < wc.heap.size) ∨ w1.drew.heap.size ≤ i) w2 (.slice A3 n3 c3) r'.syn) (h4 : PayG (fun i => (G i ∧ i < wc.heap.size) ∨ w1.drew.heap.size ≤ i) w2 (.slice A4 n4 c4) r'.more) :
    PlM0 (cr5 w2 pb (.slice A3 n3 c3) (.slice A4 n4 c4) (.int .i64 r'.left) (.bool r'.off) (.bool r'.br)) base F sb mb n pb (fun i => (G i ∧ i < wc.heap.size) ∨ w1.drew.heap.size ≤ i) st' r' lv ∧
    Below base wc (cr5 w2 pb (.slice A3 n3 c3) (.slice A4 n4 c4) (.int .i64 r'.left) (.bool r'.off) (.bool r'.br)) := by
  obtain ⟨A1, n1, c1, A2, n2, c2, hblk, _, _⟩ := h.blk
  have hk5 := cr5_kept w2 pb (.slice A3 n3 c3) (.slice A4 n4 c4) (.int .i64 r'.left) (.bool r'.off) (.bool r'.br)
  have hq : Below w1.heap.size w1 w2 := (Below.refl w1.heap.size w1).drew.trans hb2
  have hB1 := hblk.kept hk1 h.pbF
  have hB2 := hB1.below hq hB1.lt
  have hB5 := cr5_blk hB2 (.slice A3 n3 c3) (.slice A4 n4 c4) (.int .i64 r'.left) (.bool r'.off) (.bool r'.br)
  have hsz : wc.heap.size ≤ w1.heap.size := hk1.size
  have hg : ∀ i, (G i ∧ i < wc.heap.size) ∨ w1.drew.heap.size ≤ i → ¬ F i ∧ i ≠ pb := by
    intro i hi
    rcases hi with hi | hi
    · exact h.gF i hi.1
    · have h1 : w1.heap.size ≤ i := hi
      exact ⟨fun hf => by have := h.cap i hf; omega, fun e => by have := hblk.lt; omega⟩
  have hFB : ∀ i, F i → base ≤ i := by obtain ⟨_, _, _, _, h4, _⟩ := h.sys; exact h4
  refine ⟨⟨(hS1.below hq).kept hk5 fun i hi e => h.pbF (e ▸ hi), fun i hi => Nat.lt_of_lt_of_le (h.cap i hi) (Nat.le_trans hsz (Nat.le_trans hq.size hk5.size)), hst, ⟨A3, n3, c3, A4, n4, c4, hB5, h3.keptF hk5 fun i _ hi e => (hg i hi).2 e, h4.keptF hk5 fun i _ hi e => (hg i hi).2 e⟩, h.pbF, hg, hlen⟩, ?_⟩
  have hb1 : Below base wc w1 := hk1.below (Below.refl base wc) h.sys.base_le hFB
  exact hk5.below (hb1.trans (hq.mono (Nat.le_trans h.sys.base_le hsz))) (Nat.le_trans h.sys.base_le (Nat.le_trans hsz hq.size)) fun i hi => by have : i = pb := hi; omega
set_option maxRecDepth 100000 in
set_option maxHeartbeats 4000000 in
theorem pdo_crash {w : World} {base : Nat} {F : Nat → Prop} {sb mb n pb : Nat} {G : Nat → Prop} {st : AS} {r : RL} {lv : Value} (h : PlM w base F sb mb n pb G st r lv) (hpb : base ≤ pb)
    (k : Nat) (A : Option Addr) (nb cb : Nat) (x : Int) (hk : k % 8 = 7) (hk2 : k < 256) (hx : -9223372036854775808 ≤ x ∧ x ≤ 9223372036854775807) (N : Nat) (hN : (r.syn ++ r.more).length ≤ N) :
    Calls Try.prog 31 #[.pointer (some ⟨pb, 0, none⟩), actV k A nb cb x] w (PdEnd w base sb mb n pb N) := by
  have ht : ((k : Int).tmod 8) = 7 := by rw [Int.tmod_eq_emod_of_nonneg (by omega)]; omega
  obtain ⟨wa, hwa⟩ : ∃ wa, wa = w.alloc (.cells #[.int .u8 (k : Int), .slice A nb cb, .int .i64 x] 61) := ⟨_, rfl⟩
  have hba : Below w.heap.size w wa := by rw [hwa]; exact (Below.refl _ _).alloc (Nat.le_refl _) _
  have hbk : Blk wa w.heap.size 61 #[.int .u8 (k : Int), .slice A nb cb, .int .i64 x] := by rw [hwa]; exact Blk.new _ _ _
  have hbs := h.sys.base_le
  have h' := h.below1 hba
  obtain ⟨A1, n1, c1, A2, n2, c2, hblk, hp1, hp2⟩ := h'.blk
  have x0 := hbk.cell 0
  have x2 := hbk.cell 2
  have p0 : wa.cell? ⟨pb, 0, none⟩ = some (.pointer (some ⟨sb, 0, none⟩)) := by have := hblk.cell 0; simpa using this
  simp only [List.getElem?_toArray, List.getElem?_cons_zero, List.getElem?_cons_succ] at x0 x2
  have HWA := Lib.hid hwa
  obtain ⟨wc, hwc⟩ : ∃ wc, wc = (wa.alloc (.cells #[.int .i64 x] 3)).drew := ⟨_, rfl⟩
  have hbc : Below wa.heap.size wa wc := by rw [hwc]; exact ((Below.refl _ _).alloc (Nat.le_refl _) _).drew
  have hsc : wc.heap.size = wa.heap.size + 1 := by rw [hwc]; simp
  have hc := h'.below1 hbc
  have hr9 : Reads wc wc.heap.size 1 (some ⟨wa.heap.size, 0, none⟩) 1 ([x].map (Value.int .i64)) := by
    have := (Reads.of_alloc wa #[.int .i64 x] 3 (B := wa.heap.size + 1) (n := 1) (by omega) rfl).drew
    rw [← hwc] at this
    rw [hsc]
    simpa using this
  have hfl : st.files.length ≤ 1 ∧ ∀ f ∈ st.files, f.name.length ≤ 3 := by
    rcases hc.str.files with ⟨h1, _⟩ | h1
    · rw [h1]; simp
    · rw [h1]; simp [logN]
  have hcr := crash_any base sb mb n F st (some ⟨wa.heap.size, 0, none⟩) 1 1 wc.heap.size [x] wc hc.sys hr9 (Nat.le_refl _) (fun ad e _ hf => by
    injection e with e
    subst e
    have := h'.cap _ hf
    simp at this) (Nat.le_refl _) (by omega) (fun f hf => by have := hfl.2 f hf; omega) (by intro y hy; simp at hy; subst hy; exact hx) hc.cap
  obtain ⟨A1', n1', c1', A2', n2', c2', hblkc, _, _⟩ := hc.blk
  have hbkc := hbk.below hbc hbk.lt
  have hwF : ¬ F w.heap.size := fun hf => by have := h.cap _ hf; omega
  have KS := Lib.hid (show ∀ w', Kept F wc w' → w'.cell? ⟨pb, 0, none⟩ = some (.pointer (some ⟨sb, 0, none⟩)) ∧ w'.cell? ⟨w.heap.size, 2, none⟩ = some (.int .i64 x) from fun w' hk => by
    have h1 := (hblkc.kept hk hc.pbF).cell 0
    have h2 := (hbkc.kept hk hwF).cell 2
    exact ⟨by simpa using h1, by simpa using h2⟩)
  have hp := hc
  obtain ⟨B1, m1, d1, B2, m2, d2, hblkq, hq1, hq2⟩ := hc.blk
  have KR := Lib.hid (show ∀ w', Kept F (wa.alloc (.cells #[.int .i64 x] 3)).drew w' → Blk w' pb 59 #[.pointer (some ⟨sb, 0, none⟩), lv, .slice B1 m1 d1, .slice B2 m2 d2, .int .i64 r.left, .bool r.off, .bool r.br] ∧ RLM (fun i => G i ∧ i < wc.heap.size) w' (rlV (.slice B1 m1 d1) (.slice B2 m2 d2) r.left r.off r.br) r from by
    rw [← hwc]
    exact fun w' hk => ⟨hblkq.kept hk hp.pbF, B1, m1, d1, B2, m2, d2, rfl, (hq1.mono (fun i hi hg => ⟨hg, hi⟩)).keptF hk (fun i _ hg => (hp.gF i hg.1).1), (hq2.mono (fun i hi hg => ⟨hg, hi⟩)).keptF hk (fun i _ hg => (hp.gF i hg.1).1)⟩)
  have KC := Lib.hid hc
  have HBA := Lib.hid ((hba.mono hbs).trans (hbc.mono (Nat.le_trans hbs hba.size)))
  have HNN := Lib.hid hN
  have hcl := crash_law hc.str x
  have hlen2 : r.syn.length ≤ 1000000 ∧ r.more.length ≤ 1000000 := by have := hc.small; rw [List.length_append] at this; omega
  rw [hwc] at hcr
  have KCW := Lib.hid hwc.symm
  have KS2 := Lib.hid (show ∀ w', Kept F (wa.alloc (.cells #[.int .i64 x] 3)).drew w' → w'.cell? ⟨pb, 0, none⟩ = some (.pointer (some ⟨sb, 0, none⟩)) ∧ w'.cell? ⟨w.heap.size, 2, none⟩ = some (.int .i64 x) from by rw [← hwc]; exact KS.out)
  unfold actV
  clear hwa hba h hbk hblk hp1 hp2 h' hk hwc hbc hsc hc hr9 hfl hblkc hbkc hwF hp hblkq hq1 hq2
  go_enter Try.func31, Try.ntmps31
  go_upto_region 1 with (fail)
  rw [← HWA.out]
  go_upto_region 14 with (fail)
  go_region_held3 (fun w' => w'.cell? ⟨pb, 0, none⟩ = some (.pointer (some ⟨sb, 0, none⟩)) ∧ w'.cell? ⟨w.heap.size, 2, none⟩ = some (.int .i64 x))
    (first | go_keep | (go_split_ands; exact ⟨by assumption, by assumption⟩) | assumption)
    (first | (go_at_call 29; refine hcr.mono ?_; rintro e w1 ⟨rfl, hS1, hk1⟩; have hSS := hS1; obtain ⟨s1, s2⟩ := KS2.out _ hk1))
  obtain ⟨hkp, hRL⟩ := KR.out _ hk1
  have hrc := rcrash_any _ _ r x w1.drew hRL.drew hlen2.1 hlen2.2
  unfold rlV at hrc
  have z2 := hkp.cell 2
  have z3 := hkp.cell 3
  have z4 := hkp.cell 4
  have z5 := hkp.cell 5
  have z6 := hkp.cell 6
  simp only [List.getElem?_toArray, List.getElem?_cons_zero, List.getElem?_cons_succ] at z2 z3 z4 z5 z6
  have hkp2 := hkp
  have KZ2 := Lib.hid (show ∀ w', Below w1.drew.heap.size w1.drew w' → (w'.cell? ⟨pb, 2, none⟩ = some (.slice B1 m1 d1) ∧ w'.cell? ⟨pb, 3, none⟩ = some (.slice B2 m2 d2) ∧ w'.cell? ⟨pb, 4, none⟩ = some (.int .i64 r.left) ∧ w'.cell? ⟨pb, 5, none⟩ = some (.bool r.off) ∧ w'.cell? ⟨pb, 6, none⟩ = some (.bool r.br)) ∧ (∀ k, w'.frozen? ⟨pb, k, none⟩ = false) from fun w' hb => by
    have h1 := hkp2.drew.below hb hkp2.lt
    exact ⟨⟨h1.cell 2, h1.cell 3, h1.cell 4, h1.cell 5, h1.cell 6⟩, fun k => h1.frozen k⟩)
  clear hkp hkp2 hcr
  go_wp2_with fail
  go_region_with ((go_at_call 50; refine hrc.mono ?_; rintro e w2 ⟨v, rfl, ⟨A3, n3, c3, A4, n4, c4, rfl, hp3, hp4⟩, hb2⟩; obtain ⟨⟨t2, t3, t4, t5, t6⟩, tf⟩ := KZ2.out _ hb2; have HP3 := Lib.hid hp3; have HP4 := Lib.hid hp4; unfold rlV))
  all_goals
    obtain ⟨hN0, hBN⟩ := crash_next KC.out hpb hSS (KCW.out ▸ hk1) hcl.1 (Nat.le_trans hcl.2 KC.out.small) hb2 HP3.out HP4.out
    obtain ⟨wF, hwF⟩ : ∃ wF, wF = cr5 w2 pb (.slice A3 n3 c3) (.slice A4 n4 c4) (.int .i64 (rCrash r x).left) (.bool (rCrash r x).off) (.bool (rCrash r x).br) := ⟨_, rfl⟩
    rw [← hwF] at hN0 hBN
    unfold cr5 at hwF
    rw [← hwF]
    have hop := popen0_any hN0 hpb
    have HR := Lib.hid (open_law hN0.str).2.2.1
    clear hwF t2 t3 t4 t5 t6 tf hN0
    go_wp2_with fail
    refine hop.mono ?_
    clear hop
    rintro e w4 ⟨rfl, hb4, F1, G1, lv1, hP⟩
    go_wp2_with fail
    go_ret
    exact ⟨rfl, (HBA.out.trans hBN).trans hb4, F1, G1, _, _, lv1, hP, Nat.le_trans HR.out (Nat.le_trans hcl.2 HNN.out)⟩
end Go.Proofs.Ytcppmmdkblmfoaa
namespace Go.Proofs.Ytcppmmdkblmfoaa
open Go.RowKit Go.WideMaps
theorem PdEnd.wide {w : World} {base sb mb n n' pb N N' : Nat} {e : Ending} {w' : World} (h : PdEnd w base sb mb n pb N e w') (hn : n ≤ n') (hN : N ≤ N') : PdEnd w base sb mb n' pb N' e w' := by
  obtain ⟨he, hb, F, G, st, r, lv, hP, hl⟩ := h
  exact ⟨he, hb, F, G, st, r, lv, hP.more hn, Nat.le_trans hl hN⟩
theorem pdo_all {w : World} {base : Nat} {F : Nat → Prop} {sb mb n pb : Nat} {G : Nat → Prop} {st : AS} {r : RL} {lv : Value} (h : PlM w base F sb mb n pb G st r lv) (hpb : base ≤ pb)
    (k : Nat) (A : Option Addr) (nb cb B : Nat) (b : List UInt8) (x : Int) (hlv : lv = .pointer none → 5 ≤ k % 8) (hk2 : k < 256) (hx : -9223372036854775808 ≤ x ∧ x ≤ 9223372036854775807) (hr : Reads w B 1 A nb (b.map byteV)) (hB : B ≤ w.heap.size) (hcb : nb ≤ cb) (hn : n < maxLen) (N : Nat) (hN : (r.syn ++ r.more).length + 308 ≤ N) (hN2 : N ≤ 100000) :
    Calls Try.prog 31 #[.pointer (some ⟨pb, 0, none⟩), actV k A nb cb x] w (PdEnd w base sb mb (n + 1) pb N) := by
  have h1 : (r.syn ++ r.more).length ≤ N := by omega
  by_cases h5 : k % 8 = 5
  · exact (pdo_open h hpb k A nb cb x h5 hk2).mono fun _ _ h => h.wide (Nat.le_succ _) h1
  by_cases h6 : k % 8 = 6
  · exact (pdo_fail h hpb k A nb cb x h6 hk2 hx.2 N h1).mono fun _ _ h => h.wide (Nat.le_succ _) (Nat.le_refl _)
  by_cases h7 : k % 8 = 7
  · exact (pdo_crash h hpb k A nb cb x h7 hk2 hx N h1).mono fun _ _ h => h.wide (Nat.le_succ _) (Nat.le_refl _)
  have hne : lv ≠ .pointer none := fun e => by have := hlv e; omega
  by_cases h4 : k % 8 = 4
  · exact (pdo_sync h hpb hne k A nb cb x h4 hk2 N h1).mono fun _ _ h => h.wide (Nat.le_succ _) (Nat.le_refl _)
  by_cases h0 : nb = 0
  · exact pdo_empty h hne k (k % 8) A nb cb B b x rfl (by omega) hk2 hr hB h0 hn N h1
  · exact pdo_app h hpb hne k (k % 8) A nb cb B b x rfl (by omega) hk2 hr hB hcb (by omega) hn N hN hN2
end Go.Proofs.Ytcppmmdkblmfoaa
