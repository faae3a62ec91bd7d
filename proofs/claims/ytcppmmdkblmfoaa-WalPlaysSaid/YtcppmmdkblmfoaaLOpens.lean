/- The walk of the law WalOpens. -/
import Derived.Test.YtcppmmdkblmfoaaKeep
import Derived.Test.YtcppmmdkblmfoaaAwake
import Derived.Test.YtcppmmdkblmfoaaLFrames
namespace Go.Proofs.Ytcppmmdkblmfoaa
open Go.RowKit Go.WideMaps
section
variable {P : Program} (w : World)
theorem wpList_append_on {ops : Array Oper} {rest : List Oper} {o : Oper} {a : Act} {Q : Exit → Act → World → Prop} (hgd : Region.wanted o (yielded ops a.tmps) = true) (s x : Operand) (t : TypeId)
    (ho : o.op = .call { callee := .builtin .append, args := #[s, x], argTypes := #[t, t] })
    (base : Nat) (e : TypeId) (i : TypeInfo) (z : Value) (size bytes : Nat) (ht : P.underlying t = some (.slice e)) (hi : P.info? e = some i) (hz : i.zero = some z)
    (hsize : i.size = size) (hby : i.bytes = bytes) (hzs : z.cells.size = size) (hsz : 0 < size)
    (v : Value) (n : Nat) (xs : List Value) (hs : a.eval s = v) (hown : w.ownsRow base e size v n xs)
    (B : Nat) (A : Option Addr) (m c : Nat) (news : List Value) (hx : a.eval x = .slice A m c) (hr : Reads w B size A m news) (h1 : ∀ u ∈ news, u.oneCell' = true)
    (h63 : n + m ≤ maxLen) (hbytes : (n + m) * bytes ≤ 140737488355328) (hbase : base ≤ w.heap.size)
    (h : ∀ v' w', w'.ownsRow base e size v' (n + m) (xs ++ news) → w.grownBy w' v.ownBlock → (v'.ownBlock = v.ownBlock ∨ v'.ownBlock = some w.heap.size) → wpList P ops Q rest (a.put o.dst v') w') : wpList P ops Q (o :: rest) a w :=
  wpList_step fun K hK => by
    rw [if_pos hgd]
    exact wp_append_any w s x t ho base e i z size bytes ht hi hz hsize hby hzs hsz v n xs hs hown B A m c news hx hr h1 h63 hbytes hbase fun v' w' h2 h3 h4 => hK _ _ (h v' w' h2 h3 h4)

end
theorem SysM.cap {w : World} {base sb mb n : Nat} {F : Nat → Prop} {st : AS} (h : SysM w base F sb mb n st) : SysM w base (fun i => F i ∧ i < w.heap.size) sb mb n st := by
  obtain ⟨frs, h1, h2, h3, h4, h5⟩ := h
  exact ⟨frs, h1, h2, fun i hi => ⟨h3 i hi, h1.foot_lt hi⟩, fun i hi => h4 i hi.1, h5⟩
/-- A list of payloads that lies between lo and hi. -/
def Held (w : World) (lo hi : Nat) (v : Value) (ps : List (List UInt8)) : Prop :=
  ∃ A c vs, v = .slice A ps.length c ∧ w.ownsRow lo 22 1 v ps.length vs ∧ PaysL lo w v.ownBlock vs ps ∧ hi = w.heap.size
theorem Held.ll {w w' : World} {F : Nat → Prop} {lo hi : Nat} {v : Value} {ps : List (List UInt8)} (h : Held w lo hi v ps) (hk : Kept F w w') (hF : ∀ i, F i → i < lo ∨ w.heap.size ≤ i) : LL w' v ps := by
  obtain ⟨A, c, vs, rfl, ho, hp, _⟩ := h
  exact LL.of_own (own_keptF ho hk fun g hg hf => by have := hF g hf; have := ho.lt g hg; omega) (hp.keptF hk hF).ok
set_option maxRecDepth 100000 in
set_option maxHeartbeats 400000 in
theorem opens_long (A1 A2 : Option Addr) (n1 c1 n2 c2 : Nat) (w : World) (hn : 4000 < n1) :
    Calls Try.prog 6 #[.slice A1 n1 c1, .slice A2 n2 c2] w (AwEnd w) := by
  have hn' : (4000 : Int) < (n1 : Int) := by omega
  go_enter Try.func6, Try.ntmps6
  go_wp2_with fail
  refine (awake_any w).mono ?_
  rintro e w1 ⟨rfl, hb1⟩
  go_wp2_with fail
  refine (awake_any w1).mono ?_
  rintro e w2 ⟨rfl, hb2⟩
  have hb := hb1.trans (hb2.mono hb1.size)
  go_wp2_with fail
  go_ret
  exact ⟨rfl, hb⟩
set_option maxRecDepth 100000 in
set_option maxHeartbeats 400000 in
theorem opens_long2 (A1 A2 : Option Addr) (n1 c1 n2 c2 : Nat) (w : World) (hn : n1 ≤ 4000) (hn2 : 500 < n2) :
    Calls Try.prog 6 #[.slice A1 n1 c1, .slice A2 n2 c2] w (AwEnd w) := by
  have hn' : ¬ (4000 : Int) < (n1 : Int) := by omega
  have hn2' : (500 : Int) < (n2 : Int) := by omega
  go_enter Try.func6, Try.ntmps6
  go_wp2_with fail
  refine (awake_any w).mono ?_
  rintro e w1 ⟨rfl, hb1⟩
  go_wp2_with fail
  refine (awake_any w1).mono ?_
  rintro e w2 ⟨rfl, hb2⟩
  have hb := hb1.trans (hb2.mono hb1.size)
  go_wp2_with fail
  go_ret
  exact ⟨rfl, hb⟩
set_option maxRecDepth 100000 in
set_option maxHeartbeats 1000000 in
theorem opens_any (A1 A2 : Option Addr) (n1 c1 n2 c2 B : Nat) (d b : List UInt8) (w : World) (hd : Reads w B 1 A1 n1 (d.map byteV)) (hr : Reads w B 1 A2 n2 (b.map byteV)) (hB : B ≤ w.heap.size) (hn1 : n1 ≤ 4000) (hn2 : n2 ≤ 500) (hc1 : n1 ≤ c1) :
    Calls Try.prog 6 #[.slice A1 n1 c1, .slice A2 n2 c2] w (AwEnd w) := by
  obtain ⟨i0, hi, hz0, hz1, hz2⟩ := info_parts Try.info5
  obtain ⟨j0, ji, jz0, jz1, jz2⟩ := info_parts Try.info22
  have hn1' : ¬ (4000 : Int) < (n1 : Int) := by omega
  have hn2' : ¬ (500 : Int) < (n2 : Int) := by omega
  have hdl : d.length = n1 := by have := hd.1; simpa using this
  have hbl : b.length = n2 := by have := hr.1; simpa using this
  have HD := Lib.hid hd
  have HR := Lib.hid hr
  have HDL := Lib.hid hdl
  have HBL := Lib.hid hbl
  obtain ⟨PS, K, hF, hK, hPS⟩ := frames_get 4000 d (by omega)
  clear hdl hbl
  go_enter Try.func6, Try.ntmps6
  go_wp2_with fail
  refine (awake_any w).mono ?_
  rintro e w1 ⟨rfl, hb1⟩
  have hd1 := hd.below (hb1.mono hB)
  have hr1 := hr.below (hb1.mono hB)
  clear hd hr
  go_wp2_with fail
  refine (newS_any w1).mono ?_
  rintro e w2 ⟨rfl, hS2, hq⟩
  have hd2 := hd1.below (hq.mono (by have := hb1.size; omega))
  have hr2 := hr1.below (hq.mono (by have := hb1.size; omega))
  have hb2 := hb1.trans (hq.mono hb1.size)
  have hs12 := hq.size
  have hs01 := hb1.size
  clear hq hb1 hd1 hr1
  obtain ⟨F2, hF2, hS2⟩ : ∃ F2, Hid (∀ i, F2 i → w1.heap.size ≤ i ∧ i < w2.heap.size) ∧ SysM w2 w1.heap.size F2 (w1.heap.size + 1) w1.heap.size 0 emptyA := ⟨_, fun i hi => hi, hS2.cap⟩
  have HSZ := Lib.hid (show w.heap.size ≤ w1.heap.size ∧ w1.heap.size ≤ w2.heap.size from ⟨hs01, hs12⟩)
  clear hs12 hs01
  have happ := append_any w1.heap.size (w1.heap.size + 1) w1.heap.size 0 F2 emptyA A1 n1 c1 B d logN w2 hS2 hd2 (by have := HSZ.out; omega) HDL.out (by
    intro ad e hn hf
    obtain ⟨ad', e', hb, _⟩ := hd2.2 hn
    rw [e] at e'
    injection e' with e'
    subst e'
    have := hF2.out _ hf
    have := HSZ.out
    omega) (by omega) logN_size (by unfold maxLen; omega)
  rw [append_empty d (by rw [HDL.out]; omega)] at happ
  simp only [errV_zero] at happ
  clear hS2
  go_wp2_with fail
  refine happ.mono ?_
  clear happ
  rintro e w3 ⟨rfl, hS3, hk3⟩
  have hd3 := reads_keptP hd2 hk3 (by have := HSZ.out; omega) (by
    intro ad e hn hf
    obtain ⟨ad', e', hb, _⟩ := hd2.2 hn
    rw [e] at e'
    injection e' with e'
    subst e'
    have := hF2.out _ hf
    have := HSZ.out
    omega)
  have hr3 := reads_keptP hr2 hk3 (by have := HSZ.out; omega) (by
    intro ad e hn hf
    obtain ⟨ad', e', hb, _⟩ := hr2.2 hn
    rw [e] at e'
    injection e' with e'
    subst e'
    have := hF2.out _ hf
    have := HSZ.out
    omega)
  have hb3 := hk3.below hb2 (by have := HSZ.out; omega) fun i hi => by have := hF2.out _ hi; have := HSZ.out; omega
  have HSZ3 := Lib.hid hk3.size
  obtain ⟨F3, hF3, hS3⟩ : ∃ F3, Hid (∀ i, F3 i → w1.heap.size ≤ i ∧ i < w3.heap.size) ∧ SysM w3 w1.heap.size F3 (w1.heap.size + 1) w1.heap.size 1 (one d 0) := ⟨_, fun i hi => ⟨by
    rcases hi.1 with h | h
    · exact (hF2.out _ h).1
    · have := HSZ.out; omega, hi.2⟩, hS3.trim⟩
  clear hk3 hd2 hr2 hb2
  have hop := open_any w1.heap.size (w1.heap.size + 1) w1.heap.size 1 F3 (one d 0) logN w3 hS3 (fun i hi => (hF3.out i hi).2) logN_valid
  rw [open_one d 0 (by omega)] at hop
  unfold OpenEnd at hop
  simp only at hop
  rw [hF.out] at hop
  clear hS3
  go_wp2_with fail
  refine hop.mono ?_
  clear hop
  rintro e w4 ⟨wm, A4, c4, vs4, lb, rfl, hbm, hrow4, hpay4, hlb, hlbm, hL4, hk4⟩
  simp only [Nat.zero_min] at hL4
  have hF34 : ∀ i, F3 i ∨ i = lb → i < lb + 1 ∨ wm.heap.size ≤ i := fun i hi => by
    rcases hi with h | h
    · have := (hF3.out _ h).2; omega
    · omega
  have hH4 : LL w4 (.slice A4 PS.length c4) PS := LL.of_own (own_keptF hrow4 hk4 fun g hg hf => by have := hF34 g hf; have := hrow4.lt g hg; omega) (hpay4.keptF hk4 hF34).ok
  have hb4 : Below w.heap.size w w4 := hk4.below (hb3.trans (hbm.mono hb3.size)) (Nat.le_trans hb3.size hbm.size) fun i hi => by
    rcases hi with h | h
    · have := (hF3.out _ h).1; have := HSZ.out; omega
    · have := hb3.size; omega
  have HS4 := Lib.hid (show wm.heap.size ≤ w4.heap.size ∧ lb < w4.heap.size ∧ w.heap.size ≤ w4.heap.size from ⟨hk4.size, Nat.lt_of_lt_of_le hlbm hk4.size, hb4.size⟩)
  have HLB := Lib.hid (show w.heap.size ≤ lb by have := hb3.size; omega)
  obtain ⟨F4, hF4, hL4⟩ : ∃ F4, Hid (∀ i, F4 i → w1.heap.size ≤ i ∧ i < w4.heap.size) ∧ LogM w4 w1.heap.size F4 (w1.heap.size + 1) w1.heap.size 1 (one (d.take K) 0) lb logN PS.length K false := ⟨_, fun i hi => ⟨by
    rcases hi.1 with h | h
    · exact (hF3.out _ h).1
    · have := HSZ3.out; have := HSZ.out; have := hbm.size; omega, hi.2⟩, hL4⟩
  clear hk4 hbm hrow4 hpay4 hF34 hb3 hd3 hr3 hlb hlbm
  go_wp2_with fail
  refine (rframesL_any A1 n1 c1 B d w4 (HD.out.below (hb4.mono hB)) (by have := HS4.out; omega) (by omega) hc1).mono ?_
  intro e w5 h
  unfold FrEndL at h
  rw [hF.out] at h
  obtain ⟨A5, c5, vs5, rfl, hrow5, hpay5, hq⟩ := h
  simp only at hrow5 hpay5
  have hL5 := hL4.below hq
  have hH5 := hH4.below hq
  have hb5 := hb4.trans (hq.mono hb4.size)
  have HS5 := Lib.hid hq.size
  have hW5 : LL w5 (.slice A5 PS.length c5) PS := LL.of_own hrow5 hpay5.ok
  clear hq hL4 hH4 hb4
  go_wp2_with fail
  refine (same_any _ _ _ _ w5 hH5 hW5 (by omega)).mono ?_
  intro e w6 h
  obtain ⟨rfl, hq⟩ := h.to
  have hL6 := hL5.below hq
  have hrow6 := own_below hrow5 hq
  have hpay6 := hpay5.below hq
  have hb6 := hb5.trans (hq.mono hb5.size)
  have HS6 := Lib.hid hq.size
  clear h hq hL5 hrow5 hpay5 hb5 hH5 hW5
  go_wp2_with fail
  refine (lsize_any lb _ logN _ _ _ w6 hL6.2.1).mono ?_
  rintro e w' ⟨rfl, rfl⟩
  go_wp2_with fail
  refine (llen_any lb _ logN _ _ _ w6 hL6.2.1).mono ?_
  rintro e w' ⟨rfl, rfl⟩
  have hown0 := World.ownsRow_lit (e := 5) (size := 1) w6 #[.int .u8 9] 1 (Nat.le_refl _) (by decide) rfl
  have hr6 := (HR.out.below (hb6.mono hB)).alloc (Nat.le_trans hB hb6.size) (.cells #[.int .u8 9] 5)
  go_wp2_with (at_builtin; refine wpList_append_any _ rfl (.tmp 61) (.tmp 62) 22 rfl w6.heap.size 5 i0 (.int .u8 0) 1 1 Try.underlying22 hi hz0 hz1 hz2 rfl (by decide) _ _ _ rfl hown0 B _ n2 c2 (b.map byteV) rfl hr6 (oneB b) (by unfold maxLen; omega) (by omega) (by simp) ?_)
  intro v7 w7 hown7 hg7 _
  obtain ⟨A7, c7, rfl⟩ := own_form hown7
  have hq := below_own ((Below.refl w6.heap.size w6).alloc (Nat.le_refl _) (.cells #[.int .u8 9] 5)) (by simp) (Nat.le_refl _) hown0 hg7
  have hown7' : w7.ownsRow w6.heap.size 5 1 (.slice A7 (1 + n2) c7) (1 + n2) ((9 :: b).map byteV) := hown7
  have hL7 := hL6.below hq
  have hrow7 := own_below hrow6 hq
  have hpay7 := hpay6.below hq
  have hb7 := hb6.trans (hq.mono hb6.size)
  have HS7 := Lib.hid hq.size
  have HWO := Lib.hid (fun g hg => (hrow6.lt g hg))
  clear hown7 hg7 hown0 hr6 hL6 hrow6 hpay6 hb6 hq
  have hbl1 : (9 :: b).length = 1 + n2 := by simp; have := HBL.out; omega
  have HB1 := Lib.hid hbl1
  have hkl : (d.take K).length ≤ 4000 := by simp; have := HDL.out; omega
  have HKL := Lib.hid hkl
  clear hkl hbl1
  have hla := lapp_any w1.heap.size (w1.heap.size + 1) w1.heap.size 1 F4 (one (d.take K) 0) lb logN PS.length K false A7 (1 + n2) c7 _ (9 :: b) w7 hL7 (Reads.of_own hown7') (Nat.le_refl _) HB1.out logN_size (by unfold maxLen; omega) (by omega) (by omega) (by omega) (by omega)
  rw [lapp_one (d.take K) (9 :: b) 0 _ _ (by rw [HB1.out]; omega) (by rw [HB1.out]; omega) (by have := HKL.out; rw [HB1.out]; omega)] at hla
  simp only [errV_zero] at hla
  clear hL7
  go_wp2_with fail
  refine hla.mono ?_
  clear hla
  rintro e w8 ⟨rfl, hL8, hk8⟩
  have hlsn := lsync_any w1.heap.size (w1.heap.size + 1) w1.heap.size 2 _ (one (d.take K ++ frameL (9 :: b)) 0) lb logN _ _ false w8 hL8 logN_size
  rw [lsync_one _ 0 _ (by omega)] at hlsn
  simp only [errV_zero] at hlsn
  clear hL8
  go_wp2_with fail
  refine hlsn.mono ?_
  clear hlsn
  rintro e w9 ⟨rfl, hL9, hk9⟩
  have hk79 : Kept (fun i => F4 i ∨ i = lb) w7 w9 := hk8.trans (hk9.mono fun i hi => by
    rcases hi with h | h
    · rcases h.1 with h | h
      · exact .inl (.inl h)
      · exact .inr h
    · exact .inl (.inr h))
  obtain ⟨F9, hF9, hS9⟩ : ∃ F9, Hid (∀ i, F9 i → (F4 i ∨ w7.heap.size ≤ i) ∧ i < w9.heap.size) ∧ SysM w9 w1.heap.size F9 (w1.heap.size + 1) w1.heap.size 2 (one (d.take K ++ frameL (9 :: b)) (d.take K ++ frameL (9 :: b)).length) := ⟨_, fun i hi => ⟨by
    rcases hi.1 with h | h
    · exact h.1
    · exact .inr (Nat.le_trans hk8.size h), hi.2⟩, hL9.1⟩
  have HS9 := Lib.hid hk79.size
  clear hk8 hk9 hL9
  have hFR2 : frames (d.take K ++ frameL (9 :: b)) = (PS ++ [9 :: b], K + (8 + (1 + n2))) := by
    have h := frames_keep (frameL (9 :: b)) d.length d (Nat.le_refl _)
    rw [frames_one (9 :: b) (by rw [HB1.out]; omega) (by rw [HB1.out]; omega), hF.out, HB1.out] at h
    exact h
  have hop := open_any w1.heap.size (w1.heap.size + 1) w1.heap.size 2 F9 _ logN w9 hS9 (fun i hi => (hF9.out i hi).2) logN_valid
  rw [open_one _ _ (Nat.le_refl _)] at hop
  unfold OpenEnd at hop
  simp only at hop
  rw [hFR2] at hop
  clear hS9 hFR2
  go_wp2_with fail
  refine hop.mono ?_
  clear hop
  rintro e w10 ⟨wm, A10, c10, vs10, lb2, rfl, hbm, hrow10, hpay10, hlb2, hlbm2, _, hk10⟩
  rename_i hx; clear hx
  have hk9m : Kept (fun i => F4 i ∨ i = lb) w7 wm := hk79.trans (Kept.of_below hbm)
  have hk710 : Kept (fun i => F4 i ∨ i = lb) w7 w10 := hk9m.trans (hk10.mono fun i hi => by
    rcases hi with h | h
    · rcases (hF9.out _ h).1 with h | h
      · exact .inl (.inl h)
      · exact .inr h
    · exact .inr (by have := HS9.out; omega))
  have hG7 : ∀ i, F4 i ∨ i = lb → i < w4.heap.size := fun i hi => by
    rcases hi with h | h
    · exact (hF4.out _ h).2
    · have := HS4.out; omega
  have hrowW : w10.ownsRow w4.heap.size 22 1 (.slice A5 PS.length c5) PS.length vs5 := own_keptF hrow7 hk710 fun g hg hf => by have := hG7 g hf; have := hrow7.lt g hg; omega
  have hpayW := hpay7.keptF hk710 fun i hi => .inl (hG7 i hi)
  have hrowB : w10.ownsRow w6.heap.size 5 1 (.slice A7 (1 + n2) c7) (1 + n2) ((9 :: b).map byteV) := own_keptF hown7' hk710 fun g hg hf => by have := hG7 g hf; have := hown7'.lt g hg; have := HS5.out; have := HS6.out; omega
  have hpayB := PayL.of_own (lo := w4.heap.size) (N := (Value.slice A5 PS.length c5).ownBlock) hrowB (own_le hrowB) (fun g hg => (HWO.out g hg).2) (by have := HS5.out; have := HS6.out; omega)
  have hb10 := hk710.below hb7 hb7.size fun i hi => by
    rcases hi with h | h
    · have := (hF4.out _ h).1; have := HSZ.out; omega
    · have := HLB.out; omega
  have HS10 := Lib.hid (show w9.heap.size ≤ wm.heap.size ∧ wm.heap.size ≤ w10.heap.size ∧ w7.heap.size ≤ w10.heap.size from ⟨hbm.size, hk10.size, hk710.size⟩)
  have HH := Lib.hid (fun (w11 : World) (hg : w10.grownBy w11 (Value.slice A5 PS.length c5).ownBlock) => (show LL w11 (.slice A10 (PS ++ [9 :: b]).length c10) (PS ++ [9 :: b]) from by
    have hk : Kept (fun i => (F9 i ∨ i = lb2) ∨ (Value.slice A5 PS.length c5).ownBlock = some i) wm w11 := (hk10.mono fun i hi => .inl hi).trans (Kept.of_grown hg fun g hg => .inl (.inr hg))
    have hlt : ∀ i, (F9 i ∨ i = lb2) ∨ (Value.slice A5 PS.length c5).ownBlock = some i → i < lb2 + 1 ∨ wm.heap.size ≤ i := fun i hi => by
      rcases hi with (h | h) | h
      · have := (hF9.out _ h).2; omega
      · omega
      · have := HWO.out i h; have := HS7.out; have := HS9.out; omega
    exact LL.of_own (own_keptF hrow10 hk fun g hg hf => by have := hlt g hf; have := hrow10.lt g hg; omega) (hpay10.keptF hk hlt).ok))
  clear hk710 hk79 hk9m hk10 hrow10 hpay10 hrow7 hpay7 hown7' hbm hb7 hG7 hlb2 hlbm2
  have hA := World.grownBy_alloc w10 (.cells #[.slice A7 (1 + n2) c7] 22) (Value.slice A5 PS.length c5).ownBlock
  have hown11 := hrowW.alloc (.cells #[.slice A7 (1 + n2) c7] 22)
  have hrd := Reads.of_alloc w10 #[.slice A7 (1 + n2) c7] 22 (B := w10.heap.size + 1) (n := 1) (by omega) rfl
  have hbase : w4.heap.size ≤ w10.heap.size := by have := HS5.out; have := HS6.out; have := HS7.out; have := HS10.out; omega
  go_wp2_with (at_builtin; go_loud (refine wpList_append_on _ (by simp [Region.wanted, yielded]) (.tmp 83) (.tmp 85) 36 rfl w4.heap.size 22 j0 (.slice none 0 0) 1 24 Try.underlying36 ji jz0 jz1 jz2 rfl (by decide) _ _ _ rfl hown11 _ _ 1 1 _ rfl hrd (by intro u hu; simp at hu; subst hu; rfl) (by unfold maxLen; omega) (by omega) (by simp; omega) ?_))
  intro v11 w11 hown12 hg11 hvb
  obtain ⟨A11, c11, rfl⟩ := own_form hown12
  have hg := hA.trans hg11
  have hb11 := below_own hb10 hb10.size (by have := HS4.out; omega) hrowW hg
  have hpay11 := (hpayW.snoc hpayB).move (N' := (Value.slice A11 (PS.length + 1) c11).ownBlock) hg (by
    intro g hg
    rcases hvb with h | h
    · rw [h] at hg; exact .inl hg
    · rw [h] at hg; injection hg with hg; right; rw [← hg]; exact Nat.le_succ _)
  have hL11 := HH.out w11 hg
  have hW11 : LL w11 (.slice A11 (PS.length + 1) c11) (PS ++ [9 :: b]) := LL.of_own (base := w4.heap.size) (vs := vs5 ++ [.slice A7 (1 + n2) c7]) (by simpa using hown12) hpay11.ok
  clear hA hg hg11 hown11 hown12 hrd hrowW hpayW hpayB hrowB hpay11 hvb hb10
  rw [show (PS ++ [9 :: b]).length = PS.length + 1 by simp] at hL11
  go_wp2_with fail
  refine (same_any _ _ _ _ w11 hL11 hW11 (by simp; omega)).mono ?_
  intro e w12 h
  obtain ⟨rfl, hq⟩ := h.to
  have hb12 := hb11.trans (hq.mono hb11.size)
  clear h hq hL11 hW11 hb11
  go_wp2_with fail
  go_ret
  exact ⟨rfl, hb12⟩
theorem wOpens (A1 A2 : Option Addr) (n1 c1 n2 c2 : Nat) (d b : List UInt8) (w : World) (hd : Reads w w.heap.size 1 A1 n1 (d.map byteV)) (hr : Reads w w.heap.size 1 A2 n2 (b.map byteV)) (hc1 : n1 ≤ c1) :
    Calls Try.prog 6 #[.slice A1 n1 c1, .slice A2 n2 c2] w (AwEnd w) := by
  by_cases h1 : 4000 < n1
  · exact opens_long A1 A2 n1 c1 n2 c2 w h1
  · by_cases h2 : 500 < n2
    · exact opens_long2 A1 A2 n1 c1 n2 c2 w (by omega) h2
    · exact opens_any A1 A2 n1 c1 n2 c2 w.heap.size d b w hd hr (Nat.le_refl _) (by omega) (by omega) hc1
end Go.Proofs.Ytcppmmdkblmfoaa
