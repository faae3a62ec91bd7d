/- The walk of the reference's with. -/
import Derived.Test.YthmbmecodddkeaaRF3
namespace Go.Proofs.Ythmbmecodddkeaa
open Go.RowKit Go.WideMaps
def three (w : World) (fv a b x y z : Value) : World := ((w.alloc (.cells #[fv, a, b] 52)).alloc (.cells #[x, y, z] 86)).alloc (.cells #[.slice none 0 0, .int .i64 0, .bool false] 52)
theorem three_blk (w : World) (fv a b x y z : Value) : Blk (three w fv a b x y z) w.heap.size 52 #[fv, a, b] ∧ Blk (three w fv a b x y z) (w.heap.size + 1) 86 #[x, y, z] ∧ Blk (three w fv a b x y z) (w.heap.size + 2) 52 #[.slice none 0 0, .int .i64 0, .bool false] ∧ Below w.heap.size w (three w fv a b x y z) := by
  refine ⟨((Blk.new _ _ _).alloc _).alloc _, ?_, ?_, (((Below.refl _ _).alloc (Nat.le_refl _) _).alloc (by simp) _).alloc (by simp; omega) _⟩
  · have := (Blk.new (w.alloc (.cells #[fv, a, b] 52)) 86 #[x, y, z]).alloc (.cells #[.slice none 0 0, .int .i64 0, .bool false] 52)
    simpa [three] using this
  · have := Blk.new ((w.alloc (.cells #[fv, a, b] 52)).alloc (.cells #[x, y, z] 86)) 52 #[.slice none 0 0, .int .i64 0, .bool false]
    simpa [three] using this
theorem below_drewN' {B : Nat} {a w : World} (h : Below B a w) (n : Nat) : Below B a (w.drewN n) := ⟨h.os, h.tape, h.output, h.size, h.block⟩
theorem slice_lo (A : Option Addr) (m c k : Nat) (hk : k ≤ m) (w : World) : (Instr.slice 50 (.slice A m c) (some (.int .i64 (k : Int))) none none).run Try.prog w = .ok (.slice (if c = k then A else A.map (·.add (k * 3))) (m - k) (c - k)) w := by
  have q0 : (0 : Int) ≤ (k : Int) := by omega
  have q1 : (k : Int) ≤ (m : Int) := by omega
  by_cases h : c = k
  · subst h
    simp [go_sem, Try.underlying50, q0, q1]
  · simp [go_sem, Try.underlying50, q0, q1, h]
theorem psG_take {G : Nat → Prop} {w : World} {l : List PF} (k : Nat) (h : PsG G w l) : PsG G w (l.take k) := fun p hp => h p (List.mem_of_mem_take hp)
theorem psG_drop2 {G : Nat → Prop} {w : World} {l : List PF} (k : Nat) (h : PsG G w l) : PsG G w (l.drop k) := fun p hp => h p (List.mem_of_mem_drop hp)
theorem psG_mid {G : Nat → Prop} {w : World} {l : List PF} {x : PF} (k : Nat) (h : PsG G w l) (hx : PayG G w x.2 x.1.data) : PsG G w (l.take k ++ [x] ++ l.drop k) := by
  intro p hp
  simp only [List.append_assoc, List.mem_append, List.mem_singleton] at hp
  rcases hp with hp | rfl | hp
  · exact h p (List.mem_of_mem_take hp)
  · exact hx
  · exact h p (List.mem_of_mem_drop hp)
def WiRel (w2 : World) (d : List PF) (s : List UInt8) (m : Nat) (s5 : Value) (wr : World) : Prop :=
  ∃ k, k ≤ m ∧ s5 = .int .i64 (k : Nat) ∧ (∀ j (hj : j < d.length), j < k → bytesBefore (pn d[j]) s = true) ∧ Below w2.heap.size w2 wr
set_option maxRecDepth 100000 in
set_option maxHeartbeats 4000000 in
theorem rwith_any (G : Nat → Prop) (fv : Value) (l : List PF) (left : Int) (off : Bool) (s : ByteArray) (dv : Value) (data : List UInt8) (sync : Nat) (w : World) (hF : FsM G w fv l) (hp : PayG G w dv data) (hris : RisingG pn l) (hn : l.length ≤ 1000000) :
    Calls Try.prog 49 #[.agg #[fv, .int .i64 left, .bool off], .agg #[.string s, dv, .int .i64 (sync : Int)]] w (ReW G w (putG pn (⟨s.data.toList, data, sync⟩, dv) l) left off) := by
  obtain ⟨i0, hi, hz0, hz1, hz2⟩ := info_parts infoF
  have hput := putG_cut (nm := pn) ((⟨s.data.toList, data, sync⟩, dv) : PF) l hris
  obtain ⟨hka, hkf, hkb, hba⟩ := three_blk w fv (.int .i64 left) (.bool off) (.string s) dv (.int .i64 (sync : Int))
  obtain ⟨wa, hwa⟩ : ∃ wa, wa = three w fv (.int .i64 left) (.bool off) (.string s) dv (.int .i64 (sync : Int)) := ⟨_, rfl⟩
  rw [← hwa] at hka hkf hkb hba
  have hsa : w.heap.size + 3 ≤ wa.heap.size := by rw [hwa]; simp [three]
  have hwo := rwithout_any (fun i => G i ∧ i < w.heap.size) fv l left off s wa ((hF.mono fun i hi hg => ⟨hg, hi⟩).below hba) hn
  have hlen := dropG_len s.data.toList l
  obtain ⟨A, c, rfl, hF'⟩ : ∃ A c, fv = .slice A l.length c ∧ FsM G w fv l := by obtain ⟨A, c, h, h2⟩ := hF; exact ⟨A, c, h, A, c, h, h2⟩
  have hpay := Lib.hid (show ∀ w', Below w.heap.size w w' → PayG (fun i => G i ∧ i < w.heap.size) w' dv data from fun w' hb => (hp.mono fun i hi hg => ⟨hg, hi⟩).keptF (F := fun _ => False) (Kept.of_below hb) fun _ _ _ h => h)
  change putG pn _ l = (dropG pn s.data.toList l).take (leadG pn s.data.toList (dropG pn s.data.toList l)) ++ _ :: (dropG pn s.data.toList l).drop (leadG pn s.data.toList (dropG pn s.data.toList l)) at hput
  generalize dropG pn s.data.toList l = d at *
  obtain ⟨P, hP⟩ : ∃ P, P = putG pn (⟨s.data.toList, data, sync⟩, dv) l := ⟨_, rfl⟩
  rw [← hP] at hput ⊢
  clear hP
  generalize l.length = n at *
  unfold three at hwa
  have HWA := Lib.hid hwa
  have HB := Lib.hid hba
  have HKB := Lib.hid hkb
  have HKA := Lib.hid hka
  have HKF := Lib.hid hkf
  have HSA := Lib.hid hsa
  have HPUT := Lib.hid hput
  have x0 := hka.cell 0
  have x1 := hka.cell 1
  have x2 := hka.cell 2
  simp only [List.getElem?_toArray, List.getElem?_cons_zero, List.getElem?_cons_succ] at x0 x1 x2
  have f0 := hkf.cell 0
  simp only [List.getElem?_toArray, List.getElem?_cons_zero] at f0
  clear hwa hba hka hkb hkf hF hF' hp hris hput
  go_enter Try.func49, Try.ntmps49
  go_upto_region 1 with (fail)
  rw [← HWA.out]
  go_wp2_with fail
  refine hwo.mono ?_
  clear hwo x0 x1 x2 f0
  rintro e w1 ⟨fv1, rfl, hF1, hb1⟩
  obtain ⟨A1, c1, rfl, hc1, hr1, hA1, hp1⟩ := hF1
  obtain ⟨m, hm⟩ : ∃ m, d.length = m := ⟨_, rfl⟩
  rw [hm] at hc1 hr1 hA1 hlen ⊢
  have HM := Lib.hid hm
  have hk1 := HKA.out.below hb1 HKA.out.lt
  have x0 := hk1.cell 0
  have x1 := hk1.cell 1
  have x2 := hk1.cell 2
  simp only [List.getElem?_toArray, List.getElem?_cons_zero, List.getElem?_cons_succ] at x0 x1 x2
  have u0 := hk1.frozen 0
  have u1 := hk1.frozen 1
  have u2 := hk1.frozen 2
  go_upto_region 2 with (fail)
  obtain ⟨w2, hw2⟩ : ∃ w2, w2 = set3 w1 w.heap.size (.slice A1 m c1) (.int .i64 left) (.bool off) := ⟨_, rfl⟩
  have hk2 : Blk w2 w.heap.size 52 #[.slice A1 m c1, .int .i64 left, .bool off] := by rw [hw2]; exact set3_blk hk1 _ _ _
  have hq2 : Kept (fun i => i = w.heap.size) w1 w2 := by rw [hw2]; exact set3_kept _ _ _ _ _
  have hbw1 := HB.out.trans (hb1.mono HB.out.size)
  have hbw2 : Below w.heap.size w w2 := by rw [hw2]; exact set3_below hbw1 hbw1.size (Nat.le_refl _) _ _ _
  have hkf2 := (HKF.out.below hb1 HKF.out.lt).kept hq2 (show ¬ (w.heap.size + 1 = w.heap.size) by omega)
  have hkb2 := (HKB.out.below hb1 HKB.out.lt).kept hq2 (show ¬ (w.heap.size + 2 = w.heap.size) by omega)
  have hF2 : FsM (LoG G w.heap.size wa.heap.size) w2 (.slice A1 m c1) d := by
    have h : FsM (UpG (fun i => G i ∧ i < w.heap.size) wa.heap.size) w1 (.slice A1 m c1) d := ⟨A1, c1, by rw [HM.out], by rw [HM.out]; exact hc1, by rw [HM.out]; exact hr1, by rw [HM.out]; exact hA1, hp1⟩
    refine (h.mono (G' := LoG G w.heap.size wa.heap.size) fun i _ hi => hi).keptF hq2 fun i _ hi e => ?_
    have : i = w.heap.size := e
    have := HSA.out
    rcases hi with hi | hi <;> omega
  have hs2 : wa.heap.size ≤ w2.heap.size := Nat.le_trans hb1.size hq2.size
  unfold set3 at hw2
  rw [← hw2]
  clear hw2 x0 x1 x2 u0 u1 u2 hk1 hr1 hA1 hp1 hb1 hq2 hbw1 hm
  obtain ⟨A1', c1', e1, _, hr2, _, hps2⟩ := hF2
  injection e1 with e1 e2 e3
  subst e1 e3
  clear e2
  rw [HM.out] at hr2
  have HK2 := Lib.hid hk2
  have HKF2 := Lib.hid hkf2
  have HKB2 := Lib.hid hkb2
  have HBW2 := Lib.hid hbw2
  have HPS2 := Lib.hid hps2
  have HS2 := Lib.hid hs2
  clear hk2 hkf2 hkb2 hbw2 hps2 HKA HKF HKB
  go_wp2_with fail
  go_loopw [5] (fun s5 wr => WiRel w2 d s.data.toList m s5 wr) (fun s5 _ => m - (intOf s5).toNat)
  case atStart => exact ⟨0, Nat.zero_le _, rfl, fun j _ h => absurd h (by omega), Below.refl _ _⟩
  case round =>
    obtain ⟨k, hk, rfl, hall, hbr⟩ := hrel
    have hkA := HK2.out.below hbr HK2.out.lt
    have hkF := HKF2.out.below hbr HKF2.out.lt
    have HALL := Lib.hid hall
    clear hall
    have x0 := hkA.cell 0
    simp only [List.getElem?_toArray, List.getElem?_cons_zero] at x0
    have f0 := hkF.cell 0
    simp only [List.getElem?_toArray, List.getElem?_cons_zero] at f0
    by_cases hlt : k < m
    · have hkl : k < d.length := by have := HM.out; omega
      obtain ⟨b, o, e1, hbl, hc'⟩ := (hr2.below hbr).formN (by omega) (by decide)
      have c0 := hc' _ _ (cellsP_at d k hkl).1
      unfold strV at c0
      have hless := less_toList d[k].1.name s
      have hkm : (k : Int) < (m : Int) := by omega
      have hkd : decide ((k : Int) < (m : Int)) = true := decide_eq_true hkm
      have E1 := Lib.hid e1
      clear hc' e1
      cases hbf : bytesBefore d[k].1.name s.data.toList with
      | true =>
        rw [hbf] at hless
        have hnext : Hid (∀ j (hj : j < d.length), j < k + 1 → bytesBefore (pn d[j]) s.data.toList = true) := by
          intro j hj hjk
          by_cases e : j = k
          · subst e; exact hbf
          · exact HALL.out j hj (by omega)
        clear hbf
        generalize d[k].1.name = nm at *
        have hq1 := E1.out
        subst hq1
        go_wp2_with fail
        go_quiet (fail)
        go_wp2_with fail
        go_roundw
        · exact ⟨k + 1, by omega, by go_num, hnext.out, below_drewN' hbr _⟩
        · simp [intOf]; omega
      | false =>
        rw [hbf] at hless
        have HLD := Lib.hid (leadG_step (nm := pn) s.data.toList d k (fun j hj hjk => HALL.out j hj hjk) hkl hbf)
        clear hbf
        generalize d[k].1.name = nm at *
        have hq1 := E1.out
        subst hq1
        go_wp2_with fail
        go_quiet (fail)
        go_upto_region 5 with (fail)
        have hbq := below_drewN' hbr nq
        generalize wr.drewN nq = wq at *
        clear hbr hkA hkF x0 f0 c0 hless
        have hkA := HK2.out.below hbq HK2.out.lt
        have hkF := HKF2.out.below hbq HKF2.out.lt
        have hrq := hr2.below hbq
        have hsq := hbq.size
        have hlt0 : w.heap.size + 2 < wq.heap.size := by have := HS2.out; have := HSA.out; omega
        have hown0 := World.ownsRow_lit (e := 86) (size := 3) wq #[] 0 (Nat.le_refl _) (by decide) rfl
        have hrt := (hrq.takeN hk).alloc hbq.size (.cells #[] 86)
        rw [cellsP_take] at hrt
        have hone := (psG_take k HPS2.out).one
        have HSL := Lib.hid (fun W => slice_lo (some ⟨b, o, none⟩) m c1 k hk W)
        have hkAa := hkA.alloc (.cells #[] 86)
        have x0 := hkAa.cell 0
        simp only [List.getElem?_toArray, List.getElem?_cons_zero] at x0
        go_wp2_with (at_builtin; refine wpList_append_any _ rfl (.tmp 29) (.tmp 33) 50 rfl wq.heap.size 86 i0 (.agg #[.string ByteArray.empty, .slice none 0 0, .int .i64 0]) 3 48 Try.underlying50 hi hz0 hz1 hz2 rfl (by decide) _ _ _ rfl hown0 w2.heap.size _ _ _ (cellsP (d.take k)) rfl hrt hone (by unfold maxLen; omega) (by omega) (by simp) ?_)
        intro v3 w3 hown3 hg3 _
        obtain ⟨A3, c3, rfl⟩ := own_form hown3
        have hb3 := below_own ((Below.refl wq.heap.size wq).alloc (Nat.le_refl _) (.cells #[] 86)) (by simp) (Nat.le_refl _) hown0 hg3
        have hs3 := hb3.size
        clear hown0 hrt hone hg3 x0 hkAa
        have hkA3 := hkA.below hb3 hkA.lt
        have hkF3 := hkF.below hb3 hkF.lt
        have x0 := hkA3.cell 0
        simp only [List.getElem?_toArray, List.getElem?_cons_zero] at x0
        have f0 := hkF3.cell 0
        have f1 := hkF3.cell 1
        have f2 := hkF3.cell 2
        simp only [List.getElem?_toArray, List.getElem?_cons_zero, List.getElem?_cons_succ] at f0 f1 f2
        have ho3 := hown3.alloc (.cells #[.string s, dv, .int .i64 (sync : Int)] 86)
        have hrx := reads_newS w3 s dv data sync
        have hone := oneP (p := (⟨s.data.toList, data, sync⟩, dv)) (hpay.out w (Below.refl _ _))
        go_wp2_with (at_builtin; refine wpList_append_any _ rfl (.tmp 35) (.tmp 37) 50 rfl wq.heap.size 86 i0 (.agg #[.string ByteArray.empty, .slice none 0 0, .int .i64 0]) 3 48 Try.underlying50 hi hz0 hz1 hz2 rfl (by decide) _ _ _ rfl ho3 _ _ _ _ (cellsP [(⟨s.data.toList, data, sync⟩, dv)]) rfl hrx hone (by unfold maxLen; omega) (by omega) (by simp; omega) ?_)
        intro v4 w4 hown4 hg4 _
        obtain ⟨A4, c4, rfl⟩ := own_form hown4
        rw [← cellsP_append] at hown4
        have hb4 := below_own (hb3.alloc hs3 (.cells #[.string s, dv, .int .i64 (sync : Int)] 86)) (by simp; omega) (Nat.le_refl _) ho3 hg4
        have hs4 := hb4.size
        clear hown3 ho3 hrx hone hg4 x0 f0 f1 f2 hkA3 hkF3 hb3
        have hkA4 := hkA.below hb4 hkA.lt
        have hr4 := (hrq.below (hb4.mono hsq)).cut (k := k) (cap := c1) hk hc1
        rw [cellsP_drop] at hr4
        have hsl := HSL.out
        obtain ⟨A7, hA7⟩ : ∃ A7 : Option Addr, A7 = (if c1 = k then ((some ⟨b, o, none⟩) : Option Addr) else ((some ⟨b, o, none⟩) : Option Addr).map (·.add (k * 3))) := ⟨_, rfl⟩
        rw [← hA7] at hr4
        simp only [← hA7] at hsl
        have hone := (psG_drop2 k HPS2.out).one
        clear hA7 HSL
        have x0 := hkA4.cell 0
        simp only [List.getElem?_toArray, List.getElem?_cons_zero] at x0
        go_wp2_with (at_builtin; refine wpList_append_any _ rfl (.tmp 39) (.tmp 43) 50 rfl wq.heap.size 86 i0 (.agg #[.string ByteArray.empty, .slice none 0 0, .int .i64 0]) 3 48 Try.underlying50 hi hz0 hz1 hz2 rfl (by decide) _ _ _ rfl hown4 w2.heap.size _ _ _ (cellsP (d.drop k)) rfl hr4 hone (by unfold maxLen; omega) (by omega) hs4 ?_)
        intro v5 w5 hown5 hg5 _
        obtain ⟨A5, c5, rfl⟩ := own_form hown5
        rw [← cellsP_append] at hown5
        have hb5 := below_own hb4 hs4 (Nat.le_refl _) hown4 hg5
        have hs5 := hb5.size
        have hc5 := own_leN hown5 (by decide)
        have hPl : d.take k ++ [(⟨s.data.toList, data, sync⟩, dv)] ++ d.drop k = P := by rw [HPUT.out, HLD.out]; simp
        have hPn : P.length = k + 1 + (m - k) := by rw [← hPl]; simp [HM.out]; omega
        rw [hPl] at hown5
        have hq5 := hbq.trans (hb5.mono hsq)
        have hbw5 := HBW2.out.trans (hq5.mono HBW2.out.size)
        have HFP := Lib.hid (show FsM (LoG G w.heap.size wa.heap.size) w5 (.slice A5 (k + 1 + (m - k)) c5) P from FsM.of_own hown5 hPn hc5 (fun g hg _ => .inr (by have := HS2.out; omega)) (by rw [← hPl]; exact psG_mid k (HPS2.out.below hq5) ((hpay.out w5 hbw5).mono fun i _ h => .inl h)))
        have hkA5 := HK2.out.below hq5 HK2.out.lt
        have hkB5 := HKB2.out.below hq5 HKB2.out.lt
        have u0 := hkA5.frozen 0
        generalize k + 1 + (m - k) = N at *
        clear hown4 hg5 hr4 hone hsl hb4 hb5 x0 hrq hown5 hPl hPn hkA hkF hkA4
        have x0 := hkA5.cell 0
        simp only [List.getElem?_toArray, List.getElem?_cons_zero] at x0
        go_upto_region 8 with (fail)
        obtain ⟨w6, hw6⟩ : ∃ w6, w6 = w5.setCell ⟨w.heap.size, 0, none⟩ (.slice A5 N c5) := ⟨_, rfl⟩
        rw [← hw6]
        have hk1 := hkA5.set_ 0 (.slice A5 N c5)
        rw [← hw6] at hk1
        simp only [List.setIfInBounds_toArray, List.set_cons_zero] at hk1
        have hk2 := hkB5.far (p := ⟨w.heap.size, 0, none⟩) (show w.heap.size + 2 ≠ w.heap.size by omega) (.slice A5 N c5)
        rw [← hw6] at hk2
        have hb1 : Below w.heap.size w w6 := by rw [hw6]; exact hbw5.setCell (Nat.le_refl _) _
        have HK1 := Lib.hid (show Kept (fun i => i = w.heap.size) w5 w6 by rw [hw6]; exact kept_set w5 w.heap.size 0 _)
        clear hw6 x0 u0 hkA5 hkB5
        have x0 := hk1.cell 0
        have x1 := hk1.cell 1
        have x2 := hk1.cell 2
        simp only [List.getElem?_toArray, List.getElem?_cons_zero, List.getElem?_cons_succ] at x0 x1 x2
        have z0 := hk2.cell 0
        have z1 := hk2.cell 1
        have z2 := hk2.cell 2
        simp only [List.getElem?_toArray, List.getElem?_cons_zero, List.getElem?_cons_succ] at z0 z1 z2
        have y0 := hk2.frozen 0
        have y1 := hk2.frozen 1
        have y2 := hk2.frozen 2
        go_wp2_with fail
        obtain ⟨wF, hwF⟩ : ∃ wF, wF = set3 w6 (w.heap.size + 2) (.slice A5 N c5) (.int .i64 left) (.bool off) := ⟨_, rfl⟩
        have HKF0 := Lib.hid hwF
        have hkF : Blk wF (w.heap.size + 2) 52 #[(.slice A5 N c5 : Value), (.int .i64 left : Value), (.bool off : Value)] := by rw [hwF]; exact set3_blk hk2 _ _ _
        have hbF : Below w.heap.size w wF := by rw [hwF]; exact set3_below hb1 hb1.size (by omega) _ _ _
        have f0 := hkF.cell 0
        have f1 := hkF.cell 1
        have f2 := hkF.cell 2
        simp only [List.getElem?_toArray, List.getElem?_cons_zero, List.getElem?_cons_succ] at f0 f1 f2
        unfold set3 at hwF
        rw [← hwF]
        refine bodyPost_ret (v := .agg #[(.slice A5 N c5 : Value), (.int .i64 left : Value), (.bool off : Value)]) (by simp [results, Try.results49, go_sem, f0, f1, f2]) rfl ?_
        have HKF := Lib.hid (show Kept (fun i => i = w.heap.size + 2) w6 wF from HKF0 ▸ set3_kept _ _ _ _ _)
        exact ⟨_, rfl, ((HFP.out.keptF HK1.out (fun i _ hi e => by rcases hi with h | h; omega; have := HSA.out; omega)).keptF HKF.out (fun i _ hi e => by rcases hi with h | h; omega; have := HSA.out; omega)).mono (fun i _ hi => loG_up hi (by have := HSA.out; omega)), hbF⟩
    · have HLD := Lib.hid ((leadG_end (nm := pn) s.data.toList d (fun j hj => HALL.out j hj (by have := HM.out; omega))).trans (show d.length = k by have := HM.out; omega))
      have hkd : decide ((k : Int) < (m : Int)) = false := decide_eq_false (by omega)
      go_wp2_with fail
      go_quiet (fail)
      go_upto_region 5 with (fail)
      have hbq := below_drewN' hbr nq
      generalize wr.drewN nq = wq at *
      clear hbr hkA hkF x0 f0 
      have hkA := HK2.out.below hbq HK2.out.lt
      have hkF := HKF2.out.below hbq HKF2.out.lt
      have hrq := hr2.below hbq
      have hsq := hbq.size
      have hlt0 : w.heap.size + 2 < wq.heap.size := by have := HS2.out; have := HSA.out; omega
      have hown0 := World.ownsRow_lit (e := 86) (size := 3) wq #[] 0 (Nat.le_refl _) (by decide) rfl
      have hrt := (hrq.takeN hk).alloc hbq.size (.cells #[] 86)
      rw [cellsP_take] at hrt
      have hone := (psG_take k HPS2.out).one
      have HSL := Lib.hid (fun W => slice_lo A1 m c1 k hk W)
      have hkAa := hkA.alloc (.cells #[] 86)
      have x0 := hkAa.cell 0
      simp only [List.getElem?_toArray, List.getElem?_cons_zero] at x0
      go_wp2_with (at_builtin; refine wpList_append_any _ rfl (.tmp 29) (.tmp 33) 50 rfl wq.heap.size 86 i0 (.agg #[.string ByteArray.empty, .slice none 0 0, .int .i64 0]) 3 48 Try.underlying50 hi hz0 hz1 hz2 rfl (by decide) _ _ _ rfl hown0 w2.heap.size _ _ _ (cellsP (d.take k)) rfl hrt hone (by unfold maxLen; omega) (by omega) (by simp) ?_)
      intro v3 w3 hown3 hg3 _
      obtain ⟨A3, c3, rfl⟩ := own_form hown3
      have hb3 := below_own ((Below.refl wq.heap.size wq).alloc (Nat.le_refl _) (.cells #[] 86)) (by simp) (Nat.le_refl _) hown0 hg3
      have hs3 := hb3.size
      clear hown0 hrt hone hg3 x0 hkAa
      have hkA3 := hkA.below hb3 hkA.lt
      have hkF3 := hkF.below hb3 hkF.lt
      have x0 := hkA3.cell 0
      simp only [List.getElem?_toArray, List.getElem?_cons_zero] at x0
      have f0 := hkF3.cell 0
      have f1 := hkF3.cell 1
      have f2 := hkF3.cell 2
      simp only [List.getElem?_toArray, List.getElem?_cons_zero, List.getElem?_cons_succ] at f0 f1 f2
      have ho3 := hown3.alloc (.cells #[.string s, dv, .int .i64 (sync : Int)] 86)
      have hrx := reads_newS w3 s dv data sync
      have hone := oneP (p := (⟨s.data.toList, data, sync⟩, dv)) (hpay.out w (Below.refl _ _))
      go_wp2_with (at_builtin; refine wpList_append_any _ rfl (.tmp 35) (.tmp 37) 50 rfl wq.heap.size 86 i0 (.agg #[.string ByteArray.empty, .slice none 0 0, .int .i64 0]) 3 48 Try.underlying50 hi hz0 hz1 hz2 rfl (by decide) _ _ _ rfl ho3 _ _ _ _ (cellsP [(⟨s.data.toList, data, sync⟩, dv)]) rfl hrx hone (by unfold maxLen; omega) (by omega) (by simp; omega) ?_)
      intro v4 w4 hown4 hg4 _
      obtain ⟨A4, c4, rfl⟩ := own_form hown4
      rw [← cellsP_append] at hown4
      have hb4 := below_own (hb3.alloc hs3 (.cells #[.string s, dv, .int .i64 (sync : Int)] 86)) (by simp; omega) (Nat.le_refl _) ho3 hg4
      have hs4 := hb4.size
      clear hown3 ho3 hrx hone hg4 x0 f0 f1 f2 hkA3 hkF3 hb3
      have hkA4 := hkA.below hb4 hkA.lt
      have hr4 := (hrq.below (hb4.mono hsq)).cut (k := k) (cap := c1) hk hc1
      rw [cellsP_drop] at hr4
      have hsl := HSL.out
      obtain ⟨A7, hA7⟩ : ∃ A7 : Option Addr, A7 = (if c1 = k then (A1 : Option Addr) else (A1 : Option Addr).map (·.add (k * 3))) := ⟨_, rfl⟩
      rw [← hA7] at hr4
      simp only [← hA7] at hsl
      have hone := (psG_drop2 k HPS2.out).one
      clear hA7 HSL
      have x0 := hkA4.cell 0
      simp only [List.getElem?_toArray, List.getElem?_cons_zero] at x0
      go_wp2_with (at_builtin; refine wpList_append_any _ rfl (.tmp 39) (.tmp 43) 50 rfl wq.heap.size 86 i0 (.agg #[.string ByteArray.empty, .slice none 0 0, .int .i64 0]) 3 48 Try.underlying50 hi hz0 hz1 hz2 rfl (by decide) _ _ _ rfl hown4 w2.heap.size _ _ _ (cellsP (d.drop k)) rfl hr4 hone (by unfold maxLen; omega) (by omega) hs4 ?_)
      intro v5 w5 hown5 hg5 _
      obtain ⟨A5, c5, rfl⟩ := own_form hown5
      rw [← cellsP_append] at hown5
      have hb5 := below_own hb4 hs4 (Nat.le_refl _) hown4 hg5
      have hs5 := hb5.size
      have hc5 := own_leN hown5 (by decide)
      have hPl : d.take k ++ [(⟨s.data.toList, data, sync⟩, dv)] ++ d.drop k = P := by rw [HPUT.out, HLD.out]; simp
      have hPn : P.length = k + 1 + (m - k) := by rw [← hPl]; simp [HM.out]; omega
      rw [hPl] at hown5
      have hq5 := hbq.trans (hb5.mono hsq)
      have hbw5 := HBW2.out.trans (hq5.mono HBW2.out.size)
      have HFP := Lib.hid (show FsM (LoG G w.heap.size wa.heap.size) w5 (.slice A5 (k + 1 + (m - k)) c5) P from FsM.of_own hown5 hPn hc5 (fun g hg _ => .inr (by have := HS2.out; omega)) (by rw [← hPl]; exact psG_mid k (HPS2.out.below hq5) ((hpay.out w5 hbw5).mono fun i _ h => .inl h)))
      have hkA5 := HK2.out.below hq5 HK2.out.lt
      have hkB5 := HKB2.out.below hq5 HKB2.out.lt
      have u0 := hkA5.frozen 0
      generalize k + 1 + (m - k) = N at *
      clear hown4 hg5 hr4 hone hsl hb4 hb5 x0 hrq hown5 hPl hPn hkA hkF hkA4
      have x0 := hkA5.cell 0
      simp only [List.getElem?_toArray, List.getElem?_cons_zero] at x0
      go_upto_region 8 with (fail)
      obtain ⟨w6, hw6⟩ : ∃ w6, w6 = w5.setCell ⟨w.heap.size, 0, none⟩ (.slice A5 N c5) := ⟨_, rfl⟩
      rw [← hw6]
      have hk1 := hkA5.set_ 0 (.slice A5 N c5)
      rw [← hw6] at hk1
      simp only [List.setIfInBounds_toArray, List.set_cons_zero] at hk1
      have hk2 := hkB5.far (p := ⟨w.heap.size, 0, none⟩) (show w.heap.size + 2 ≠ w.heap.size by omega) (.slice A5 N c5)
      rw [← hw6] at hk2
      have hb1 : Below w.heap.size w w6 := by rw [hw6]; exact hbw5.setCell (Nat.le_refl _) _
      have HK1 := Lib.hid (show Kept (fun i => i = w.heap.size) w5 w6 by rw [hw6]; exact kept_set w5 w.heap.size 0 _)
      clear hw6 x0 u0 hkA5 hkB5
      have x0 := hk1.cell 0
      have x1 := hk1.cell 1
      have x2 := hk1.cell 2
      simp only [List.getElem?_toArray, List.getElem?_cons_zero, List.getElem?_cons_succ] at x0 x1 x2
      have z0 := hk2.cell 0
      have z1 := hk2.cell 1
      have z2 := hk2.cell 2
      simp only [List.getElem?_toArray, List.getElem?_cons_zero, List.getElem?_cons_succ] at z0 z1 z2
      have y0 := hk2.frozen 0
      have y1 := hk2.frozen 1
      have y2 := hk2.frozen 2
      go_wp2_with fail
      obtain ⟨wF, hwF⟩ : ∃ wF, wF = set3 w6 (w.heap.size + 2) (.slice A5 N c5) (.int .i64 left) (.bool off) := ⟨_, rfl⟩
      have HKF0 := Lib.hid hwF
      have hkF : Blk wF (w.heap.size + 2) 52 #[(.slice A5 N c5 : Value), (.int .i64 left : Value), (.bool off : Value)] := by rw [hwF]; exact set3_blk hk2 _ _ _
      have hbF : Below w.heap.size w wF := by rw [hwF]; exact set3_below hb1 hb1.size (by omega) _ _ _
      have f0 := hkF.cell 0
      have f1 := hkF.cell 1
      have f2 := hkF.cell 2
      simp only [List.getElem?_toArray, List.getElem?_cons_zero, List.getElem?_cons_succ] at f0 f1 f2
      unfold set3 at hwF
      rw [← hwF]
      refine bodyPost_ret (v := .agg #[(.slice A5 N c5 : Value), (.int .i64 left : Value), (.bool off : Value)]) (by simp [results, Try.results49, go_sem, f0, f1, f2]) rfl ?_
      have HKF := Lib.hid (show Kept (fun i => i = w.heap.size + 2) w6 wF from HKF0 ▸ set3_kept _ _ _ _ _)
      exact ⟨_, rfl, ((HFP.out.keptF HK1.out (fun i _ hi e => by rcases hi with h | h; omega; have := HSA.out; omega)).keptF HKF.out (fun i _ hi e => by rcases hi with h | h; omega; have := HSA.out; omega)).mono (fun i _ hi => loG_up hi (by have := HSA.out; omega)), hbF⟩
end Go.Proofs.Ythmbmecodddkeaa
