/- The walks of the reference log's Sync, Append, Crash, Open. The walk of the reference log's Append. The walk of the reference log's Crash. -/
import Derived.Test.YtcppmmdkblmfoaaRL
import Derived.Deep.CutRange
import Derived.Test.YtcppmmdkblmfoaaCrash
import Derived.Test.YtcppmmdkblmfoaaPays
import Derived.Deep.RegionHeld3
namespace Go.Proofs.Ytcppmmdkblmfoaa
open Go.RowKit Go.WideMaps
/-- A value that reads as a log; its bytes lie in blocks of G. -/
def RLM (G : Nat → Prop) (w : World) (v : Value) (r : RL) : Prop :=
  ∃ A1 n1 c1 A2 n2 c2, v = rlV (.slice A1 n1 c1) (.slice A2 n2 c2) r.left r.off r.br ∧ PayG G w (.slice A1 n1 c1) r.syn ∧ PayG G w (.slice A2 n2 c2) r.more
def RlEnd (G : Nat → Prop) (w : World) (r : RL) (x : Value) (e : Ending) (w' : World) : Prop :=
  ∃ v, e = .returned (.tuple #[v, x]) ∧ RLM (fun i => G i ∨ w.heap.size ≤ i) w' v r ∧ Below w.heap.size w w'
theorem PayG.below {G G' : Nat → Prop} {w w' : World} {v : Value} {p : List UInt8} (h : PayG G w v p) (hb : Below w.heap.size w w') (hG : ∀ i, i < w.heap.size → G i → G' i) : PayG G' w' v p :=
  (h.mono hG).keptF (F := fun _ => False) (Kept.of_below hb) fun _ _ _ h => h
theorem PayG.reads {G : Nat → Prop} {w : World} {A : Option Addr} {n c : Nat} {p : List UInt8} (h : PayG G w (.slice A n c) p) : p.length = n ∧ n ≤ c ∧ Reads w w.heap.size 1 A n (p.map byteV) := by
  obtain ⟨A', n', c', e, hc, hl, h⟩ := h
  injection e with e1 e2 e3
  subst e1 e2 e3
  refine ⟨hl, hc, by simp [hl], fun hn => ?_⟩
  obtain ⟨ad, e, hb, _, hcc⟩ := h hn
  exact ⟨ad, e, hb, hcc⟩
def set5 (w : World) (g : Nat) (b0 b1 b2 b3 b4 : Value) : World :=
  ((((w.setCell ⟨g, 0, none⟩ b0).setCell ⟨g, 1, none⟩ b1).setCell ⟨g, 2, none⟩ b2).setCell ⟨g, 3, none⟩ b3).setCell ⟨g, 4, none⟩ b4
theorem set5_blk {w : World} {g : Nat} {t : TypeId} {a0 a1 a2 a3 a4 : Value} (h : Blk w g t #[a0, a1, a2, a3, a4]) (b0 b1 b2 b3 b4 : Value) : Blk (set5 w g b0 b1 b2 b3 b4) g t #[b0, b1, b2, b3, b4] := by
  have := ((((h.set_ 0 b0).set_ 1 b1).set_ 2 b2).set_ 3 b3).set_ 4 b4
  simpa [set5] using this
theorem set5_kept (w : World) (g : Nat) (b0 b1 b2 b3 b4 : Value) : Kept (fun i => i = g) w (set5 w g b0 b1 b2 b3 b4) :=
  ((((kept_set w g 0 b0).trans ((kept_set _ g 1 b1).mono fun _ hi => .inl hi)).trans ((kept_set _ g 2 b2).mono fun _ hi => .inl hi)).trans ((kept_set _ g 3 b3).mono fun _ hi => .inl hi)).trans ((kept_set _ g 4 b4).mono fun _ hi => .inl hi)
def rSync (r : RL) : RL × Int :=
  if r.br = true then (r, 1) else if (r.syn ++ r.more).length = 0 then (r, 0)
  else if (opL r.left r.off).2.2 = false then (⟨r.syn, r.more, (opL r.left r.off).1, (opL r.left r.off).2.1, true⟩, 2)
  else (⟨r.syn ++ r.more, [], (opL r.left r.off).1, (opL r.left r.off).2.1, false⟩, 0)
set_option maxRecDepth 100000 in
set_option maxHeartbeats 2000000 in
theorem rsync_any (G : Nat → Prop) (v : Value) (r : RL) (w : World) (hR : RLM G w v r) (hl : -1 ≤ r.left) (hl2 : r.left ≤ 9223372036854775807) (hn : r.syn.length + r.more.length ≤ 1000000) :
    Calls Try.prog 48 #[v] w (RlEnd G w (rSync r).1 (.int .i64 (rSync r).2)) := by
  obtain ⟨A1, n1, c1, A2, n2, c2, rfl, hp1, hp2⟩ := hR
  obtain ⟨syn, more, left, off, br⟩ := r
  simp only at hp1 hp2 hl hl2 hn ⊢
  obtain ⟨e1, hc1, hr1⟩ := hp1.reads
  obtain ⟨e2, hc2, hr2⟩ := hp2.reads
  cases br
  · have HG := Lib.hid (show ∀ w', Below w.heap.size w w' → PayG (fun i => G i ∨ w.heap.size ≤ i) w' (.slice A1 n1 c1) syn ∧ PayG (fun i => G i ∨ w.heap.size ≤ i) w' (.slice A2 n2 c2) more from fun w' hb => ⟨hp1.below hb fun i _ h => .inl h, hp2.below hb fun i _ h => .inl h⟩)
    unfold rlV
    obtain ⟨wa, hwa⟩ : ∃ wa, wa = (w.alloc (.cells #[.slice A1 n1 c1, .slice A2 n2 c2, .int .i64 left, .bool off, .bool false] 57)).alloc (.cells #[.slice none 0 0, .slice none 0 0, .int .i64 0, .bool false, .bool false] 57) := ⟨_, rfl⟩
    have hka : Blk wa w.heap.size 57 #[.slice A1 n1 c1, .slice A2 n2 c2, .int .i64 left, .bool off, .bool false] := by rw [hwa]; exact (Blk.new _ _ _).alloc _
    have hkb : Blk wa (w.heap.size + 1) 57 #[.slice none 0 0, .slice none 0 0, .int .i64 0, .bool false, .bool false] := by
      have := Blk.new (w.alloc (.cells #[.slice A1 n1 c1, .slice A2 n2 c2, .int .i64 left, .bool off, .bool false] 57)) 57 #[.slice none 0 0, .slice none 0 0, .int .i64 0, .bool false, .bool false]
      rw [hwa]
      simpa using this
    have hba : Below w.heap.size w wa := by rw [hwa]; exact ((Below.refl _ _).alloc (Nat.le_refl _) _).alloc (by simp) _
    have hall := all_any A1 A2 n1 c1 n2 c2 w.heap.size syn more left off false wa (hr1.below hba) (hr2.below hba) hba.size (by omega) (by omega)
    unfold rlV at hall
    have HR := Lib.hid (show ∀ w', Below w.heap.size w w' → Reads w' w.heap.size 1 A1 n1 (syn.map byteV) ∧ Reads w' w.heap.size 1 A2 n2 (more.map byteV) from fun w' hb => ⟨hr1.below hb, hr2.below hb⟩)
    have HWA := Lib.hid hwa
    clear hwa hp1 hp2 hr1 hr2
    go_enter Try.func48, Try.ntmps48
    go_wp2_with fail
    rw [← HWA.out]
    refine hall.mono ?_
    rintro e w1 ⟨A3, c3, rfl, hown3, hq⟩
    clear hall
    have hk1 := hka.below hq hka.lt
    have hk2 := hkb.below hq hkb.lt
    have hb1 := hba.trans (hq.mono hba.size)
    have x0 := hk1.cell 0
    have x1 := hk1.cell 1
    have x2 := hk1.cell 2
    have x3 := hk1.cell 3
    have x4 := hk1.cell 4
    have z0 := hk2.cell 0
    have z1 := hk2.cell 1
    have z2 := hk2.cell 2
    have z3 := hk2.cell 3
    have z4 := hk2.cell 4
    have y0 := hk2.frozen 0
    have y1 := hk2.frozen 1
    have y2 := hk2.frozen 2
    have y3 := hk2.frozen 3
    have y4 := hk2.frozen 4
    simp only [List.getElem?_toArray, List.getElem?_cons_zero, List.getElem?_cons_succ] at x0 x1 x2 x3 x4 z0 z1 z2 z3 z4
    clear hka hkb hba hq hown3
    by_cases hz : (syn ++ more).length = 0
    · have HD := Lib.hid (show rSync ⟨syn, more, left, off, false⟩ = (⟨syn, more, left, off, false⟩, 0) by unfold rSync; rw [if_neg Bool.false_ne_true, if_pos hz])
      have hz0 : ((n1 : Int) + (n2 : Int) == 0) = true := by rw [List.length_append] at hz; rw [beq_iff_eq]; omega
      go_wp2_with fail
      obtain ⟨wF, hwF⟩ : ∃ wF, wF = set5 w1 (w.heap.size + 1) (Value.slice A1 n1 c1) (Value.slice A2 n2 c2) (Value.int .i64 left) (Value.bool off) (Value.bool false) := ⟨_, rfl⟩
      have hkF : Blk wF (w.heap.size + 1) 57 #[Value.slice A1 n1 c1, Value.slice A2 n2 c2, Value.int .i64 left, Value.bool off, Value.bool false] := by rw [hwF]; exact set5_blk hk2 _ _ _ _ _
      have hbF : Below w.heap.size w wF := by rw [hwF]; exact (set5_kept w1 (w.heap.size + 1) _ _ _ _ _).below hb1 hb1.size fun i hi => by have : i = w.heap.size + 1 := hi; rw [this]; exact Nat.le_succ _
      have f0 := hkF.cell 0
      have f1 := hkF.cell 1
      have f2 := hkF.cell 2
      have f3 := hkF.cell 3
      have f4 := hkF.cell 4
      simp only [List.getElem?_toArray, List.getElem?_cons_zero, List.getElem?_cons_succ] at f0 f1 f2 f3 f4
      unfold set5 at hwF
      rw [← hwF]
      refine bodyPost_ret (v := .tuple #[.agg #[Value.slice A1 n1 c1, Value.slice A2 n2 c2, Value.int .i64 left, Value.bool off, Value.bool false], .int .i64 0]) (by simp [results, Try.results48, go_sem, f0, f1, f2, f3, f4]) rfl ?_
      rw [HD.out]
      exact ⟨_, rfl, ⟨A1, n1, c1, A2, n2, c2, rfl, (HG.out wF hbF).1, (HG.out wF hbF).2⟩, hbF⟩
    · have hz0 : ((n1 : Int) + (n2 : Int) == 0) = false := by rw [List.length_append] at hz; rw [beq_eq_false_iff_ne]; omega
      have hop := op_any A1 A2 n1 c1 n2 c2 left off false w1 hl hl2
      unfold rlV at hop
      have HZ := Lib.hid hz
      clear hz
      go_wp2_with fail
      refine hop.mono ?_
      rintro e w2 ⟨rfl, hq⟩
      clear hop
      have hk3 := hk1.below hq hk1.lt
      have hk4 := hk2.below hq hk2.lt
      have hb2 := hb1.trans (hq.mono hb1.size)
      have x0 := hk3.cell 0
      have x1 := hk3.cell 1
      have x2 := hk3.cell 2
      have x3 := hk3.cell 3
      have x4 := hk3.cell 4
      have u0 := hk3.frozen 0
      have u1 := hk3.frozen 1
      have u2 := hk3.frozen 2
      have u3 := hk3.frozen 3
      have u4 := hk3.frozen 4
      have z0 := hk4.cell 0
      have z1 := hk4.cell 1
      have z2 := hk4.cell 2
      have z3 := hk4.cell 3
      have z4 := hk4.cell 4
      have y0 := hk4.frozen 0
      have y1 := hk4.frozen 1
      have y2 := hk4.frozen 2
      have y3 := hk4.frozen 3
      have y4 := hk4.frozen 4
      simp only [List.getElem?_toArray, List.getElem?_cons_zero, List.getElem?_cons_succ] at x0 x1 x2 x3 x4 z0 z1 z2 z3 z4
      clear hk1 hk2 hb1 hq
      have HOP := Lib.hid (rfl : opL left off = opL left off)
      obtain ⟨left', off', ok, ho⟩ : ∃ left' off' ok, opL left off = (left', off', ok) := ⟨_, _, _, rfl⟩
      simp only [ho]
      go_upto_if 19 with (fail)
      obtain ⟨wG, hwG⟩ : ∃ wG, wG = set5 w2 w.heap.size (Value.slice A1 n1 c1) (Value.slice A2 n2 c2) (Value.int .i64 left') (Value.bool off') (Value.bool false) := ⟨_, rfl⟩
      have hkG : Blk wG w.heap.size 57 #[Value.slice A1 n1 c1, Value.slice A2 n2 c2, Value.int .i64 left', Value.bool off', Value.bool false] := by rw [hwG]; exact set5_blk hk3 _ _ _ _ _
      have hkH : Blk wG (w.heap.size + 1) 57 #[.slice none 0 0, .slice none 0 0, .int .i64 0, .bool false, .bool false] := by rw [hwG]; exact hk4.kept (set5_kept w2 w.heap.size _ _ _ _ _) (by show ¬ (w.heap.size + 1 = w.heap.size); omega)
      have hbG : Below w.heap.size w wG := by rw [hwG]; exact (set5_kept w2 w.heap.size _ _ _ _ _).below hb2 hb2.size fun i hi => by have : i = w.heap.size := hi; rw [this]; exact Nat.le_refl _
      unfold set5 at hwG
      rw [← hwG]
      clear hwG hk3 hk4 hb2 x0 x1 x2 x3 x4 u0 u1 u2 u3 u4 z0 z1 z2 z3 z4 y0 y1 y2 y3 y4
      have x0 := hkG.cell 0
      have x1 := hkG.cell 1
      have x2 := hkG.cell 2
      have x3 := hkG.cell 3
      have x4 := hkG.cell 4
      have u0 := hkG.frozen 0
      have u1 := hkG.frozen 1
      have u2 := hkG.frozen 2
      have u3 := hkG.frozen 3
      have u4 := hkG.frozen 4
      simp only [List.getElem?_toArray, List.getElem?_cons_zero, List.getElem?_cons_succ] at x0 x1 x2 x3 x4
      cases ok
      · have HD := Lib.hid (show rSync ⟨syn, more, left, off, false⟩ = (⟨syn, more, left', off', true⟩, 2) by unfold rSync; rw [if_neg Bool.false_ne_true, if_neg HZ.out, if_pos (by simp only [ho])]; simp only [ho])
        clear ho
        go_upto_region 8 with (fail)
        obtain ⟨wI, hwI⟩ : ∃ wI, wI = wG.setCell ⟨w.heap.size, 4, none⟩ (Value.bool true) := ⟨_, rfl⟩
        rw [← hwI]
        have hkI : Blk wI w.heap.size 57 #[(Value.slice A1 n1 c1), (Value.slice A2 n2 c2), (Value.int .i64 left'), (Value.bool off'), (Value.bool true)] := by rw [hwI]; exact hkG.set_ 4 _
        have hkJ : Blk wI (w.heap.size + 1) 57 #[.slice none 0 0, .slice none 0 0, .int .i64 0, .bool false, .bool false] := by rw [hwI]; exact hkH.kept (kept_set wG w.heap.size 4 _) (by show ¬ (w.heap.size + 1 = w.heap.size); omega)
        have hbI : Below w.heap.size w wI := by rw [hwI]; exact (kept_set wG w.heap.size 4 _).below hbG hbG.size fun i hi => by have : i = w.heap.size := hi; rw [this]; exact Nat.le_refl _
        clear hwI hkG hkH hbG x0 x1 x2 x3 x4 u0 u1 u2 u3 u4
        have z0 := hkJ.cell 0
        have z1 := hkJ.cell 1
        have z2 := hkJ.cell 2
        have z3 := hkJ.cell 3
        have z4 := hkJ.cell 4
        simp only [List.getElem?_toArray, List.getElem?_cons_zero, List.getElem?_cons_succ] at z0 z1 z2 z3 z4
        have x0 := hkI.cell 0
        have x1 := hkI.cell 1
        have x2 := hkI.cell 2
        have x3 := hkI.cell 3
        have x4 := hkI.cell 4
        simp only [List.getElem?_toArray, List.getElem?_cons_zero, List.getElem?_cons_succ] at x0 x1 x2 x3 x4
        have y0 := hkJ.frozen 0
        have y1 := hkJ.frozen 1
        have y2 := hkJ.frozen 2
        have y3 := hkJ.frozen 3
        have y4 := hkJ.frozen 4
        go_wp2_with fail
        obtain ⟨wF, hwF⟩ : ∃ wF, wF = set5 wI (w.heap.size + 1) (Value.slice A1 n1 c1) (Value.slice A2 n2 c2) (Value.int .i64 left') (Value.bool off') (Value.bool true) := ⟨_, rfl⟩
        have hkF : Blk wF (w.heap.size + 1) 57 #[(Value.slice A1 n1 c1), (Value.slice A2 n2 c2), (Value.int .i64 left'), (Value.bool off'), (Value.bool true)] := by rw [hwF]; exact set5_blk hkJ _ _ _ _ _
        have hqF : Kept (fun i => i = w.heap.size + 1) wI wF := by rw [hwF]; exact set5_kept wI (w.heap.size + 1) _ _ _ _ _
        have hbF : Below w.heap.size w wF := hqF.below hbI hbI.size fun i hi => by have : i = w.heap.size + 1 := hi; rw [this]; exact Nat.le_succ _
        have f0 := hkF.cell 0
        have f1 := hkF.cell 1
        have f2 := hkF.cell 2
        have f3 := hkF.cell 3
        have f4 := hkF.cell 4
        simp only [List.getElem?_toArray, List.getElem?_cons_zero, List.getElem?_cons_succ] at f0 f1 f2 f3 f4
        unfold set5 at hwF
        rw [← hwF]
        refine bodyPost_ret (v := .tuple #[.agg #[(Value.slice A1 n1 c1), (Value.slice A2 n2 c2), (Value.int .i64 left'), (Value.bool off'), (Value.bool true)], .int .i64 2]) (by simp [results, Try.results48, go_sem, f0, f1, f2, f3, f4]) rfl ?_
        rw [HD.out]
        exact ⟨_, rfl, ⟨A1, n1, c1, A2, n2, c2, rfl, (HG.out wF hbF).1, (HG.out wF hbF).2⟩, hbF⟩
      · have HD := Lib.hid (show rSync ⟨syn, more, left, off, false⟩ = (⟨syn ++ more, [], left', off', false⟩, 0) by unfold rSync; rw [if_neg Bool.false_ne_true, if_neg HZ.out, if_neg (by simp only [ho]; decide)]; simp only [ho])
        clear ho
        have hall := all_any A1 A2 n1 c1 n2 c2 w.heap.size syn more left' off' false wG ((HR.out wG hbG).1) ((HR.out wG hbG).2) hbG.size (by omega) (by omega)
        unfold rlV at hall
        go_wp2_with fail
        refine hall.mono ?_
        rintro e w4 ⟨A4, c4, rfl, hown4, hq⟩
        clear hall x0 x1 x2 x3 x4 u0 u1 u2 u3 u4
        have hk1 := hkG.below hq hkG.lt
        have hk2 := hkH.below hq hkH.lt
        have hb4 := hbG.trans (hq.mono hbG.size)
        have hpay : PayG (fun i => wG.heap.size ≤ i) w4 (.slice A4 (n1 + n2) c4) (syn ++ more) := by
          have hl : (syn ++ more).length = n1 + n2 := by rw [List.length_append, e1, e2]
          rw [hl] at hown4
          exact PayG.of_own hown4 (own_le hown4) fun g hg _ => hg
        have HPY := Lib.hid hpay
        have HGS := Lib.hid hkH.lt
        clear hpay hown4 hkG hkH
        have x0 := hk1.cell 0
        have u0 := hk1.frozen 0
        simp only [List.getElem?_toArray, List.getElem?_cons_zero] at x0
        go_upto_region 10 with (fail)
        obtain ⟨wI, hwI⟩ : ∃ wI, wI = w4.setCell ⟨w.heap.size, 0, none⟩ (Value.slice A4 (n1 + n2) c4) := ⟨_, rfl⟩
        rw [← hwI]
        have hkI : Blk wI w.heap.size 57 #[.slice A4 (n1 + n2) c4, .slice A2 n2 c2, .int .i64 left', .bool off', .bool false] := by rw [hwI]; exact hk1.set_ 0 _
        have hkJ : Blk wI (w.heap.size + 1) 57 #[.slice none 0 0, .slice none 0 0, .int .i64 0, .bool false, .bool false] := by rw [hwI]; exact hk2.kept (kept_set w4 w.heap.size 0 _) (by show ¬ (w.heap.size + 1 = w.heap.size); omega)
        have hbI : Below w.heap.size w wI := by rw [hwI]; exact (kept_set w4 w.heap.size 0 _).below hb4 hb4.size fun i hi => by have : i = w.heap.size := hi; rw [this]; exact Nat.le_refl _
        have HWI := Lib.hid hwI
        clear x0 u0 hwI
        have x1 := hkI.cell 1
        have u1 := hkI.frozen 1
        simp only [List.getElem?_toArray, List.getElem?_cons_zero, List.getElem?_cons_succ] at x1
        go_upto_region 11 with (fail)
        obtain ⟨wK, hwK⟩ : ∃ wK, wK = wI.setCell ⟨w.heap.size, 1, none⟩ (Value.slice none 0 0) := ⟨_, rfl⟩
        rw [← hwK]
        have hkK : Blk wK w.heap.size 57 #[.slice A4 (n1 + n2) c4, .slice none 0 0, .int .i64 left', .bool off', .bool false] := by rw [hwK]; exact hkI.set_ 1 _
        have hkL : Blk wK (w.heap.size + 1) 57 #[.slice none 0 0, .slice none 0 0, .int .i64 0, .bool false, .bool false] := by rw [hwK]; exact hkJ.kept (kept_set wI w.heap.size 1 _) (by show ¬ (w.heap.size + 1 = w.heap.size); omega)
        have hbK : Below w.heap.size w wK := by rw [hwK]; exact (kept_set wI w.heap.size 1 _).below hbI hbI.size fun i hi => by have : i = w.heap.size := hi; rw [this]; exact Nat.le_refl _
        have hpK : PayG (fun i => wG.heap.size ≤ i) wK (.slice A4 (n1 + n2) c4) (syn ++ more) := by
          have hs := HGS.out
          rw [hwK, HWI.out]
          exact (HPY.out.keptF (kept_set w4 w.heap.size 0 _) fun i _ hi h => by have : i = w.heap.size := h; omega).keptF (kept_set _ w.heap.size 1 _) fun i _ hi h => by have : i = w.heap.size := h; omega
        have HPK := Lib.hid hpK
        clear hwK hkI hkJ hk1 hk2 x1 u1 hpK
        have z0 := hkL.cell 0
        have z1 := hkL.cell 1
        have z2 := hkL.cell 2
        have z3 := hkL.cell 3
        have z4 := hkL.cell 4
        simp only [List.getElem?_toArray, List.getElem?_cons_zero, List.getElem?_cons_succ] at z0 z1 z2 z3 z4
        have x0 := hkK.cell 0
        have x1 := hkK.cell 1
        have x2 := hkK.cell 2
        have x3 := hkK.cell 3
        have x4 := hkK.cell 4
        simp only [List.getElem?_toArray, List.getElem?_cons_zero, List.getElem?_cons_succ] at x0 x1 x2 x3 x4
        have y0 := hkL.frozen 0
        have y1 := hkL.frozen 1
        have y2 := hkL.frozen 2
        have y3 := hkL.frozen 3
        have y4 := hkL.frozen 4
        go_wp2_with fail
        obtain ⟨wF, hwF⟩ : ∃ wF, wF = set5 wK (w.heap.size + 1) (Value.slice A4 (n1 + n2) c4) (Value.slice none 0 0) (Value.int .i64 left') (Value.bool off') (Value.bool false) := ⟨_, rfl⟩
        have hkF : Blk wF (w.heap.size + 1) 57 #[(Value.slice A4 (n1 + n2) c4), (Value.slice none 0 0), (Value.int .i64 left'), (Value.bool off'), (Value.bool false)] := by rw [hwF]; exact set5_blk hkL _ _ _ _ _
        have hqF : Kept (fun i => i = w.heap.size + 1) wK wF := by rw [hwF]; exact set5_kept wK (w.heap.size + 1) _ _ _ _ _
        have hbF : Below w.heap.size w wF := hqF.below hbK hbK.size fun i hi => by have : i = w.heap.size + 1 := hi; rw [this]; exact Nat.le_succ _
        have f0 := hkF.cell 0
        have f1 := hkF.cell 1
        have f2 := hkF.cell 2
        have f3 := hkF.cell 3
        have f4 := hkF.cell 4
        simp only [List.getElem?_toArray, List.getElem?_cons_zero, List.getElem?_cons_succ] at f0 f1 f2 f3 f4
        unfold set5 at hwF
        rw [← hwF]
        refine bodyPost_ret (v := .tuple #[.agg #[(Value.slice A4 (n1 + n2) c4), (Value.slice none 0 0), (Value.int .i64 left'), (Value.bool off'), (Value.bool false)], .int .i64 0]) (by simp [results, Try.results48, go_sem, f0, f1, f2, f3, f4]) rfl ?_
        rw [HD.out]
        exact ⟨_, rfl, ⟨A4, n1 + n2, c4, none, 0, 0, rfl, (HPK.out.keptF hqF fun i _ hi h => by have : i = w.heap.size + 1 := h; have := HGS.out; omega).mono fun i _ hi => .inr (Nat.le_trans (Nat.le_of_lt (Nat.lt_of_succ_lt HGS.out)) hi), ⟨none, 0, 0, rfl, Nat.le_refl _, rfl, fun h => absurd h (Nat.lt_irrefl 0)⟩⟩, hbF⟩
  · have HD := Lib.hid (show rSync ⟨syn, more, left, off, true⟩ = (⟨syn, more, left, off, true⟩, 1) by unfold rSync; rw [if_pos rfl])
    unfold rlV
    have hP : ∀ w', Below w.heap.size w w' → RLM (fun i => G i ∨ w.heap.size ≤ i) w' (.agg #[.slice A1 n1 c1, .slice A2 n2 c2, .int .i64 left, .bool off, .bool true]) ⟨syn, more, left, off, true⟩ := fun w' hb => ⟨A1, n1, c1, A2, n2, c2, rfl, hp1.below hb fun i _ h => .inl h, hp2.below hb fun i _ h => .inl h⟩
    have HP := Lib.hid hP
    clear hP hp1 hp2 hr1 hr2 e1 e2
    go_enter Try.func48, Try.ntmps48
    go_wp2_with fail
    refine bodyPost_ret (v := .tuple #[.agg #[.slice A1 n1 c1, .slice A2 n2 c2, .int .i64 left, .bool off, .bool true], .int .i64 1]) (by simp [results, Try.results48, go_sem]) rfl ?_
    have hb : Below w.heap.size w _ := ((Below.refl w.heap.size w).alloc (Nat.le_refl _) (.cells #[.slice A1 n1 c1, .slice A2 n2 c2, .int .i64 left, .bool off, .bool true] 57)).alloc (by simp) (.cells #[.slice A1 n1 c1, .slice A2 n2 c2, .int .i64 left, .bool off, .bool true] 57)
    rw [HD.out]
    exact ⟨_, rfl, HP.out _ hb, hb⟩
end Go.Proofs.Ytcppmmdkblmfoaa
namespace Go.Proofs.Ytcppmmdkblmfoaa
open Go.RowKit Go.WideMaps
def rApp (r : RL) (b : List UInt8) : RL × Int :=
  if r.br = true then (r, 1)
  else if (opL r.left r.off).2.2 = false then (⟨r.syn, r.more, (opL r.left r.off).1, (opL r.left r.off).2.1, true⟩, 2)
  else (⟨r.syn, r.more ++ frameL b, (opL r.left r.off).1, (opL r.left r.off).2.1, false⟩, 0)
set_option maxRecDepth 100000 in
set_option maxHeartbeats 2000000 in
theorem rapp_any (G : Nat → Prop) (v : Value) (r : RL) (A : Option Addr) (n c B : Nat) (b : List UInt8) (w : World) (hR : RLM G w v r) (hr : Reads w B 1 A n (b.map byteV)) (hB : B ≤ w.heap.size) (hl : -1 ≤ r.left) (hl2 : r.left ≤ 9223372036854775807) (hn : r.more.length ≤ 1000000) (hn2 : n ≤ 1000000) :
    Calls Try.prog 51 #[v, .slice A n c] w (RlEnd G w (rApp r b).1 (.int .i64 (rApp r b).2)) := by
  obtain ⟨i0, hi, hz0, hz1, hz2⟩ := info_parts infoB
  obtain ⟨A1, n1, c1, A2, n2, c2, rfl, hp1, hp2⟩ := hR
  obtain ⟨syn, more, left, off, br⟩ := r
  simp only at hp1 hp2 hl hl2 hn ⊢
  obtain ⟨e2, hc2, hr2⟩ := hp2.reads
  have hbl : b.length = n := by have := hr.1; simpa using this
  have HBL := Lib.hid hbl
  have HE2 := Lib.hid e2
  have hn2m : n2 ≤ 1000000 := by omega
  clear hbl
  have HG := Lib.hid (show ∀ w', Below w.heap.size w w' → PayG (fun i => G i ∨ w.heap.size ≤ i) w' (.slice A1 n1 c1) syn ∧ PayG (fun i => G i ∨ w.heap.size ≤ i) w' (.slice A2 n2 c2) more from fun w' hb => ⟨hp1.below hb fun i _ h => .inl h, hp2.below hb fun i _ h => .inl h⟩)
  have HR := Lib.hid (show ∀ w', Below w.heap.size w w' → Reads w' B 1 A n (b.map byteV) ∧ Reads w' w.heap.size 1 A2 n2 (more.map byteV) from fun w' hb => ⟨hr.below (hb.mono hB), hr2.below hb⟩)
  clear hr hr2 hp1 hp2 hc2 e2 hn
  unfold rlV
  cases br
  · have hop := op_any A1 A2 n1 c1 n2 c2 left off false
    unfold rlV at hop
    obtain ⟨wa, hwa⟩ : ∃ wa, wa = (w.alloc (.cells #[.slice A1 n1 c1, .slice A2 n2 c2, .int .i64 left, .bool off, .bool false] 57)).alloc (.cells #[.slice none 0 0, .slice none 0 0, .int .i64 0, .bool false, .bool false] 57) := ⟨_, rfl⟩
    have hka : Blk wa w.heap.size 57 #[.slice A1 n1 c1, .slice A2 n2 c2, .int .i64 left, .bool off, .bool false] := by rw [hwa]; exact (Blk.new _ _ _).alloc _
    have hkb : Blk wa (w.heap.size + 1) 57 #[.slice none 0 0, .slice none 0 0, .int .i64 0, .bool false, .bool false] := by
      have := Blk.new (w.alloc (.cells #[.slice A1 n1 c1, .slice A2 n2 c2, .int .i64 left, .bool off, .bool false] 57)) 57 #[.slice none 0 0, .slice none 0 0, .int .i64 0, .bool false, .bool false]
      rw [hwa]
      simpa using this
    have hba : Below w.heap.size w wa := by rw [hwa]; exact ((Below.refl _ _).alloc (Nat.le_refl _) _).alloc (by simp) _
    replace hop := hop wa hl hl2
    have HWA := Lib.hid hwa
    clear hwa
    go_enter Try.func51, Try.ntmps51
    go_wp2_with fail
    rw [← HWA.out]
    refine hop.mono ?_
    rintro e w2 ⟨rfl, hq⟩
    clear hop
    have hk3 := hka.below hq hka.lt
    have hk4 := hkb.below hq hkb.lt
    have hb2 := hba.trans (hq.mono hba.size)
    clear hka hkb hba hq
    have x0 := hk3.cell 0
    have x1 := hk3.cell 1
    have x2 := hk3.cell 2
    have x3 := hk3.cell 3
    have x4 := hk3.cell 4
    simp only [List.getElem?_toArray, List.getElem?_cons_zero, List.getElem?_cons_succ] at x0 x1 x2 x3 x4
    have u0 := hk3.frozen 0
    have u1 := hk3.frozen 1
    have u2 := hk3.frozen 2
    have u3 := hk3.frozen 3
    have u4 := hk3.frozen 4
    obtain ⟨left', off', ok, ho⟩ : ∃ left' off' ok, opL left off = (left', off', ok) := ⟨_, _, _, rfl⟩
    simp only [ho]
    go_upto_if 16 with (fail)
    obtain ⟨wG, hwG⟩ : ∃ wG, wG = set5 w2 w.heap.size (Value.slice A1 n1 c1) (Value.slice A2 n2 c2) (Value.int .i64 left') (Value.bool off') (Value.bool false) := ⟨_, rfl⟩
    have hkG : Blk wG w.heap.size 57 #[(Value.slice A1 n1 c1), (Value.slice A2 n2 c2), (Value.int .i64 left'), (Value.bool off'), (Value.bool false)] := by rw [hwG]; exact set5_blk hk3 _ _ _ _ _
    have hkH : Blk wG (w.heap.size + 1) 57 #[.slice none 0 0, .slice none 0 0, .int .i64 0, .bool false, .bool false] := by rw [hwG]; exact hk4.kept (set5_kept w2 w.heap.size _ _ _ _ _) (by show ¬ (w.heap.size + 1 = w.heap.size); omega)
    have hbG : Below w.heap.size w wG := by rw [hwG]; exact (set5_kept w2 w.heap.size _ _ _ _ _).below hb2 hb2.size fun i hi => by have : i = w.heap.size := hi; rw [this]; exact Nat.le_refl _
    unfold set5 at hwG
    rw [← hwG]
    clear hwG hk3 hk4 hb2 x0 x1 x2 x3 x4 u0 u1 u2 u3 u4
    have x0 := hkG.cell 0
    have x1 := hkG.cell 1
    have x2 := hkG.cell 2
    have x3 := hkG.cell 3
    have x4 := hkG.cell 4
    simp only [List.getElem?_toArray, List.getElem?_cons_zero, List.getElem?_cons_succ] at x0 x1 x2 x3 x4
    have u0 := hkG.frozen 0
    have u1 := hkG.frozen 1
    have u2 := hkG.frozen 2
    have u3 := hkG.frozen 3
    have u4 := hkG.frozen 4
    cases ok
    · have HD := Lib.hid (show rApp ⟨syn, more, left, off, false⟩ b = (⟨syn, more, left', off', true⟩, 2) by unfold rApp; rw [if_neg Bool.false_ne_true, if_pos (by simp only [ho])]; simp only [ho])
      clear ho
      go_upto_region 6 with (fail)
      obtain ⟨wI, hwI⟩ : ∃ wI, wI = wG.setCell ⟨w.heap.size, 4, none⟩ (Value.bool true) := ⟨_, rfl⟩
      rw [← hwI]
      have hkI : Blk wI (w.heap.size) 57 #[(Value.slice A1 n1 c1), (Value.slice A2 n2 c2), (Value.int .i64 left'), (Value.bool off'), (Value.bool true)] := by rw [hwI]; exact hkG.set_ 4 _
      have hkJ : Blk wI (w.heap.size + 1) 57 #[.slice none 0 0, .slice none 0 0, .int .i64 0, .bool false, .bool false] := by rw [hwI]; exact hkH.kept (kept_set wG (w.heap.size) 4 _) (by show ¬ (w.heap.size + 1 = w.heap.size); omega)
      have hbI : Below w.heap.size w wI := by rw [hwI]; exact (kept_set wG (w.heap.size) 4 _).below hbG hbG.size fun i hi => by have : i = w.heap.size := hi; rw [this]; exact Nat.le_refl _
      have HwI := Lib.hid hwI
      clear hwI
      clear hkG hkH hbG x0 x1 x2 x3 x4 u0 u1 u2 u3 u4
      have x0 := hkI.cell 0
      have x1 := hkI.cell 1
      have x2 := hkI.cell 2
      have x3 := hkI.cell 3
      have x4 := hkI.cell 4
      simp only [List.getElem?_toArray, List.getElem?_cons_zero, List.getElem?_cons_succ] at x0 x1 x2 x3 x4
      have z0 := hkJ.cell 0
      have z1 := hkJ.cell 1
      have z2 := hkJ.cell 2
      have z3 := hkJ.cell 3
      have z4 := hkJ.cell 4
      simp only [List.getElem?_toArray, List.getElem?_cons_zero, List.getElem?_cons_succ] at z0 z1 z2 z3 z4
      have y0 := hkJ.frozen 0
      have y1 := hkJ.frozen 1
      have y2 := hkJ.frozen 2
      have y3 := hkJ.frozen 3
      have y4 := hkJ.frozen 4
      go_wp2_with fail
      obtain ⟨wF, hwF⟩ : ∃ wF, wF = set5 wI (w.heap.size + 1) (Value.slice A1 n1 c1) (Value.slice A2 n2 c2) (Value.int .i64 left') (Value.bool off') (Value.bool true) := ⟨_, rfl⟩
      have hkF : Blk wF (w.heap.size + 1) 57 #[(Value.slice A1 n1 c1), (Value.slice A2 n2 c2), (Value.int .i64 left'), (Value.bool off'), (Value.bool true)] := by rw [hwF]; exact set5_blk hkJ _ _ _ _ _
      have hqF : Kept (fun i => i = w.heap.size + 1) wI wF := by rw [hwF]; exact set5_kept wI (w.heap.size + 1) _ _ _ _ _
      have hbF : Below w.heap.size w wF := hqF.below hbI hbI.size fun i hi => by have : i = w.heap.size + 1 := hi; rw [this]; exact Nat.le_succ _
      have f0 := hkF.cell 0
      have f1 := hkF.cell 1
      have f2 := hkF.cell 2
      have f3 := hkF.cell 3
      have f4 := hkF.cell 4
      simp only [List.getElem?_toArray, List.getElem?_cons_zero, List.getElem?_cons_succ] at f0 f1 f2 f3 f4
      unfold set5 at hwF
      rw [← hwF]
      refine bodyPost_ret (v := .tuple #[.agg #[(Value.slice A1 n1 c1), (Value.slice A2 n2 c2), (Value.int .i64 left'), (Value.bool off'), (Value.bool true)], .int .i64 2]) (by simp [results, Try.results51, go_sem, f0, f1, f2, f3, f4]) rfl ?_
      rw [HD.out]
      exact ⟨_, rfl, ⟨A1, n1, c1, A2, n2, c2, rfl, (HG.out wF hbF).1, (HG.out wF hbF).2⟩, hbF⟩
    · have HD := Lib.hid (show rApp ⟨syn, more, left, off, false⟩ b = (⟨syn, more ++ frameL b, left', off', false⟩, 0) by unfold rApp; rw [if_neg Bool.false_ne_true, if_neg (by simp only [ho]; decide)]; simp only [ho])
      clear ho x0 x1 x2 x3 x4 u0 u1 u2 u3 u4
      have hqQ : Below wG.heap.size wG (wG.alloc (.cells #[] 5)) := (Below.refl _ _).alloc (Nat.le_refl _) _
      have hbQ := hbG.trans (hqQ.mono hbG.size)
      have hownQ : (wG.alloc (.cells #[] 5)).ownsRow wG.heap.size 5 1 (.slice (some ⟨wG.heap.size, 0, none⟩) 0 0) 0 [] := World.ownsRow_lit (e := 5) (size := 1) wG #[] 0 (Nat.le_refl _) (by decide) rfl
      have hrQ := (HR.out _ hbQ).2
      have hkQ : Blk (wG.alloc (.cells #[] 5)) w.heap.size 57 #[(Value.slice A1 n1 c1), (Value.slice A2 n2 c2), (Value.int .i64 left'), (Value.bool off'), (Value.bool false)] := hkG.alloc _
      have hkR : Blk (wG.alloc (.cells #[] 5)) (w.heap.size + 1) 57 #[.slice none 0 0, .slice none 0 0, .int .i64 0, .bool false, .bool false] := hkH.alloc _
      have hHG : w.heap.size + 1 < wG.heap.size := hkH.lt
      have hsQ := hqQ.size
      have x1 := hkQ.cell 1
      simp only [List.getElem?_toArray, List.getElem?_cons_zero, List.getElem?_cons_succ] at x1
      have hm1 : 0 + n2 ≤ maxLen := by unfold maxLen; omega
      have hm2 : (0 + n2) * 1 ≤ 140737488355328 := by omega
      clear hkG hkH
      go_wp2_with (at_builtin; refine wpList_append_any _ rfl (.tmp 19) (.tmp 21) 22 rfl wG.heap.size 5 i0 (.int .u8 0) 1 1 Try.underlying22 hi hz0 hz1 hz2 rfl (by decide) _ _ _ rfl hownQ w.heap.size A2 n2 c2 (more.map byteV) rfl hrQ (oneB _) hm1 hm2 hsQ ?_)
      intro v5 w5 hown5 hg5 _
      have hb5 := below_own hqQ hqQ.size (Nat.le_refl _) hownQ hg5
      obtain ⟨A5, c5, rfl⟩ := own_form hown5
      have hnQ : ∀ g, (Value.slice (some ⟨wG.heap.size, 0, none⟩) 0 0).ownBlock = some g → wG.heap.size ≤ g := fun g hg => (hownQ.lt g hg).1
      have hk5 : Blk w5 w.heap.size 57 #[(Value.slice A1 n1 c1), (Value.slice A2 n2 c2), (Value.int .i64 left'), (Value.bool off'), (Value.bool false)] := (hg5.block _ hkQ.lt (fun e => by have := hnQ _ e.symm; omega)).trans hkQ
      have hk6 : Blk w5 (w.heap.size + 1) 57 #[.slice none 0 0, .slice none 0 0, .int .i64 0, .bool false, .bool false] := (hg5.block _ hkR.lt (fun e => by have := hnQ _ e.symm; omega)).trans hkR
      have hbw5 := hbG.trans (hb5.mono hbG.size)
      have hfr := rframe_ok A n c B b w5 (HR.out _ hbw5).1 (Nat.le_trans hB hbw5.size) (by omega)
      clear hnQ hownQ hrQ hkQ hkR hg5 x1 hqQ hbQ hsQ hm1 hm2
      go_wp2_with fail
      refine hfr.mono ?_
      rintro e w6 ⟨A6, c6, rfl, hown6, hb6⟩
      clear hfr
      have hk7 := hk5.below hb6 hk5.lt
      have hk8 := hk6.below hb6 hk6.lt
      have hbw6 := hbw5.trans (hb6.mono hbw5.size)
      have ho6 := own_below hown5 hb6
      have hr6 := Reads.of_own hown6
      have hs6 : wG.heap.size ≤ w6.heap.size := Nat.le_trans hb5.size hb6.size
      have hm1 : n2 + (n + 8) ≤ maxLen := by unfold maxLen; omega
      have hm2 : (n2 + (n + 8)) * 1 ≤ 140737488355328 := by omega
      clear hk5 hk6 hown5 hown6 hb6
      go_wp2_with (at_builtin; refine wpList_append_any _ rfl (.tmp 22) (.tmp 24) 22 rfl wG.heap.size 5 i0 (.int .u8 0) 1 1 Try.underlying22 hi hz0 hz1 hz2 rfl (by decide) _ _ _ rfl ho6 w6.heap.size A6 (n + 8) c6 ((frameL b).map byteV) rfl hr6 (oneB _) hm1 hm2 hs6 ?_)
      intro v7 w7 hown7 hg7 _
      obtain ⟨A7, c7, rfl⟩ := own_form hown7
      have hn7 : ∀ g, (Value.slice A5 n2 c5).ownBlock = some g → wG.heap.size ≤ g := fun g hg => (ho6.lt g hg).1
      have hk1 : Blk w7 w.heap.size 57 #[(Value.slice A1 n1 c1), (Value.slice A2 n2 c2), (Value.int .i64 left'), (Value.bool off'), (Value.bool false)] := (hg7.block _ hk7.lt (fun e => by have := hn7 _ e.symm; omega)).trans hk7
      have hk2 : Blk w7 (w.heap.size + 1) 57 #[.slice none 0 0, .slice none 0 0, .int .i64 0, .bool false, .bool false] := (hg7.block _ hk8.lt (fun e => by have := hn7 _ e.symm; omega)).trans hk8
      have hb4 := below_own hbw6 hbw6.size (by omega) ho6 hg7
      have hpay : PayG (fun i => wG.heap.size ≤ i) w7 (.slice A7 (n2 + (n + 8)) c7) (more ++ frameL b) := by
        rw [← List.map_append] at hown7
        exact PayG.of_own hown7 (own_le hown7) fun g hg _ => hg
      have HPY := Lib.hid hpay
      have HGS := Lib.hid hHG
      clear hpay hown7 hg7 ho6 hr6 hk7 hk8 hbw6 hbw5 hb5 hs6 hn7
      have x1 := hk1.cell 1
      simp only [List.getElem?_toArray, List.getElem?_cons_zero, List.getElem?_cons_succ] at x1
      have u1 := hk1.frozen 1
      go_upto_region 8 with (fail)
      obtain ⟨wK, hwK⟩ : ∃ wK, wK = w7.setCell ⟨w.heap.size, 1, none⟩ (Value.slice A7 (n2 + (n + 8)) c7) := ⟨_, rfl⟩
      rw [← hwK]
      have hkK : Blk wK (w.heap.size) 57 #[(Value.slice A1 n1 c1), (Value.slice A7 (n2 + (n + 8)) c7), (Value.int .i64 left'), (Value.bool off'), (Value.bool false)] := by rw [hwK]; exact hk1.set_ 1 _
      have hkL : Blk wK (w.heap.size + 1) 57 #[.slice none 0 0, .slice none 0 0, .int .i64 0, .bool false, .bool false] := by rw [hwK]; exact hk2.kept (kept_set w7 (w.heap.size) 1 _) (by show ¬ (w.heap.size + 1 = w.heap.size); omega)
      have hbK : Below w.heap.size w wK := by rw [hwK]; exact (kept_set w7 (w.heap.size) 1 _).below hb4 hb4.size fun i hi => by have : i = w.heap.size := hi; rw [this]; exact Nat.le_refl _
      have HwK := Lib.hid hwK
      clear hwK
      have HPK := Lib.hid (show PayG (fun i => wG.heap.size ≤ i) wK (.slice A7 (n2 + (n + 8)) c7) (more ++ frameL b) by
        have hs := HGS.out
        rw [HwK.out]
        exact HPY.out.keptF (kept_set w7 w.heap.size 1 _) fun i _ hi h => by have : i = w.heap.size := h; omega)
      clear hk1 hk2 x1 u1
      have x0 := hkK.cell 0
      have x1 := hkK.cell 1
      have x2 := hkK.cell 2
      have x3 := hkK.cell 3
      have x4 := hkK.cell 4
      simp only [List.getElem?_toArray, List.getElem?_cons_zero, List.getElem?_cons_succ] at x0 x1 x2 x3 x4
      have z0 := hkL.cell 0
      have z1 := hkL.cell 1
      have z2 := hkL.cell 2
      have z3 := hkL.cell 3
      have z4 := hkL.cell 4
      simp only [List.getElem?_toArray, List.getElem?_cons_zero, List.getElem?_cons_succ] at z0 z1 z2 z3 z4
      have y0 := hkL.frozen 0
      have y1 := hkL.frozen 1
      have y2 := hkL.frozen 2
      have y3 := hkL.frozen 3
      have y4 := hkL.frozen 4
      go_wp2_with fail
      obtain ⟨wF, hwF⟩ : ∃ wF, wF = set5 wK (w.heap.size + 1) (Value.slice A1 n1 c1) (Value.slice A7 (n2 + (n + 8)) c7) (Value.int .i64 left') (Value.bool off') (Value.bool false) := ⟨_, rfl⟩
      have hkF : Blk wF (w.heap.size + 1) 57 #[(Value.slice A1 n1 c1), (Value.slice A7 (n2 + (n + 8)) c7), (Value.int .i64 left'), (Value.bool off'), (Value.bool false)] := by rw [hwF]; exact set5_blk hkL _ _ _ _ _
      have hqF : Kept (fun i => i = w.heap.size + 1) wK wF := by rw [hwF]; exact set5_kept wK (w.heap.size + 1) _ _ _ _ _
      have hbF : Below w.heap.size w wF := hqF.below hbK hbK.size fun i hi => by have : i = w.heap.size + 1 := hi; rw [this]; exact Nat.le_succ _
      have f0 := hkF.cell 0
      have f1 := hkF.cell 1
      have f2 := hkF.cell 2
      have f3 := hkF.cell 3
      have f4 := hkF.cell 4
      simp only [List.getElem?_toArray, List.getElem?_cons_zero, List.getElem?_cons_succ] at f0 f1 f2 f3 f4
      unfold set5 at hwF
      rw [← hwF]
      refine bodyPost_ret (v := .tuple #[.agg #[(Value.slice A1 n1 c1), (Value.slice A7 (n2 + (n + 8)) c7), (Value.int .i64 left'), (Value.bool off'), (Value.bool false)], .int .i64 0]) (by simp [results, Try.results51, go_sem, f0, f1, f2, f3, f4]) rfl ?_
      rw [HD.out]
      exact ⟨_, rfl, ⟨A1, n1, c1, A7, n2 + (n + 8), c7, rfl, (HG.out wF hbF).1, (HPK.out.keptF hqF fun i _ hi h => by have : i = w.heap.size + 1 := h; have := HGS.out; omega).mono fun i _ hi => .inr (Nat.le_trans (Nat.le_of_lt (Nat.lt_of_succ_lt HGS.out)) hi)⟩, hbF⟩
  · have HD := Lib.hid (show rApp ⟨syn, more, left, off, true⟩ b = (⟨syn, more, left, off, true⟩, 1) by unfold rApp; rw [if_pos rfl])
    go_enter Try.func51, Try.ntmps51
    go_wp2_with fail
    refine bodyPost_ret (v := .tuple #[.agg #[.slice A1 n1 c1, .slice A2 n2 c2, .int .i64 left, .bool off, .bool true], .int .i64 1]) (by simp [results, Try.results51, go_sem]) rfl ?_
    have hb : Below w.heap.size w _ := ((Below.refl w.heap.size w).alloc (Nat.le_refl _) (.cells #[.slice A1 n1 c1, .slice A2 n2 c2, .int .i64 left, .bool off, .bool true] 57)).alloc (by simp) (.cells #[.slice A1 n1 c1, .slice A2 n2 c2, .int .i64 left, .bool off, .bool true] 57)
    rw [HD.out]
    exact ⟨_, rfl, ⟨A1, n1, c1, A2, n2, c2, rfl, (HG.out _ hb).1, (HG.out _ hb).2⟩, hb⟩
end Go.Proofs.Ytcppmmdkblmfoaa
namespace Go.Proofs.Ytcppmmdkblmfoaa
open Go.RowKit Go.WideMaps
def rCrash (r : RL) (k : Int) : RL := ⟨r.syn ++ r.more.take (max 0 (min k r.more.length)).toNat, [], -1, false, false⟩
def RcEnd (G : Nat → Prop) (w : World) (r : RL) (e : Ending) (w' : World) : Prop :=
  ∃ v, e = .returned v ∧ RLM (fun i => G i ∨ w.heap.size ≤ i) w' v r ∧ Below w.heap.size w w'
set_option maxRecDepth 100000 in
set_option maxHeartbeats 2000000 in
theorem rcrash_any (G : Nat → Prop) (v : Value) (r : RL) (k : Int) (w : World) (hR : RLM G w v r) (hn1 : r.syn.length ≤ 1000000) (hn2 : r.more.length ≤ 1000000) :
    Calls Try.prog 50 #[v, .int .i64 k] w (RcEnd G w (rCrash r k)) := by
  obtain ⟨i0, hi, hz0, hz1, hz2⟩ := info_parts infoB
  obtain ⟨A1, n1, c1, A2, n2, c2, rfl, hp1, hp2⟩ := hR
  obtain ⟨syn, more, left, off, br⟩ := r
  simp only at hp1 hp2 hn1 hn2 ⊢
  obtain ⟨e1, hc1, hr1⟩ := hp1.reads
  obtain ⟨e2, hc2, hr2⟩ := hp2.reads
  obtain ⟨n, hn⟩ : ∃ n : Nat, n = (max 0 (min k (n2 : Int))).toNat := ⟨_, rfl⟩
  have hnm : max 0 (min k (n2 : Int)) = (n : Int) := by rw [hn]; omega
  have hnle : n ≤ n2 := by omega
  unfold rlV
  obtain ⟨wb, hwb⟩ : ∃ wb, wb = (w.alloc (.cells #[.slice A1 n1 c1, .slice A2 n2 c2, .int .i64 left, .bool off, .bool br] 57)).alloc (.cells #[.slice none 0 0, .slice none 0 0, .int .i64 0, .bool false, .bool false] 57) := ⟨_, rfl⟩
  have hka : Blk wb w.heap.size 57 #[.slice A1 n1 c1, .slice A2 n2 c2, .int .i64 left, .bool off, .bool br] := by rw [hwb]; exact (Blk.new _ _ _).alloc _
  have hkb : Blk wb (w.heap.size + 1) 57 #[.slice none 0 0, .slice none 0 0, .int .i64 0, .bool false, .bool false] := by
    have := Blk.new (w.alloc (.cells #[.slice A1 n1 c1, .slice A2 n2 c2, .int .i64 left, .bool off, .bool br] 57)) 57 #[.slice none 0 0, .slice none 0 0, .int .i64 0, .bool false, .bool false]
    rw [hwb]
    simpa using this
  have hba : Below w.heap.size w wb := by rw [hwb]; exact ((Below.refl _ _).alloc (Nat.le_refl _) _).alloc (by simp) _
  have HWB := Lib.hid hwb
  have HN := Lib.hid hn
  have x0 := hka.cell 0
  have x1 := hka.cell 1
  simp only [List.getElem?_toArray, List.getElem?_cons_zero, List.getElem?_cons_succ] at x0 x1
  clear hwb hn
  go_enter Try.func50, Try.ntmps50
  go_upto_region 1 with (fail)
  rw [← HWB.out]
  go_upto_region 2 with (fail)
  have hq : Below wb.heap.size wb ((wb.alloc (.cells #[] 5)).drew) := ((Below.refl _ _).alloc (Nat.le_refl _) _).drew
  have hown6d : ((wb.alloc (.cells #[] 5)).drew).ownsRow wb.heap.size 5 1 (.slice (some ⟨wb.heap.size, 0, none⟩) 0 0) 0 [] := World.ownsRow_lit (e := 5) (size := 1) wb #[] 0 (Nat.le_refl _) (by decide) rfl
  have hrA : Reads ((wb.alloc (.cells #[] 5)).drew) w.heap.size 1 A1 n1 (syn.map byteV) := (hr1.below hba).below (hq.mono hba.size)
  have hs1 : 0 + n1 ≤ maxLen := by unfold maxLen; omega
  have hs2 : (0 + n1) * 1 ≤ 140737488355328 := by omega
  have hs3 : wb.heap.size ≤ ((wb.alloc (.cells #[] 5)).drew).heap.size := hq.size
  have ht1 : 0 + n1 + n ≤ maxLen := by unfold maxLen; omega
  have ht2 : (0 + n1 + n) * 1 ≤ 140737488355328 := by omega
  have hsl : ∀ W : World, (Instr.slice 22 (.slice A2 n2 c2) none (some (.int .i64 (n : Int))) none).run Try.prog W = .ok (.slice A2 n c2) W := slice_to A2 n2 c2 n (by omega)
  have K1 := Lib.hid (show ∀ w1 : World, ((wb.alloc (.cells #[] 5)).drew).grownBy w1 (Value.slice (some ⟨wb.heap.size, 0, none⟩) 0 0).ownBlock → Below wb.heap.size wb w1 from fun w1 hg => hq.grown hg hs3 (fun g h => (hown6d.lt g h).1))
  have K2 := Lib.hid (show ∀ w' : World, Below wb.heap.size wb w' → w'.cell? ⟨w.heap.size, 0, none⟩ = some (.slice A1 n1 c1) ∧ w'.cell? ⟨w.heap.size, 1, none⟩ = some (.slice A2 n2 c2) ∧ w'.cell? ⟨w.heap.size + 1, 0, none⟩ = some (.slice none 0 0) ∧ w'.cell? ⟨w.heap.size + 1, 1, none⟩ = some (.slice none 0 0) ∧ w'.cell? ⟨w.heap.size + 1, 2, none⟩ = some (.int .i64 0) ∧ w'.cell? ⟨w.heap.size + 1, 3, none⟩ = some (.bool false) ∧ w'.cell? ⟨w.heap.size + 1, 4, none⟩ = some (.bool false) ∧ w'.frozen? ⟨w.heap.size + 1, 0, none⟩ = false ∧ w'.frozen? ⟨w.heap.size + 1, 1, none⟩ = false ∧ w'.frozen? ⟨w.heap.size + 1, 2, none⟩ = false ∧ w'.frozen? ⟨w.heap.size + 1, 3, none⟩ = false ∧ w'.frozen? ⟨w.heap.size + 1, 4, none⟩ = false from fun w' hb => by
    have h1 := hka.below hb hka.lt
    have h2 := hkb.below hb hkb.lt
    exact ⟨h1.cell 0, h1.cell 1, h2.cell 0, h2.cell 1, h2.cell 2, h2.cell 3, h2.cell 4, h2.frozen 0, h2.frozen 1, h2.frozen 2, h2.frozen 3, h2.frozen 4⟩)
  have K3 := Lib.hid (show ∀ w1 : World, Below wb.heap.size wb w1 → Reads w1 w.heap.size 1 A2 n ((more.take n).map byteV) from fun w1 h => by
    rw [List.map_take]
    exact ((hr2.below hba).below (h.mono hba.size)).take_ hnle)
  have K4 := Lib.hid (show ∀ w1 : World, Below wb.heap.size wb w1 → Blk w1 (w.heap.size + 1) 57 #[.slice none 0 0, .slice none 0 0, .int .i64 0, .bool false, .bool false] from fun w1 hb => hkb.below hb hkb.lt)
  have HB := Lib.hid hba
  have HP := Lib.hid (show ∀ w', Below w.heap.size w w' → (more.take n).length = n from fun _ _ => by rw [List.length_take]; omega)
  have HL1 := Lib.hid e1
  have HE2 := Lib.hid e2
  have HSZ := Lib.hid hkb.lt
  obtain ⟨y0, y1, y2, y3, y4, y5, y6, y7, y8, y9, y10, y11⟩ := K2.out wb (Below.refl _ _)
  clear hr1 hr2 hba hka hkb hq hp1 hp2 x0 x1 e1 e2
  go_region_held3 (fun w' => w'.cell? ⟨w.heap.size, 0, none⟩ = some (.slice A1 n1 c1) ∧ w'.cell? ⟨w.heap.size, 1, none⟩ = some (.slice A2 n2 c2))
    (first | go_keep | (go_split_ands; exact ⟨by assumption, by assumption⟩) | assumption)
    (first
      | (refine step_append_any _ rfl (.tmp 15) (.tmp 19) 22 rfl wb.heap.size 5 i0 (.int .u8 0) 1 1 Try.underlying22 hi hz0 hz1 hz2 rfl (by decide) (.slice A3 (0 + n1) c3) (0 + n1) ([] ++ syn.map byteV) rfl hown1 w.heap.size A2 n c2 ((more.take n).map byteV) rfl hr2' (oneB _) ht1 ht2 hs22 ?_; intro v2 w2 hown2 hg2 hv2; obtain ⟨A4, c4, rfl⟩ := own_form hown2; have hb2 := below_own hb1 hb1.size (Nat.le_refl _) hown1 hg2; obtain ⟨b0, b1, b2, b3, b4, b5, b6, b7, b8, b9, b10, b11⟩ := K2.out _ hb2)
      | (refine step_append_any _ rfl (.tmp 12) (.tmp 14) 22 rfl wb.heap.size 5 i0 (.int .u8 0) 1 1 Try.underlying22 hi hz0 hz1 hz2 rfl (by decide) (.slice (some ⟨wb.heap.size, 0, none⟩) 0 0) 0 [] rfl hown6d w.heap.size A1 n1 c1 (syn.map byteV) rfl hrA (oneB _) hs1 hs2 hs3 ?_; intro v1 w1 hown1 hg1 hv1; obtain ⟨A3, c3, rfl⟩ := own_form hown1; have hb1 := K1.out _ hg1; have hr2' := K3.out _ hb1; have hs22 := hb1.size; obtain ⟨a0, a1, a2, a3, a4, a5, a6, a7, a8, a9, a10, a11⟩ := K2.out _ hb1))
  obtain ⟨wF, hwF⟩ : ∃ wF, wF = set5 w2 (w.heap.size + 1) (Value.slice A4 (n1 + n) c4) (Value.slice none 0 0) (Value.int .i64 (-1)) (Value.bool false) (Value.bool false) := ⟨_, rfl⟩
  have hkF : Blk wF (w.heap.size + 1) 57 #[(Value.slice A4 (n1 + n) c4), (Value.slice none 0 0), (Value.int .i64 (-1)), (Value.bool false), (Value.bool false)] := by rw [hwF]; exact set5_blk (K4.out _ hb2) _ _ _ _ _
  have hqF : Kept (fun i => i = w.heap.size + 1) w2 wF := by rw [hwF]; exact set5_kept w2 (w.heap.size + 1) _ _ _ _ _
  have hbw2 : Below w.heap.size w w2 := HB.out.trans (hb2.mono HB.out.size)
  have hbF : Below w.heap.size w wF := hqF.below hbw2 hbw2.size fun i hi => by have : i = w.heap.size + 1 := hi; rw [this]; exact Nat.le_succ _
  have HPK := Lib.hid (show PayG (fun i => wb.heap.size ≤ i) w2 (.slice A4 (n1 + n) c4) (syn ++ more.take n) from by
    rw [Nat.zero_add, List.nil_append, ← List.map_append] at hown2
    exact PayG.of_own hown2 (own_le hown2) fun g hg _ => hg)
  have HGF := Lib.hid (show PayG (fun i => G i ∨ w.heap.size ≤ i) wF (.slice A4 (n1 + n) c4) (syn ++ more.take n) from
    (HPK.out.keptF hqF fun i _ hi h => by have : i = w.heap.size + 1 := h; have := HSZ.out; omega).mono fun i _ hi => .inr (by have := HSZ.out; omega))
  clear hown1 hown2 hg1 hg2 hb1 hr2' hown6d hrA
  have f0 := hkF.cell 0
  have f1 := hkF.cell 1
  have f2 := hkF.cell 2
  have f3 := hkF.cell 3
  have f4 := hkF.cell 4
  simp only [List.getElem?_toArray, List.getElem?_cons_zero, List.getElem?_cons_succ] at f0 f1 f2 f3 f4
  unfold set5 at hwF
  rw [← hwF]
  clear b0 b1 b2 b3 b4 b5 b6 b7 b8 b9 b10 b11 a0 a1 a2 a3 a4 a5 a6 a7 a8 a9 a10 a11 y0 y1 y2 y3 y4 y5 y6 y7 y8 y9 y10 y11
  go_wp2_with fail
  refine bodyPost_ret (v := .agg #[(Value.slice A4 (n1 + n) c4), (Value.slice none 0 0), (Value.int .i64 (-1)), (Value.bool false), (Value.bool false)]) (by simp [results, Try.results50, go_sem, f0, f1, f2, f3, f4]) rfl ?_
  have hD : rCrash ⟨syn, more, left, off, br⟩ k = ⟨syn ++ more.take n, [], -1, false, false⟩ := by
    unfold rCrash
    simp only [HE2.out]
    rw [← HN.out]
  rw [hD]
  exact ⟨_, rfl, ⟨A4, n1 + n, c4, none, 0, 0, rfl, HGF.out, ⟨none, 0, 0, rfl, Nat.le_refl _, rfl, fun h => absurd h (Nat.lt_irrefl 0)⟩⟩, hbF⟩
end Go.Proofs.Ytcppmmdkblmfoaa
