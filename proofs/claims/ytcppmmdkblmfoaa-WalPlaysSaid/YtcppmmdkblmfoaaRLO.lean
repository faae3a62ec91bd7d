/- The walk of the reference log's Open. -/
import Derived.Test.YtcppmmdkblmfoaaRLS
import Derived.Test.YtcppmmdkblmfoaaRFrames
namespace Go.Proofs.Ytcppmmdkblmfoaa
open Go.RowKit Go.WideMaps
def rOpen (r : RL) : RL × Bool :=
  if (frames (r.syn ++ r.more)).2 = (r.syn ++ r.more).length then (⟨r.syn, r.more, r.left, r.off, false⟩, true)
  else if (opL r.left r.off).2.2 = false then (⟨r.syn, r.more, (opL r.left r.off).1, (opL r.left r.off).2.1, false⟩, false)
  else if (frames (r.syn ++ r.more)).2 < r.syn.length then (⟨r.syn.take (frames (r.syn ++ r.more)).2, [], (opL r.left r.off).1, (opL r.left r.off).2.1, false⟩, true)
  else (⟨r.syn, ((r.syn ++ r.more).take (frames (r.syn ++ r.more)).2).drop r.syn.length, (opL r.left r.off).1, (opL r.left r.off).2.1, false⟩, true)
theorem slice_lh (A : Option Addr) (n c k m : Nat) (h1 : k ≤ m) (h2 : m ≤ c) (w : World) : (Instr.slice 22 (.slice A n c) (some (.int .i64 (k : Int))) (some (.int .i64 (m : Int))) none).run Try.prog w = .ok (.slice (if c = k then A else A.map (·.add (k * 1))) (m - k) (c - k)) w := by
  obtain ⟨i0, hi, hz0, hz1, hz2⟩ := info_parts infoB
  have q0 : (k : Int) ≤ (m : Int) := by omega
  have q1 : (m : Int) ≤ (c : Int) := by omega
  simp [go_sem, Try.underlying22, typeInfo, sizeOf, hi, hz1, sliced, q0, q1]
theorem PayG.take {G : Nat → Prop} {w : World} {A : Option Addr} {n c k : Nat} {p : List UInt8} (h : PayG G w (.slice A n c) p) (hk : k ≤ n) : PayG G w (.slice A k c) (p.take k) := by
  obtain ⟨A', n', c', e, h2, h3, h4⟩ := h
  injection e with e1 e2 e3
  subst e1 e2 e3
  refine ⟨A, k, c, rfl, Nat.le_trans hk h2, by rw [List.length_take]; omega, fun hn => ?_⟩
  obtain ⟨ad, e, hb, hg, hcc⟩ := h4 (by omega)
  refine ⟨ad, e, hb, hg, fun j u hu => hcc j u ?_⟩
  rw [List.map_take, List.getElem?_take] at hu
  by_cases hj : j < k
  · rw [if_pos hj] at hu; exact hu
  · rw [if_neg hj] at hu; simp at hu
def FrShort (w : World) (L m : Nat) (e : Ending) (w' : World) : Prop := ∃ A c, e = .returned (.tuple #[.slice A L c, .int .i64 (m : Int)]) ∧ Below w.heap.size w w'
set_option maxRecDepth 100000 in
set_option maxHeartbeats 4000000 in
theorem ropen_any (G : Nat → Prop) (v : Value) (r : RL) (w : World) (hR : RLM G w v r) (hl : -1 ≤ r.left) (hl2 : r.left ≤ 9223372036854775807) (hn : r.syn.length + r.more.length ≤ 1000000) :
    Calls Try.prog 45 #[v] w (RlEnd G w (rOpen r).1 (.bool (rOpen r).2)) := by
  obtain ⟨i0, hi, hz0, hz1, hz2⟩ := info_parts infoB
  obtain ⟨A1, n1, c1, A2, n2, c2, rfl, hp1, hp2⟩ := hR
  obtain ⟨syn, more, left, off, br⟩ := r
  simp only at hp1 hp2 hl hl2 hn ⊢
  obtain ⟨e1, hc1, hr1⟩ := hp1.reads
  obtain ⟨e2, hc2, hr2⟩ := hp2.reads
  have hnn : n1 + n2 ≤ 1000000 := by omega
  have hfl := (frames_len _ (syn ++ more) (Nat.le_refl _)).1
  obtain ⟨m, hm⟩ : ∃ m, m = (frames (syn ++ more)).2 := ⟨_, rfl⟩
  obtain ⟨L, hL⟩ : ∃ L, L = (frames (syn ++ more)).1.length := ⟨_, rfl⟩
  have hdl : (syn ++ more).length = n1 + n2 := by rw [List.length_append, e1, e2]
  rw [← hm, hdl] at hfl
  have HM := Lib.hid hm
  have HLL := Lib.hid hL
  have HDL := Lib.hid hdl
  have HE1 := Lib.hid e1
  have HG := Lib.hid (show ∀ w', Below w.heap.size w w' → PayG (fun i => G i ∨ w.heap.size ≤ i) w' (.slice A1 n1 c1) syn ∧ PayG (fun i => G i ∨ w.heap.size ≤ i) w' (.slice A2 n2 c2) more from fun w' hb => ⟨hp1.below hb fun i _ h => .inl h, hp2.below hb fun i _ h => .inl h⟩)
  have HR := Lib.hid (show ∀ w', Below w.heap.size w w' → Reads w' w.heap.size 1 A1 n1 (syn.map byteV) ∧ Reads w' w.heap.size 1 A2 n2 (more.map byteV) from fun w' hb => ⟨hr1.below hb, hr2.below hb⟩)
  have HF := Lib.hid (show ∀ (w1 : World) (A3 : Option Addr) (c3 : Nat), w1.ownsRow w.heap.size 5 1 (.slice A3 (n1 + n2) c3) (n1 + n2) ((syn ++ more).map byteV) → Calls Try.prog 18 #[.slice A3 (n1 + n2) c3] w1 (FrShort w1 L m) from fun w1 A3 c3 h => by
    refine (rframes_any A3 (n1 + n2) c3 w1.heap.size (syn ++ more) w1 (Reads.of_own h) (Nat.le_refl _) (by omega) (own_le h)).mono ?_
    rintro e w' ⟨A, c, vs, rfl, _, _, hb⟩
    rw [← HM.out, ← HLL.out]
    exact ⟨A, c, rfl, hb⟩)
  clear hp1 hp2 hr1 hr2 e1 e2 hn hm hL hdl hc2
  unfold rlV
  obtain ⟨wa, hwa⟩ : ∃ wa, wa = (w.alloc (.cells #[.slice A1 n1 c1, .slice A2 n2 c2, .int .i64 left, .bool off, .bool br] 57)).alloc (.cells #[.slice none 0 0, .slice none 0 0, .int .i64 0, .bool false, .bool false] 57) := ⟨_, rfl⟩
  have hka : Blk wa w.heap.size 57 #[.slice A1 n1 c1, .slice A2 n2 c2, .int .i64 left, .bool off, .bool br] := by rw [hwa]; exact (Blk.new _ _ _).alloc _
  have hkb : Blk wa (w.heap.size + 1) 57 #[.slice none 0 0, .slice none 0 0, .int .i64 0, .bool false, .bool false] := by
    have := Blk.new (w.alloc (.cells #[.slice A1 n1 c1, .slice A2 n2 c2, .int .i64 left, .bool off, .bool br] 57)) 57 #[.slice none 0 0, .slice none 0 0, .int .i64 0, .bool false, .bool false]
    rw [hwa]
    simpa using this
  have hba : Below w.heap.size w wa := by rw [hwa]; exact ((Below.refl _ _).alloc (Nat.le_refl _) _).alloc (by simp) _
  have HWA := Lib.hid hwa
  clear hwa
  have x4 := hka.cell 4
  simp only [List.getElem?_toArray, List.getElem?_cons_zero, List.getElem?_cons_succ] at x4
  have u4 := hka.frozen 4
  go_enter Try.func45, Try.ntmps45
  go_upto_region 1 with (fail)
  rw [← HWA.out]
  go_upto_region 2 with (fail)
  obtain ⟨wI, hwI⟩ : ∃ wI, wI = wa.setCell ⟨w.heap.size, 4, none⟩ (Value.bool false) := ⟨_, rfl⟩
  rw [← hwI]
  have hkI : Blk wI (w.heap.size) 57 #[(Value.slice A1 n1 c1), (Value.slice A2 n2 c2), (Value.int .i64 left), (Value.bool off), (Value.bool false)] := by rw [hwI]; exact hka.set_ 4 _
  have hkJ : Blk wI (w.heap.size + 1) 57 #[.slice none 0 0, .slice none 0 0, .int .i64 0, .bool false, .bool false] := by rw [hwI]; exact hkb.kept (kept_set wa (w.heap.size) 4 _) (by show ¬ (w.heap.size + 1 = w.heap.size); omega)
  have hbI : Below w.heap.size w wI := by rw [hwI]; exact (kept_set wa (w.heap.size) 4 _).below hba hba.size fun i hi => by have : i = w.heap.size := hi; rw [this]; exact Nat.le_refl _
  have HwI := Lib.hid hwI
  clear hwI
  clear hka hkb hba x4 u4
  have hall := all_any A1 A2 n1 c1 n2 c2 w.heap.size syn more left off false wI ((HR.out wI hbI).1) ((HR.out wI hbI).2) hbI.size (by omega) (by omega)
  unfold rlV at hall
  have x0 := hkI.cell 0
  have x1 := hkI.cell 1
  have x2 := hkI.cell 2
  have x3 := hkI.cell 3
  have x4 := hkI.cell 4
  simp only [List.getElem?_toArray, List.getElem?_cons_zero, List.getElem?_cons_succ] at x0 x1 x2 x3 x4
  go_wp2_with fail
  refine hall.mono ?_
  rintro e w1 ⟨A3, c3, rfl, hown3, hq⟩
  clear hall x0 x1 x2 x3 x4
  rw [HDL.out] at hown3 ⊢
  have hk1 := hkI.below hq hkI.lt
  have hk2 := hkJ.below hq hkJ.lt
  have hb1 := hbI.trans (hq.mono hbI.size)
  have HLI := Lib.hid hkJ.lt
  have hown := hown3
  have hfr := HF.out w1 A3 c3 (own_low hown3 hbI.size)
  clear hkI hkJ hq hown3 hbI
  go_wp2_with fail
  refine hfr.mono ?_
  rintro e w2 ⟨A4, c4, rfl, hq⟩
  clear hfr
  have hk3 := hk1.below hq hk1.lt
  have hk4 := hk2.below hq hk2.lt
  have hb2 := hb1.trans (hq.mono hb1.size)
  have HOW := Lib.hid (own_below hown hq)
  have hcc := own_le hown
  clear hk1 hk2 hq hb1 hown
  go_upto_if 19 with (fail)
  by_cases hme : m = n1 + n2
  · have HD := Lib.hid (show rOpen ⟨syn, more, left, off, br⟩ = (⟨syn, more, left, off, false⟩, true) by unfold rOpen; rw [if_pos (by rw [← HM.out, HDL.out]; exact hme)])
    have c1' : ((m : Int) == (n1 : Int) + (n2 : Int)) = true := by rw [beq_iff_eq]; omega
    clear hme
    have x0 := hk3.cell 0
    have x1 := hk3.cell 1
    have x2 := hk3.cell 2
    have x3 := hk3.cell 3
    have x4 := hk3.cell 4
    simp only [List.getElem?_toArray, List.getElem?_cons_zero, List.getElem?_cons_succ] at x0 x1 x2 x3 x4
    have z0 := hk4.cell 0
    have z1 := hk4.cell 1
    have z2 := hk4.cell 2
    have z3 := hk4.cell 3
    have z4 := hk4.cell 4
    simp only [List.getElem?_toArray, List.getElem?_cons_zero, List.getElem?_cons_succ] at z0 z1 z2 z3 z4
    have y0 := hk4.frozen 0
    have y1 := hk4.frozen 1
    have y2 := hk4.frozen 2
    have y3 := hk4.frozen 3
    have y4 := hk4.frozen 4
    go_wp2_with fail
    obtain ⟨wF, hwF⟩ : ∃ wF, wF = set5 w2 (w.heap.size + 1) (Value.slice A1 n1 c1) (Value.slice A2 n2 c2) (Value.int .i64 left) (Value.bool off) (Value.bool false) := ⟨_, rfl⟩
    have hkF : Blk wF (w.heap.size + 1) 57 #[(Value.slice A1 n1 c1), (Value.slice A2 n2 c2), (Value.int .i64 left), (Value.bool off), (Value.bool false)] := by rw [hwF]; exact set5_blk hk4 _ _ _ _ _
    have hqF : Kept (fun i => i = w.heap.size + 1) w2 wF := by rw [hwF]; exact set5_kept w2 (w.heap.size + 1) _ _ _ _ _
    have hbF : Below w.heap.size w wF := hqF.below hb2 hb2.size fun i hi => by have : i = w.heap.size + 1 := hi; rw [this]; exact Nat.le_succ _
    have f0 := hkF.cell 0
    have f1 := hkF.cell 1
    have f2 := hkF.cell 2
    have f3 := hkF.cell 3
    have f4 := hkF.cell 4
    simp only [List.getElem?_toArray, List.getElem?_cons_zero, List.getElem?_cons_succ] at f0 f1 f2 f3 f4
    unfold set5 at hwF
    rw [← hwF]
    refine bodyPost_ret (v := .tuple #[.agg #[(Value.slice A1 n1 c1), (Value.slice A2 n2 c2), (Value.int .i64 left), (Value.bool off), (Value.bool false)], .bool true]) (by simp [results, Try.results45, go_sem, f0, f1, f2, f3, f4]) rfl ?_
    rw [HD.out]
    exact ⟨_, rfl, ⟨A1, n1, c1, A2, n2, c2, rfl, (HG.out wF hbF).1, (HG.out wF hbF).2⟩, hbF⟩
  · have c1' : ((m : Int) == (n1 : Int) + (n2 : Int)) = false := by rw [beq_eq_false_iff_ne]; omega
    have HME := Lib.hid hme
    have hop := op_any A1 A2 n1 c1 n2 c2 left off false w2 hl hl2
    unfold rlV at hop
    clear hme
    have x0 := hk3.cell 0
    have x1 := hk3.cell 1
    have x2 := hk3.cell 2
    have x3 := hk3.cell 3
    have x4 := hk3.cell 4
    simp only [List.getElem?_toArray, List.getElem?_cons_zero, List.getElem?_cons_succ] at x0 x1 x2 x3 x4
    go_wp2_with fail
    refine hop.mono ?_
    rintro e w3 ⟨rfl, hq⟩
    clear hop x0 x1 x2 x3 x4
    have hk5 := hk3.below hq hk3.lt
    have hk6 := hk4.below hq hk4.lt
    have hb3 := hb2.trans (hq.mono hb2.size)
    have HOX := Lib.hid (own_below HOW.out hq)
    clear hk3 hk4 hb2 hq HOW
    have x0 := hk5.cell 0
    have x1 := hk5.cell 1
    have x2 := hk5.cell 2
    have x3 := hk5.cell 3
    have x4 := hk5.cell 4
    simp only [List.getElem?_toArray, List.getElem?_cons_zero, List.getElem?_cons_succ] at x0 x1 x2 x3 x4
    have u0 := hk5.frozen 0
    have u1 := hk5.frozen 1
    have u2 := hk5.frozen 2
    have u3 := hk5.frozen 3
    have u4 := hk5.frozen 4
    obtain ⟨left', off', ok, ho⟩ : ∃ left' off' ok, opL left off = (left', off', ok) := ⟨_, _, _, rfl⟩
    simp only [ho]
    go_upto_if 27 with (fail)
    obtain ⟨wG, hwG⟩ : ∃ wG, wG = set5 w3 w.heap.size (Value.slice A1 n1 c1) (Value.slice A2 n2 c2) (Value.int .i64 left') (Value.bool off') (Value.bool false) := ⟨_, rfl⟩
    have hkG : Blk wG w.heap.size 57 #[(Value.slice A1 n1 c1), (Value.slice A2 n2 c2), (Value.int .i64 left'), (Value.bool off'), (Value.bool false)] := by rw [hwG]; exact set5_blk hk5 _ _ _ _ _
    have hqG : Kept (fun i => i = w.heap.size) w3 wG := by rw [hwG]; exact set5_kept w3 w.heap.size _ _ _ _ _
    have hkH : Blk wG (w.heap.size + 1) 57 #[.slice none 0 0, .slice none 0 0, .int .i64 0, .bool false, .bool false] := hk6.kept hqG (by show ¬ (w.heap.size + 1 = w.heap.size); omega)
    have hbG : Below w.heap.size w wG := hqG.below hb3 hb3.size fun i hi => by have : i = w.heap.size := hi; rw [this]; exact Nat.le_refl _
    have HOG := Lib.hid (own_keptF HOX.out hqG fun g hg h => by have h1 : g = w.heap.size := h; have := (HOX.out.lt g hg).1; have := HLI.out; omega)
    unfold set5 at hwG
    rw [← hwG]
    have hsG := hqG.size
    clear hwG hk5 hk6 hb3 hqG x0 x1 x2 x3 x4 u0 u1 u2 u3 u4
    cases ok
    · have HD := Lib.hid (show rOpen ⟨syn, more, left, off, br⟩ = (⟨syn, more, left', off', false⟩, false) by unfold rOpen; rw [if_neg (by rw [← HM.out, HDL.out]; exact HME.out), if_pos (by simp only [ho])]; simp only [ho])
      clear ho
      have x0 := hkG.cell 0
      have x1 := hkG.cell 1
      have x2 := hkG.cell 2
      have x3 := hkG.cell 3
      have x4 := hkG.cell 4
      simp only [List.getElem?_toArray, List.getElem?_cons_zero, List.getElem?_cons_succ] at x0 x1 x2 x3 x4
      have z0 := hkH.cell 0
      have z1 := hkH.cell 1
      have z2 := hkH.cell 2
      have z3 := hkH.cell 3
      have z4 := hkH.cell 4
      simp only [List.getElem?_toArray, List.getElem?_cons_zero, List.getElem?_cons_succ] at z0 z1 z2 z3 z4
      have y0 := hkH.frozen 0
      have y1 := hkH.frozen 1
      have y2 := hkH.frozen 2
      have y3 := hkH.frozen 3
      have y4 := hkH.frozen 4
      go_wp2_with fail
      obtain ⟨wF, hwF⟩ : ∃ wF, wF = set5 wG (w.heap.size + 1) (Value.slice A1 n1 c1) (Value.slice A2 n2 c2) (Value.int .i64 left') (Value.bool off') (Value.bool false) := ⟨_, rfl⟩
      have hkF : Blk wF (w.heap.size + 1) 57 #[(Value.slice A1 n1 c1), (Value.slice A2 n2 c2), (Value.int .i64 left'), (Value.bool off'), (Value.bool false)] := by rw [hwF]; exact set5_blk hkH _ _ _ _ _
      have hqF : Kept (fun i => i = w.heap.size + 1) wG wF := by rw [hwF]; exact set5_kept wG (w.heap.size + 1) _ _ _ _ _
      have hbF : Below w.heap.size w wF := hqF.below hbG hbG.size fun i hi => by have : i = w.heap.size + 1 := hi; rw [this]; exact Nat.le_succ _
      have f0 := hkF.cell 0
      have f1 := hkF.cell 1
      have f2 := hkF.cell 2
      have f3 := hkF.cell 3
      have f4 := hkF.cell 4
      simp only [List.getElem?_toArray, List.getElem?_cons_zero, List.getElem?_cons_succ] at f0 f1 f2 f3 f4
      unfold set5 at hwF
      rw [← hwF]
      refine bodyPost_ret (v := .tuple #[.agg #[(Value.slice A1 n1 c1), (Value.slice A2 n2 c2), (Value.int .i64 left'), (Value.bool off'), (Value.bool false)], .bool false]) (by simp [results, Try.results45, go_sem, f0, f1, f2, f3, f4]) rfl ?_
      rw [HD.out]
      exact ⟨_, rfl, ⟨A1, n1, c1, A2, n2, c2, rfl, (HG.out wF hbF).1, (HG.out wF hbF).2⟩, hbF⟩
    · have HO := Lib.hid ho
      clear ho
      have x0 := hkG.cell 0
      simp only [List.getElem?_toArray, List.getElem?_cons_zero] at x0
      go_upto_if 33 with (fail)
      by_cases hms : m < n1
      · have c2' : (m : Int) < (n1 : Int) := by omega
        have hsl1 : ∀ W : World, (Instr.slice 22 (.slice A1 n1 c1) none (some (.int .i64 (m : Int))) none).run Try.prog W = .ok (.slice A1 m c1) W := slice_to A1 n1 c1 m (by omega)
        clear x0
        have x0 := hkG.cell 0
        simp only [List.getElem?_toArray, List.getElem?_cons_zero] at x0
        have u0 := hkG.frozen 0
        go_upto_region 11 with (fail)
        obtain ⟨wM, hwM⟩ : ∃ wM, wM = wG.setCell ⟨w.heap.size, 0, none⟩ (Value.slice A1 m c1) := ⟨_, rfl⟩
        rw [← hwM]
        have hkM : Blk wM (w.heap.size) 57 #[(Value.slice A1 m c1), (Value.slice A2 n2 c2), (Value.int .i64 left'), (Value.bool off'), (Value.bool false)] := by rw [hwM]; exact hkG.set_ 0 _
        have hkN : Blk wM (w.heap.size + 1) 57 #[.slice none 0 0, .slice none 0 0, .int .i64 0, .bool false, .bool false] := by rw [hwM]; exact hkH.kept (kept_set wG (w.heap.size) 0 _) (by show ¬ (w.heap.size + 1 = w.heap.size); omega)
        have hbM : Below w.heap.size w wM := by rw [hwM]; exact (kept_set wG (w.heap.size) 0 _).below hbG hbG.size fun i hi => by have : i = w.heap.size := hi; rw [this]; exact Nat.le_refl _
        have HwM := Lib.hid hwM
        clear hwM
        have HOM := Lib.hid (show wM.ownsRow wI.heap.size 5 1 (.slice A3 (n1 + n2) c3) (n1 + n2) ((syn ++ more).map byteV) from by
          rw [HwM.out]
          exact own_keptF HOG.out (kept_set wG w.heap.size 0 _) fun g hg h => by have h1 : g = w.heap.size := h; have := (HOG.out.lt g hg).1; have := HLI.out; omega)
        clear hkG hkH x0 u0 hsl1
        have HD := Lib.hid (show rOpen ⟨syn, more, left, off, br⟩ = (⟨syn.take m, [], left', off', false⟩, true) by unfold rOpen; rw [← HM.out, HDL.out, if_neg HME.out, if_neg (by simp only [HO.out]; decide), HE1.out, if_pos hms]; simp only [HO.out])
        obtain ⟨A5, hA5⟩ : ∃ A5, A5 = (if c3 = m then A3 else A3.map (·.add (m * 1))) := ⟨_, rfl⟩
        have hsl : ∀ W : World, (Instr.slice 22 (Value.slice A3 (n1 + n2) c3) (some (.int .i64 (m : Int))) (some (.int .i64 (m : Int))) none).run Try.prog W = .ok (.slice A5 0 (c3 - m)) W := fun W => by
          rw [hA5, slice_lh A3 (n1 + n2) c3 m m (by omega) (by omega) W] ; rw [Nat.sub_self]
        have hqQ : Below wM.heap.size wM (wM.alloc (.cells #[] 5)) := (Below.refl _ _).alloc (Nat.le_refl _) _
        have hownQ : (wM.alloc (.cells #[] 5)).ownsRow wM.heap.size 5 1 (.slice (some ⟨wM.heap.size, 0, none⟩) 0 0) 0 [] := World.ownsRow_lit (e := 5) (size := 1) wM #[] 0 (Nat.le_refl _) (by decide) rfl
        have hrQ : Reads (wM.alloc (.cells #[] 5)) (wM.alloc (.cells #[] 5)).heap.size 1 A5 0 [] := by
          rw [hA5]
          have h := ((Reads.of_own (own_below HOM.out hqQ)).take_ hfl).cut (k := m) (cap := c3) (by omega) (by omega)
          rw [Nat.sub_self] at h
          exact Reads.none_
        clear hA5
        have hkQ : Blk (wM.alloc (.cells #[] 5)) w.heap.size 57 #[(Value.slice A1 m c1), (Value.slice A2 n2 c2), (Value.int .i64 left'), (Value.bool off'), (Value.bool false)] := hkM.alloc _
        have hkR : Blk (wM.alloc (.cells #[] 5)) (w.heap.size + 1) 57 #[.slice none 0 0, .slice none 0 0, .int .i64 0, .bool false, .bool false] := hkN.alloc _
        have hHG : w.heap.size + 1 < wM.heap.size := hkN.lt
        have hsQ := hqQ.size
        have z0 := hkQ.cell 0
        simp only [List.getElem?_toArray, List.getElem?_cons_zero] at z0
        have hm1 : 0 + 0 ≤ maxLen := by unfold maxLen; omega
        have hm2 : (0 + 0) * 1 ≤ 140737488355328 := by omega
        have hone : ∀ u ∈ ([] : List Value), u.oneCell' = true := fun u hu => absurd hu (by simp)
        go_wp2_with (at_builtin; refine wpList_append_any _ rfl (.tmp 39) (.tmp 45) 22 rfl wM.heap.size 5 i0 (.int .u8 0) 1 1 Try.underlying22 hi hz0 hz1 hz2 rfl (by decide) _ _ _ rfl hownQ (wM.alloc (.cells #[] 5)).heap.size A5 0 (c3 - m) [] rfl hrQ hone hm1 hm2 hsQ ?_)
        intro v7 w7 hown7 hg7 _
        obtain ⟨A7, c7, rfl⟩ := own_form hown7
        have hnQ : ∀ g, (Value.slice (some ⟨wM.heap.size, 0, none⟩) 0 0).ownBlock = some g → wM.heap.size ≤ g := fun g hg => (hownQ.lt g hg).1
        have hk1 : Blk w7 w.heap.size 57 #[(Value.slice A1 m c1), (Value.slice A2 n2 c2), (Value.int .i64 left'), (Value.bool off'), (Value.bool false)] := (hg7.block _ hkQ.lt (fun e => by have := hnQ _ e.symm; omega)).trans hkQ
        have hk2 : Blk w7 (w.heap.size + 1) 57 #[.slice none 0 0, .slice none 0 0, .int .i64 0, .bool false, .bool false] := (hg7.block _ hkR.lt (fun e => by have := hnQ _ e.symm; omega)).trans hkR
        have hb7 := below_own hqQ hqQ.size (Nat.le_refl _) hownQ hg7
        have hb4 := hbM.trans (hb7.mono hbM.size)
        have HPY := Lib.hid (show PayG (fun i => wM.heap.size ≤ i) w7 (.slice A7 0 c7) [] from PayG.of_own hown7 (own_le hown7) fun g hg _ => hg)
        have HGS := Lib.hid hHG
        have HPS := Lib.hid (show ∀ w', Below w.heap.size w w' → PayG (fun i => G i ∨ w.heap.size ≤ i) w' (Value.slice A1 m c1) (syn.take m) from fun w' hb => (HG.out w' hb).1.take (Nat.le_of_lt hms))
        clear hown7 hg7 hrQ hkQ hkR hownQ hqQ hb7 hnQ z0 hsQ hsl hone
        have x1 := hk1.cell 1
        simp only [List.getElem?_toArray, List.getElem?_cons_zero, List.getElem?_cons_succ] at x1
        have u1 := hk1.frozen 1
        go_upto_region 12 with (fail)
        obtain ⟨wK, hwK⟩ : ∃ wK, wK = w7.setCell ⟨w.heap.size, 1, none⟩ (Value.slice A7 0 c7) := ⟨_, rfl⟩
        rw [← hwK]
        have hkK : Blk wK (w.heap.size) 57 #[(Value.slice A1 m c1), (Value.slice A7 0 c7), (Value.int .i64 left'), (Value.bool off'), (Value.bool false)] := by rw [hwK]; exact hk1.set_ 1 _
        have hkL : Blk wK (w.heap.size + 1) 57 #[.slice none 0 0, .slice none 0 0, .int .i64 0, .bool false, .bool false] := by rw [hwK]; exact hk2.kept (kept_set w7 (w.heap.size) 1 _) (by show ¬ (w.heap.size + 1 = w.heap.size); omega)
        have hbK : Below w.heap.size w wK := by rw [hwK]; exact (kept_set w7 (w.heap.size) 1 _).below hb4 hb4.size fun i hi => by have : i = w.heap.size := hi; rw [this]; exact Nat.le_refl _
        have HwK := Lib.hid hwK
        clear hwK
        have HPK := Lib.hid (show PayG (fun i => wM.heap.size ≤ i) wK (.slice A7 0 c7) [] by
          have hs := HGS.out
          rw [HwK.out]
          exact HPY.out.keptF (kept_set w7 w.heap.size 1 _) fun i _ hi h => by have : i = w.heap.size := h; omega)
        clear hk1 hk2 x1 u1 hkM hkN hbM hb4
        have x0 := hkK.cell 0
        have x1 := hkK.cell 1
        have x2 := hkK.cell 2
        have x3 := hkK.cell 3
        have x4 := hkK.cell 4
        simp only [List.getElem?_toArray, List.getElem?_cons_zero, List.getElem?_cons_succ] at x0 x1 x2 x3 x4
        have z0 := hkL.cell 0
        have z1 := hkL.cell 1
        have z2 := hkL.cell 2
        have z3 := hkL.cell 3
        have z4 := hkL.cell 4
        simp only [List.getElem?_toArray, List.getElem?_cons_zero, List.getElem?_cons_succ] at z0 z1 z2 z3 z4
        have y0 := hkL.frozen 0
        have y1 := hkL.frozen 1
        have y2 := hkL.frozen 2
        have y3 := hkL.frozen 3
        have y4 := hkL.frozen 4
        go_wp2_with fail
        obtain ⟨wF, hwF⟩ : ∃ wF, wF = set5 wK (w.heap.size + 1) (Value.slice A1 m c1) (Value.slice A7 0 c7) (Value.int .i64 left') (Value.bool off') (Value.bool false) := ⟨_, rfl⟩
        have hkF : Blk wF (w.heap.size + 1) 57 #[(Value.slice A1 m c1), (Value.slice A7 0 c7), (Value.int .i64 left'), (Value.bool off'), (Value.bool false)] := by rw [hwF]; exact set5_blk hkL _ _ _ _ _
        have hqF : Kept (fun i => i = w.heap.size + 1) wK wF := by rw [hwF]; exact set5_kept wK (w.heap.size + 1) _ _ _ _ _
        have hbF : Below w.heap.size w wF := hqF.below hbK hbK.size fun i hi => by have : i = w.heap.size + 1 := hi; rw [this]; exact Nat.le_succ _
        have f0 := hkF.cell 0
        have f1 := hkF.cell 1
        have f2 := hkF.cell 2
        have f3 := hkF.cell 3
        have f4 := hkF.cell 4
        simp only [List.getElem?_toArray, List.getElem?_cons_zero, List.getElem?_cons_succ] at f0 f1 f2 f3 f4
        unfold set5 at hwF
        rw [← hwF]
        refine bodyPost_ret (v := .tuple #[.agg #[(Value.slice A1 m c1), (Value.slice A7 0 c7), (Value.int .i64 left'), (Value.bool off'), (Value.bool false)], .bool true]) (by simp [results, Try.results45, go_sem, f0, f1, f2, f3, f4]) rfl ?_
        rw [HD.out]
        exact ⟨_, rfl, ⟨A1, m, c1, A7, 0, c7, rfl, HPS.out wF hbF, (HPK.out.keptF hqF fun i _ hi h => by have : i = w.heap.size + 1 := h; have := HGS.out; omega).mono fun i _ hi => .inr (Nat.le_trans (Nat.le_of_lt (Nat.lt_of_succ_lt HGS.out)) hi)⟩, hbF⟩
      · have c2' : ¬ (m : Int) < (n1 : Int) := by omega
        clear x0
        go_upto_region 11 with (fail)
        have HD := Lib.hid (show rOpen ⟨syn, more, left, off, br⟩ = (⟨syn, ((syn ++ more).take m).drop n1, left', off', false⟩, true) by unfold rOpen; rw [← HM.out, HDL.out, if_neg HME.out, if_neg (by simp only [HO.out]; decide), HE1.out, if_neg hms]; simp only [HO.out])
        obtain ⟨A5, hA5⟩ : ∃ A5, A5 = (if c3 = n1 then A3 else A3.map (·.add (n1 * 1))) := ⟨_, rfl⟩
        have hsl : ∀ W : World, (Instr.slice 22 (Value.slice A3 (n1 + n2) c3) (some (.int .i64 (n1 : Int))) (some (.int .i64 (m : Int))) none).run Try.prog W = .ok (.slice A5 (m - n1) (c3 - n1)) W := fun W => by
          rw [hA5, slice_lh A3 (n1 + n2) c3 n1 m (by omega) (by omega) W]
        have hqQ : Below wG.heap.size wG (wG.alloc (.cells #[] 5)) := (Below.refl _ _).alloc (Nat.le_refl _) _
        have hownQ : (wG.alloc (.cells #[] 5)).ownsRow wG.heap.size 5 1 (.slice (some ⟨wG.heap.size, 0, none⟩) 0 0) 0 [] := World.ownsRow_lit (e := 5) (size := 1) wG #[] 0 (Nat.le_refl _) (by decide) rfl
        have hrQ : Reads (wG.alloc (.cells #[] 5)) (wG.alloc (.cells #[] 5)).heap.size 1 A5 (m - n1) ((((syn ++ more).take m).drop n1).map byteV) := by
          rw [hA5]
          have h := ((Reads.of_own (own_below HOG.out hqQ)).take_ hfl).cut (k := n1) (cap := c3) (by omega) (by omega)
          rw [Nat.mul_one, ← List.map_take, ← List.map_drop] at h; rw [Nat.mul_one]
          exact h
        clear hA5
        have hkQ : Blk (wG.alloc (.cells #[] 5)) w.heap.size 57 #[(Value.slice A1 n1 c1), (Value.slice A2 n2 c2), (Value.int .i64 left'), (Value.bool off'), (Value.bool false)] := hkG.alloc _
        have hkR : Blk (wG.alloc (.cells #[] 5)) (w.heap.size + 1) 57 #[.slice none 0 0, .slice none 0 0, .int .i64 0, .bool false, .bool false] := hkH.alloc _
        have hHG : w.heap.size + 1 < wG.heap.size := hkH.lt
        have hsQ := hqQ.size
        have z0 := hkQ.cell 0
        simp only [List.getElem?_toArray, List.getElem?_cons_zero] at z0
        have hm1 : 0 + (m - n1) ≤ maxLen := by unfold maxLen; omega
        have hm2 : (0 + (m - n1)) * 1 ≤ 140737488355328 := by omega
        have hone : ∀ u ∈ (((((syn ++ more).take m).drop n1).map byteV) : List Value), u.oneCell' = true := oneB _
        go_wp2_with (at_builtin; refine wpList_append_any _ rfl (.tmp 39) (.tmp 45) 22 rfl wG.heap.size 5 i0 (.int .u8 0) 1 1 Try.underlying22 hi hz0 hz1 hz2 rfl (by decide) _ _ _ rfl hownQ (wG.alloc (.cells #[] 5)).heap.size A5 (m - n1) (c3 - n1) ((((syn ++ more).take m).drop n1).map byteV) rfl hrQ hone hm1 hm2 hsQ ?_)
        intro v7 w7 hown7 hg7 _
        obtain ⟨A7, c7, rfl⟩ := own_form hown7
        have hnQ : ∀ g, (Value.slice (some ⟨wG.heap.size, 0, none⟩) 0 0).ownBlock = some g → wG.heap.size ≤ g := fun g hg => (hownQ.lt g hg).1
        have hk1 : Blk w7 w.heap.size 57 #[(Value.slice A1 n1 c1), (Value.slice A2 n2 c2), (Value.int .i64 left'), (Value.bool off'), (Value.bool false)] := (hg7.block _ hkQ.lt (fun e => by have := hnQ _ e.symm; omega)).trans hkQ
        have hk2 : Blk w7 (w.heap.size + 1) 57 #[.slice none 0 0, .slice none 0 0, .int .i64 0, .bool false, .bool false] := (hg7.block _ hkR.lt (fun e => by have := hnQ _ e.symm; omega)).trans hkR
        have hb7 := below_own hqQ hqQ.size (Nat.le_refl _) hownQ hg7
        have hb4 := hbG.trans (hb7.mono hbG.size)
        have HPY := Lib.hid (show PayG (fun i => wG.heap.size ≤ i) w7 (.slice A7 (m - n1) c7) (((syn ++ more).take m).drop n1) from PayG.of_own (by rw [List.map_drop, List.map_take, List.map_append]; exact hown7) (own_le hown7) fun g hg _ => hg)
        have HGS := Lib.hid hHG
        have HPS := Lib.hid (show ∀ w', Below w.heap.size w w' → PayG (fun i => G i ∨ w.heap.size ≤ i) w' (Value.slice A1 n1 c1) syn from fun w' hb => (HG.out w' hb).1)
        clear hown7 hg7 hrQ hkQ hkR hownQ hqQ hb7 hnQ z0 hsQ hsl hone
        have x1 := hk1.cell 1
        simp only [List.getElem?_toArray, List.getElem?_cons_zero, List.getElem?_cons_succ] at x1
        have u1 := hk1.frozen 1
        go_upto_region 12 with (fail)
        obtain ⟨wK, hwK⟩ : ∃ wK, wK = w7.setCell ⟨w.heap.size, 1, none⟩ (Value.slice A7 (m - n1) c7) := ⟨_, rfl⟩
        rw [← hwK]
        have hkK : Blk wK (w.heap.size) 57 #[(Value.slice A1 n1 c1), (Value.slice A7 (m - n1) c7), (Value.int .i64 left'), (Value.bool off'), (Value.bool false)] := by rw [hwK]; exact hk1.set_ 1 _
        have hkL : Blk wK (w.heap.size + 1) 57 #[.slice none 0 0, .slice none 0 0, .int .i64 0, .bool false, .bool false] := by rw [hwK]; exact hk2.kept (kept_set w7 (w.heap.size) 1 _) (by show ¬ (w.heap.size + 1 = w.heap.size); omega)
        have hbK : Below w.heap.size w wK := by rw [hwK]; exact (kept_set w7 (w.heap.size) 1 _).below hb4 hb4.size fun i hi => by have : i = w.heap.size := hi; rw [this]; exact Nat.le_refl _
        have HwK := Lib.hid hwK
        clear hwK
        have HPK := Lib.hid (show PayG (fun i => wG.heap.size ≤ i) wK (.slice A7 (m - n1) c7) (((syn ++ more).take m).drop n1) by
          have hs := HGS.out
          rw [HwK.out]
          exact HPY.out.keptF (kept_set w7 w.heap.size 1 _) fun i _ hi h => by have : i = w.heap.size := h; omega)
        clear hk1 hk2 x1 u1 hkG hkH hbG hb4
        have x0 := hkK.cell 0
        have x1 := hkK.cell 1
        have x2 := hkK.cell 2
        have x3 := hkK.cell 3
        have x4 := hkK.cell 4
        simp only [List.getElem?_toArray, List.getElem?_cons_zero, List.getElem?_cons_succ] at x0 x1 x2 x3 x4
        have z0 := hkL.cell 0
        have z1 := hkL.cell 1
        have z2 := hkL.cell 2
        have z3 := hkL.cell 3
        have z4 := hkL.cell 4
        simp only [List.getElem?_toArray, List.getElem?_cons_zero, List.getElem?_cons_succ] at z0 z1 z2 z3 z4
        have y0 := hkL.frozen 0
        have y1 := hkL.frozen 1
        have y2 := hkL.frozen 2
        have y3 := hkL.frozen 3
        have y4 := hkL.frozen 4
        go_wp2_with fail
        obtain ⟨wF, hwF⟩ : ∃ wF, wF = set5 wK (w.heap.size + 1) (Value.slice A1 n1 c1) (Value.slice A7 (m - n1) c7) (Value.int .i64 left') (Value.bool off') (Value.bool false) := ⟨_, rfl⟩
        have hkF : Blk wF (w.heap.size + 1) 57 #[(Value.slice A1 n1 c1), (Value.slice A7 (m - n1) c7), (Value.int .i64 left'), (Value.bool off'), (Value.bool false)] := by rw [hwF]; exact set5_blk hkL _ _ _ _ _
        have hqF : Kept (fun i => i = w.heap.size + 1) wK wF := by rw [hwF]; exact set5_kept wK (w.heap.size + 1) _ _ _ _ _
        have hbF : Below w.heap.size w wF := hqF.below hbK hbK.size fun i hi => by have : i = w.heap.size + 1 := hi; rw [this]; exact Nat.le_succ _
        have f0 := hkF.cell 0
        have f1 := hkF.cell 1
        have f2 := hkF.cell 2
        have f3 := hkF.cell 3
        have f4 := hkF.cell 4
        simp only [List.getElem?_toArray, List.getElem?_cons_zero, List.getElem?_cons_succ] at f0 f1 f2 f3 f4
        unfold set5 at hwF
        rw [← hwF]
        refine bodyPost_ret (v := .tuple #[.agg #[(Value.slice A1 n1 c1), (Value.slice A7 (m - n1) c7), (Value.int .i64 left'), (Value.bool off'), (Value.bool false)], .bool true]) (by simp [results, Try.results45, go_sem, f0, f1, f2, f3, f4]) rfl ?_
        rw [HD.out]
        exact ⟨_, rfl, ⟨A1, n1, c1, A7, (m - n1), c7, rfl, HPS.out wF hbF, (HPK.out.keptF hqF fun i _ hi h => by have : i = w.heap.size + 1 := h; have := HGS.out; omega).mono fun i _ hi => .inr (Nat.le_trans (Nat.le_of_lt (Nat.lt_of_succ_lt HGS.out)) hi)⟩, hbF⟩
end Go.Proofs.Ytcppmmdkblmfoaa
