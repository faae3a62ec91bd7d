/- The walk of regex.measure. The walk of regex.Parse. types.node.skip. What types.Of computes, in plain Lean: the type of a tree, and what the open calls still ask. Expressions without addresses: what the laws build, and their types. -/
import Derived.Test.YtamhdmkolfmmdaaGreatDoorsaj
import Derived.Test.YtamhdmkolfmmdaaGreatDoorsaa
import Derived.Test.YtamhdmkolfmmdaaGreatDoorsab
import Derived.Deep.LoopGhost
import Derived.Test.YtamhdmkolfmmdaaGreatDoorsac
import Derived.WalkSpells
set_option linter.unusedVariables false
set_option linter.unusedSimpArgs false
namespace Go.Proofs.YtamhdmkolfmmdaaGreatDoor
open Go.RowKit
def kbD : Value := .iface 66 (.int .i64 9)
def msV (r : Rx) : Value := if r.fits then .tuple #[.int .i64 r.pos, .nilIface] else .tuple #[.int .i64 0, kbD]
set_option maxHeartbeats 1000000
theorem ki1 (b o : Nat) (r : Rx) (cs : List Value) (w : World) (F : Nat → Prop) (hv : RxV w F r cs) (hF : ∀ i, F i → i < w.heap.size) (hA : At8 w b o cs) (ht : r.tame) : Calls Tryz.prog 91 #[.pointer (some ⟨b, o, none⟩)] w fun e w' => e = .returned (msV r) ∧ Below w.heap.size w w' := by
 have hb := hA.1
 have hK : Kept (fun _ => False) w (w.alloc (.cells #[.int .i64 0] 195)) := (Kept.refl _ w).alloc _
 have hN := khU w.heap.size r.size r (Nat.le_refl _) b o cs (w.alloc (.cells #[.int .i64 0] 195)) 0 1 F (hv.kept hK (fun _ _ _ => id) fun _ h _ => h) (hA.kept hK id) (by omega) (fun i hi => by have := hF i hi; omega) (Blk.new w _ _) ht (by omega) (by omega)
 have HN := hD hN
 have HB := hD (show ∀ w', Kept (isG w.heap.size) (w.alloc (.cells #[.int .i64 0] 195)) w' → Below w.heap.size w w' from fun w' hk => by
  refine hk.below ((Below.refl _ w).alloc (Nat.le_refl _) _) (by simp) fun i hi => by have e : i = w.heap.size := hi; omega)
 clear hN hK hv hF hA ht hb
 unfold msV
 by_cases hfit : kb1 0 1 r
 ·
  have hf1 := hfit.1
  have hf2 := hfit.2
  by_cases hp : r.pos ≤ 64
  ·
   have hpc : r.posC = r.pos := by unfold Rx.posC capM; omega
   by_cases hw : r.wri ≤ 4096
   ·
    have hwc : r.wriC = r.wri := by unfold Rx.wriC capM; omega
    have hfits : r.fits = true := by unfold Rx.fits; simp; omega
    rw [if_pos hfits]
    have HF := hD hfit
    have HPC := hD hpc
    have HWC := hD hwc
    have t1 : decide (64 < (r.pos : Int)) = false := by simp; omega
    have t2 : decide (4096 < (r.wri : Int)) = false := by simp; omega
    clear hfit hpc hwc hfits hf1 hf2
    go_enter Tryz.func91, Tryz.ntmps91
    go_wp2_with fail
    refine HN.out.mono ?_
    rintro e w2 ⟨hok, _, hk2⟩
    obtain ⟨rfl, _⟩ := hok HF.out
    rw [HPC.out, HWC.out]
    clear hok
    go_wp2_with fail
    go_ret2
    exact ⟨rfl, HB.out _ hk2⟩
   ·
    have hfits : r.fits = false := by unfold Rx.fits; simp; omega
    rw [if_neg (by rw [hfits]; decide)]
    have HF := hD hfit
    have HPC := hD hpc
    have t1 : decide (64 < (r.pos : Int)) = false := by simp; omega
    have t2 : decide (4096 < (r.wriC : Int)) = true := by unfold Rx.wriC capM; simp; omega
    clear hfit hpc hfits hf1 hf2 hw
    unfold kbD
    go_enter Tryz.func91, Tryz.ntmps91
    go_wp2_with fail
    refine HN.out.mono ?_
    rintro e w2 ⟨hok, _, hk2⟩
    obtain ⟨rfl, _⟩ := hok HF.out
    rw [HPC.out]
    clear hok
    go_wp2_with fail
    go_ret2
    exact ⟨rfl, HB.out _ hk2⟩
  ·
   have hfits : r.fits = false := by unfold Rx.fits; simp; omega
   rw [if_neg (by rw [hfits]; decide)]
   have HF := hD hfit
   have t1 : decide (64 < (r.posC : Int)) = true := by unfold Rx.posC capM; simp; omega
   clear hfit hfits hf1 hf2 hp
   unfold kbD
   go_enter Tryz.func91, Tryz.ntmps91
   go_wp2_with fail
   refine HN.out.mono ?_
   rintro e w2 ⟨hok, _, hk2⟩
   obtain ⟨rfl, _⟩ := hok HF.out
   clear hok
   go_wp2_with fail
   go_ret2
   exact ⟨rfl, HB.out _ hk2⟩
 ·
  have hfits : r.fits = false := by
   unfold kb1 at hfit
   unfold Rx.fits
   simp
   omega
  rw [if_neg (by rw [hfits]; decide)]
  have HF := hD hfit
  clear hfit hfits
  unfold kbD
  go_enter Tryz.func91, Tryz.ntmps91
  go_wp2_with fail
  refine HN.out.mono ?_
  rintro e w2 ⟨_, hno, hk2⟩
  obtain rfl := hno HF.out
  clear hno
  go_wp2_with fail
  go_ret2
  exact ⟨rfl, HB.out _ hk2⟩
theorem y92 {P : Prop} (h : P := by
 have hsz : (ByteArray.mk T.toArray).size = T.length := by simp [ByteArray.size]
 have hmf : ∀ (fn : Fn) (first cap : Array Value) (w : World), (Instr.makeFunc fn first cap).run Tryz.prog w = .ok (.func fn first cap) w := fun _ _ _ _ => rfl
 have hc := Tryz.strings_Count_one ⟨T.toArray⟩ 40 ((w.alloc (.cells #[.int .i64 0, .int .u64 0, .int .u64 0, .int .u64 0, .int .u64 0, .int .i64 0, .int .i64 0, .slice none 0 0] 105)).alloc (.cells #[.nilIface] 29))
 first
 | guard_hyp t535q0
   unfold bigT at hb
   rw [Bool.or_eq_false_iff] at hb
   have h1 := of_decide_eq_false hb.1
   have h2 := of_decide_eq_false hb.2
   have t1 : decide (262144 < (T.length : Int)) = false := by simp; omega
   have t523q0 := True.intro
   exact y80
 | have hPE : kbB T = kbD := by unfold kbB; rw [if_pos hb]
   have hPR : kbX T = none := by unfold kbX; rw [if_pos hb]
   have HPE := hD hPE
   have HPR := hD hPR
   unfold bigT at hb
   by_cases h1 : 262144 < T.length
   ·
    have t1 : decide (262144 < (T.length : Int)) = true := by simp; omega
    clear hb hPE hPR hc
    go_enter_defers Tryz.func51, Tryz.ntmps51
    go_wp2_with fail
    simp [bodyPostD, Leaves, results, Tryz.results51, go_sem]
    exact ⟨⟨keW, by rw [HPE.out]; rfl, by rw [HPR.out]; rfl⟩, ((Below.refl _ _).alloc (Nat.le_refl _) _).alloc (by simp) _⟩
   ·
    have t1 : decide (262144 < (T.length : Int)) = false := by simp; omega
    rw [decide_eq_false h1, Bool.false_or] at hb
    have h2 := of_decide_eq_true hb
    exact y80) : P := h
theorem y80 {P : Prop} (h : P := by
 generalize hcc : Lib.countByte T 40 = cc at *
 have hc2 : Calls Tryz.prog 88 #[.string ⟨T.toArray⟩, .string ⟨#[40]⟩] ((w.alloc (.cells #[.int .i64 0, .int .u64 0, .int .u64 0, .int .u64 0, .int .u64 0, .int .i64 0, .int .i64 0, .slice none 0 0] 105)).alloc (.cells #[.nilIface] 29)) fun e w' => e = .returned (.int .i64 cc) ∧ ((w.alloc (.cells #[.int .i64 0, .int .u64 0, .int .u64 0, .int .u64 0, .int .u64 0, .int .i64 0, .int .i64 0, .slice none 0 0] 105)).alloc (.cells #[.nilIface] 29)) = w' := by
  rw [← hcc]
  refine hc.mono ?_
  rintro e w' ⟨rfl, rfl⟩
  exact ⟨by simp [hcc], rfl⟩
 have HC := hD hc2
 first
 | guard_hyp t523q0
   have t2 : decide (1024 < (cc : Int)) = false := by simp; omega
   obtain ⟨w3, hw3⟩ := xE (((w.alloc (.cells #[.int .i64 0, .int .u64 0, .int .u64 0, .int .u64 0, .int .u64 0, .int .i64 0, .int .i64 0, .slice none 0 0] 105)).alloc (.cells #[.nilIface] 29)).alloc (.cells #[.string ⟨T.toArray⟩, .int .i64 0] 150))
   have hR3 : R8 w3 w.heap.size (.int .i64 0) (.int .u64 0) (.int .u64 0) (.int .u64 0) (.int .u64 0) (.int .i64 0) (.int .i64 0) (.slice none 0 0) := by rw [hw3]; exact ((R8.mk0 w w.heap.size rfl).alloc _).alloc _
   have hE3 : Blk w3 (w.heap.size + 1) 29 #[.nilIface] := by
    rw [hw3]
    have := Blk.new (w.alloc (.cells #[.int .i64 0, .int .u64 0, .int .u64 0, .int .u64 0, .int .u64 0, .int .i64 0, .int .i64 0, .slice none 0 0] 105)) 29 #[.nilIface]
    exact Blk.alloc (by simpa using this) _
   have hp3 : PS T w3 (w.heap.size + 1 + 1) 0 := by
    refine ⟨?_, Nat.zero_le _, by omega⟩
    rw [hw3]
    have := Blk.new ((w.alloc (.cells #[.int .i64 0, .int .u64 0, .int .u64 0, .int .u64 0, .int .u64 0, .int .i64 0, .int .i64 0, .slice none 0 0] 105)).alloc (.cells #[.nilIface] 29)) 150 #[.string ⟨T.toArray⟩, .int .i64 0]
    simpa using this
   have hb3 : Below w.heap.size w w3 := by rw [hw3]; exact (((Below.refl _ _).alloc (Nat.le_refl _) _).alloc (by simp) _).alloc (by simp; omega) _
   have hs3 : w3.heap.size = w.heap.size + 1 + 1 + 1 := by rw [hw3]; simp
   have HX := hD (kh7 (T.length + 1) 0 w3 hp3 (by omega))
   have HR3 := hD hR3
   have HE3 := hD hE3
   have HB3 := hD hb3
   have HW3 := hD hw3
   clear hb hc hc2 hcc hw3 hR3 hE3 hp3 hb3 h2
   rw [hx] at HX
   first
   | guard_hyp t492q0
     first
     | guard_hyp t25q2
       have t3 : decide ((k : Int) < (T.length : Int)) = true := by simp; omega
       have t3' : decide (k < T.length) = true := by simp; omega
       clear hP hPE hPR hx
     | have t3 : decide ((T.length : Int) < (T.length : Int)) = false := by simp
       have t3' : decide (T.length < T.length) = false := by simp
       clear hP hPE hPR hx hf
     go_enter_defers Tryz.func51, Tryz.ntmps51
     go_wp2_with fail
     refine HC.out.mono ?_
     rintro e w' ⟨rfl, rfl⟩
     go_wp2_with fail
     rw [← HW3.out]
     refine HX.out.mono ?_
     rintro e w4 ⟨cs, rfl, hv, hp4, hk4⟩
     obtain ⟨kd, a0, a1, a2, a3, lo, hi, A, n, c, rfl⟩ := hv.eight
     have hR4 := HR3.out.kept hk4 (fun e => by have e' : w.heap.size = w.heap.size + 1 + 1 := e; omega)
     have hE4 := HE3.out.kept hk4 (fun e => by have e' : w.heap.size + 1 = w.heap.size + 1 + 1 := e; omega)
     have hB4 := hk4.below HB3.out (by omega) (fun i e => by have e' : i = w.heap.size + 1 + 1 := e; omega)
     have hs4 : w3.heap.size ≤ w4.heap.size := hk4.size
     obtain ⟨⟨⟨c0, c1⟩, c2, c3⟩, ⟨c4, c5⟩, c6, c7⟩ := hR4.cells
     obtain ⟨⟨⟨f0, f1⟩, f2, f3⟩, ⟨f4, f5⟩, f6, f7⟩ := hR4.free
     have hp5 := hp4.far8 (X := w.heap.size) (by omega) (.int .i64 kd) (.int .u64 a0) (.int .u64 a1) (.int .u64 a2) (.int .u64 a3) (.int .i64 lo) (.int .i64 hi) (.slice A n c)
     have hR5 := hR4.all (.int .i64 kd) (.int .u64 a0) (.int .u64 a1) (.int .u64 a2) (.int .u64 a3) (.int .i64 lo) (.int .i64 hi) (.slice A n c)
     have hE5 := Blk.set8 (g := w.heap.size) hE4 (by omega) (.int .i64 kd) (.int .u64 a0) (.int .u64 a1) (.int .u64 a2) (.int .u64 a3) (.int .i64 lo) (.int .i64 hi) (.slice A n c)
     have hB5 := kdk hB4 (Nat.le_refl w.heap.size) (.int .i64 kd) (.int .u64 a0) (.int .u64 a1) (.int .u64 a2) (.int .u64 a3) (.int .i64 lo) (.int .i64 hi) (.slice A n c)
     have hK5 := kaD (Kept.refl (fun i => i = w.heap.size) w4) (g := w.heap.size) (.inl rfl) (.int .i64 kd) (.int .u64 a0) (.int .u64 a1) (.int .u64 a2) (.int .u64 a3) (.int .i64 lo) (.int .i64 hi) (.slice A n c)
     have hv5 : RxV (set8 w4 w.heap.size (.int .i64 kd) (.int .u64 a0) (.int .u64 a1) (.int .u64 a2) (.int .u64 a3) (.int .i64 lo) (.int .i64 hi) (.slice A n c)) (fun i => w3.heap.size ≤ i ∧ i < w4.heap.size) r [.int .i64 kd, .int .u64 a0, .int .u64 a1, .int .u64 a2, .int .u64 a3, .int .i64 lo, .int .i64 hi, .slice A n c] := hv.kept hK5 (fun i hh _ e => by have hh1 := hh.1; have e' : i = w.heap.size := e; omega) (fun i hh _ => hh)
     obtain ⟨g0, g1, g2⟩ := hp5.cells
     have hs5 : w4.heap.size ≤ (set8 w4 w.heap.size (.int .i64 kd) (.int .u64 a0) (.int .u64 a1) (.int .u64 a2) (.int .u64 a3) (.int .i64 lo) (.int .i64 hi) (.slice A n c)).heap.size := hK5.size
     clear hp4 hk4 hv
     first
     | guard_hyp t25q2
       have HV := hD hv5
     | have hA5 : At8 (set8 w4 w.heap.size (.int .i64 kd) (.int .u64 a0) (.int .u64 a1) (.int .u64 a2) (.int .u64 a3) (.int .i64 lo) (.int .i64 hi) (.slice A n c)) w.heap.size 0 [.int .i64 kd, .int .u64 a0, .int .u64 a1, .int .u64 a2, .int .u64 a3, .int .i64 lo, .int .i64 hi, .slice A n c] := ⟨hR5.lt, fun j u hu => by rw [Nat.zero_add, Blk.cell hR5]; simpa using hu⟩
       have hms := ki1 w.heap.size 0 r [.int .i64 kd, .int .u64 a0, .int .u64 a1, .int .u64 a2, .int .u64 a3, .int .i64 lo, .int .i64 hi, .slice A n c] (set8 w4 w.heap.size (.int .i64 kd) (.int .u64 a0) (.int .u64 a1) (.int .u64 a2) (.int .u64 a3) (.int .i64 lo) (.int .i64 hi) (.slice A n c)) _ hv5 (fun i hh => by have hh1 := hh.2; omega) hA5 htm.out
       rw [HMS.out] at hms
       have HM := hD hms
     unfold set8 at g0 g1 g2
     first
     | guard_hyp t25q2
     | have HV := hD hv5
     have HR5 := hD hR5
     have HE5 := hD hE5
     have HB5 := hD hB5
     first
     | guard_hyp t25q0
       clear hp5 hR5 hE5 hB5 hK5 hv5 hR4 hE4 hA5 hms
       go_wp2_with fail
       refine HM.out.mono ?_
       rintro e w6 ⟨rfl, hb6⟩
       have hR6 := HR5.out.below hb6 HR5.out.lt
       have hE6 := Blk.below HE5.out hb6 (Blk.lt HE5.out)
       have hB6 := HB5.out.trans (hb6.mono (by omega))
       have hv6 := HV.out.below hb6
       have hs6 : w4.heap.size ≤ w6.heap.size := Nat.le_trans hs5 hb6.size
       clear c0 c1 c2 c3 c4 c5 c6 c7 f0 f1 f2 f3 f4 f5 f6 f7 g0 g1 g2
       obtain ⟨⟨⟨c0, c1⟩, c2, c3⟩, ⟨c4, c5⟩, c6, c7⟩ := hR6.cells
       obtain ⟨⟨⟨f0, f1⟩, f2, f3⟩, ⟨f4, f5⟩, f6, f7⟩ := hR6.free
       have e0 := hE6.cell 0
       have e1 := hE6.frozen 0
       simp only [gA, gB] at e0
       have HZ := hD (kfK hR6 (h := w.heap.size + 1) (by omega) (.int .i64 kd) (.int .u64 a0) (.int .u64 a1) (.int .u64 a2) (.int .u64 a3) (.int .i64 lo) (.int .i64 hi) (.slice A n c) .nilIface)
       have HZE := hD (kfL hE6 (g := w.heap.size) (by omega) (.int .i64 kd) (.int .u64 a0) (.int .u64 a1) (.int .u64 a2) (.int .u64 a3) (.int .i64 lo) (.int .i64 hi) (.slice A n c) .nilIface)
       have HF := hD (kdj hB6 (g := w.heap.size) (h := w.heap.size + 1) (Nat.le_refl _) (by omega) (.int .i64 kd) (.int .u64 a0) (.int .u64 a1) (.int .u64 a2) (.int .u64 a3) (.int .i64 lo) (.int .i64 hi) (.slice A n c) .nilIface)
       have HK9 := hD (kgC (F := fun i => i = w.heap.size ∨ i = w.heap.size + 1) (Kept.refl _ w6) (g := w.heap.size) (h := w.heap.size + 1) (.inl (.inl rfl)) (.inl (.inr rfl)) (.int .i64 kd) (.int .u64 a0) (.int .u64 a1) (.int .u64 a2) (.int .u64 a3) (.int .i64 lo) (.int .i64 hi) (.slice A n c) .nilIface)
       have HV6 := hD hv6
       clear hR6 hE6 hB6 hv6 hb6
     | guard_hyp t25q1
       clear hp5 hR5 hE5 hB5 hK5 hv5 hR4 hE4 hA5 hms
       go_wp2_with fail
       refine HM.out.mono ?_
       rintro e w6 ⟨rfl, hb6⟩
       have hR6 := HR5.out.below hb6 HR5.out.lt
       have hE6 := Blk.below HE5.out hb6 (Blk.lt HE5.out)
       have hB6 := HB5.out.trans (hb6.mono (by omega))
       have hv6 := HV.out.below hb6
       have hs6 : w4.heap.size ≤ w6.heap.size := Nat.le_trans hs5 hb6.size
       clear c0 c1 c2 c3 c4 c5 c6 c7 f0 f1 f2 f3 f4 f5 f6 f7 g0 g1 g2
       obtain ⟨⟨⟨c0, c1⟩, c2, c3⟩, ⟨c4, c5⟩, c6, c7⟩ := hR6.cells
       obtain ⟨⟨⟨f0, f1⟩, f2, f3⟩, ⟨f4, f5⟩, f6, f7⟩ := hR6.free
       have e0 := hE6.cell 0
       have e1 := hE6.frozen 0
       simp only [gA, gB] at e0
       have HZ := hD (kfK hR6 (h := w.heap.size + 1) (by omega) (.int .i64 0) (.int .u64 0) (.int .u64 0) (.int .u64 0) (.int .u64 0) (.int .i64 0) (.int .i64 0) (.slice none 0 0) kbD)
       have HZE := hD (kfL hE6 (g := w.heap.size) (by omega) (.int .i64 0) (.int .u64 0) (.int .u64 0) (.int .u64 0) (.int .u64 0) (.int .i64 0) (.int .i64 0) (.slice none 0 0) kbD)
       have HF := hD (kdj hB6 (g := w.heap.size) (h := w.heap.size + 1) (Nat.le_refl _) (by omega) (.int .i64 0) (.int .u64 0) (.int .u64 0) (.int .u64 0) (.int .u64 0) (.int .i64 0) (.int .i64 0) (.slice none 0 0) kbD)
       have HK9 := hD (kgC (F := fun i => i = w.heap.size ∨ i = w.heap.size + 1) (Kept.refl _ w6) (g := w.heap.size) (h := w.heap.size + 1) (.inl (.inl rfl)) (.inl (.inr rfl)) (.int .i64 0) (.int .u64 0) (.int .u64 0) (.int .u64 0) (.int .u64 0) (.int .i64 0) (.int .i64 0) (.slice none 0 0) kbD)
       have HV6 := hD hv6
       clear hR6 hE6 hB6 hv6 hb6
       unfold kbD at *
     | clear hp5 hR5 hE5 hB5 hK5 hv5 hR4 hE4
     go_wp2_with fail
     refine leaves_cons (f := 89) (args := #[.pointer (some ⟨w.heap.size, 0, none⟩), .pointer (some ⟨w.heap.size + 1, 0, none⟩)]) (by simp) (by simp [go_sem]) ?_
     first
     | guard_hyp t25q2
       refine (kdI w.heap.size (w.heap.size + 1) _ _ _ _ _ _ _ _ _ _ _ [] _ HR5.out HE5.out).mono ?_
     | refine (kkW _ _ _).mono ?_
     rintro e u' w'' ⟨rfl, rfl, rfl⟩
     first
     | guard_hyp t25q2
       obtain ⟨⟨⟨d0, d1⟩, d2, d3⟩, ⟨d4, d5⟩, d6, d7⟩ := (kfK HR5.out (h := w.heap.size + 1) (by omega) (.int .i64 0) (.int .u64 0) (.int .u64 0) (.int .u64 0) (.int .u64 0) (.int .i64 0) (.int .i64 0) (.slice none 0 0) kbF).cells
       have d8 := (kfL HE5.out (g := w.heap.size) (by omega) (.int .i64 0) (.int .u64 0) (.int .u64 0) (.int .u64 0) (.int .u64 0) (.int .i64 0) (.int .i64 0) (.slice none 0 0) kbF).cell 0
     | obtain ⟨⟨⟨d0, d1⟩, d2, d3⟩, ⟨d4, d5⟩, d6, d7⟩ := HZ.out.cells
       have d8 := HZE.out.cell 0
     simp only [gA, gB] at d8
     first
     | guard_hyp t25q2
       have HF := hD (kdj HB5.out (g := w.heap.size) (h := w.heap.size + 1) (Nat.le_refl _) (by omega) (.int .i64 0) (.int .u64 0) (.int .u64 0) (.int .u64 0) (.int .u64 0) (.int .i64 0) (.int .i64 0) (.slice none 0 0) kbF)
     | skip
     unfold set9 set8 at d0 d1 d2 d3 d4 d5 d6 d7 d8
     first
     | guard_hyp t25q0
       simp [Leaves, settle, results, Tryz.results51, go_sem, d0, d1, d2, d3, d4, d5, d6, d7, d8]
       refine ⟨⟨_, by rw [HPE.out], ?_⟩, HF.out⟩
       rw [HPR.out]
       exact ⟨HV6.out.kept HK9.out (fun i hh _ e => by have hh1 := hh.1; omega) (fun i hh hl => ⟨by have hh1 := hh.1; omega, Nat.lt_of_lt_of_le hl HK9.out.size⟩), htm.out⟩
     | guard_hyp t25q1
       simp [Leaves, settle, results, Tryz.results51, go_sem, d0, d1, d2, d3, d4, d5, d6, d7, d8]
       exact ⟨⟨keW, by rw [HPE.out]; rfl, by rw [HPR.out]; rfl⟩, HF.out⟩
     | simp [Leaves, settle, results, Tryz.results51, go_sem, set8, d0, d1, d2, d3, d4, d5, d6, d7, d8]
       exact ⟨⟨keW, by rw [HPE.out]; rfl, by rw [HPR.out]; rfl⟩, HF.out⟩
   | clear hP hPE hPR hx
     go_enter_defers Tryz.func51, Tryz.ntmps51
     go_wp2_with fail
     refine HC.out.mono ?_
     rintro e w' ⟨rfl, rfl⟩
     go_wp2_with fail
     rw [← HW3.out]
     refine HX.out.mono ?_
     rintro e w4 ⟨rfl, hp4, hk4⟩
     have hR4 := HR3.out.kept hk4 (fun e => by have e' : w.heap.size = w.heap.size + 1 + 1 := e; omega)
     have hE4 := HE3.out.kept hk4 (fun e => by have e' : w.heap.size + 1 = w.heap.size + 1 + 1 := e; omega)
     have hB4 := hk4.below HB3.out (by omega) (fun i e => by have e' : i = w.heap.size + 1 + 1 := e; omega)
     go_wp2_with fail
     refine leaves_cons (f := 89) (args := #[.pointer (some ⟨w.heap.size, 0, none⟩), .pointer (some ⟨w.heap.size + 1, 0, none⟩)]) (by simp) (by simp [go_sem]) ?_
     refine (kdI w.heap.size (w.heap.size + 1) _ _ _ _ _ _ _ _ _ _ _ [] _ hR4 hE4).mono ?_
     rintro e u' w'' ⟨rfl, rfl, rfl⟩
     obtain ⟨⟨⟨d0, d1⟩, d2, d3⟩, ⟨d4, d5⟩, d6, d7⟩ := (kfK hR4 (h := w.heap.size + 1) (by omega) (.int .i64 0) (.int .u64 0) (.int .u64 0) (.int .u64 0) (.int .u64 0) (.int .i64 0) (.int .i64 0) (.slice none 0 0) kbF).cells
     have d8 := (kfL hE4 (g := w.heap.size) (by omega) (.int .i64 0) (.int .u64 0) (.int .u64 0) (.int .u64 0) (.int .u64 0) (.int .i64 0) (.int .i64 0) (.slice none 0 0) kbF).cell 0
     simp only [gA, gB] at d8
     have HF := hD (kdj hB4 (g := w.heap.size) (h := w.heap.size + 1) (Nat.le_refl _) (by omega) (.int .i64 0) (.int .u64 0) (.int .u64 0) (.int .u64 0) (.int .u64 0) (.int .i64 0) (.int .i64 0) (.slice none 0 0) kbF)
     unfold set9 set8 at d0 d1 d2 d3 d4 d5 d6 d7 d8
     simp [Leaves, settle, results, Tryz.results51, go_sem, set8, d0, d1, d2, d3, d4, d5, d6, d7, d8]
     exact ⟨⟨keW, by rw [HPE.out]; rfl, by rw [HPR.out]; rfl⟩, HF.out⟩
 | have t2 : decide (1024 < (cc : Int)) = true := by simp; omega
   clear hb hPE hPR hc hc2 hcc
   go_enter_defers Tryz.func51, Tryz.ntmps51
   go_wp2_with fail
   refine HC.out.mono ?_
   rintro e w' ⟨rfl, rfl⟩
   go_wp2_with fail
   simp [bodyPostD, Leaves, results, Tryz.results51, go_sem]
   exact ⟨⟨keW, by rw [HPE.out]; rfl, by rw [HPR.out]; rfl⟩, ((Below.refl _ _).alloc (Nat.le_refl _) _).alloc (by simp) _⟩) : P := h
theorem y49 {P : Prop} (h : P := by
 have t535q0 := True.intro
 exact y92) : P := h
theorem y9 {P : Prop} (h : P := by
 first
 | guard_hyp t25q0
   have hP : kbY T = some r := by unfold kbY; rw [hx]; exact if_pos rfl
   have hPE : kbB T = .nilIface := by unfold kbB; rw [if_neg (by rw [hb]; decide), hP]; simp only; rw [hf]; rfl
   have hPR : kbX T = some r := by unfold kbX; rw [if_neg (by rw [hb]; decide), hP]; simp only; rw [hf]; rfl
 | guard_hyp t25q1
   have hP : kbY T = some r := by unfold kbY; rw [hx]; exact if_pos rfl
   have hPE : kbB T = kbD := by unfold kbB; rw [if_neg (by rw [hb]; decide), hP]; simp only; rw [hf]; rfl
   have hPR : kbX T = none := by unfold kbX; rw [if_neg (by rw [hb]; decide), hP]; simp only; rw [hf]; rfl
 | have hP : kbY T = none := by unfold kbY; rw [hx]; exact if_neg hk
   have hPE : kbB T = kbF := by unfold kbB; rw [if_neg (by rw [hb]; decide), hP]
   have hPR : kbX T = none := by unfold kbX; rw [if_neg (by rw [hb]; decide), hP]
 have HPE := hD hPE
 have HPR := hD hPR
 first
 | guard_hyp t25q0
   have htm := hD (kel _ _ _ _ (Nat.zero_le _) hx)
   have HMS := hD (show msV r = .tuple #[.int .i64 r.pos, .nilIface] by unfold msV; rw [hf]; rfl)
 | guard_hyp t25q1
   have htm := hD (kel _ _ _ _ (Nat.zero_le _) hx)
   have HMS := hD (show msV r = .tuple #[.int .i64 0, kbD] by unfold msV; rw [hf]; rfl)
 | have hkl := kc4 _ _ _ _ (Nat.zero_le _) hx
 have t492q0 := True.intro
 exact y49) : P := h
def bigT (T : List UInt8) : Bool := decide (262144 < T.length) || decide (1024 < Lib.countByte T 40)
def kbX (T : List UInt8) : Option Rx := if bigT T then none else match kbY T with
 | none => none
 | some r => if r.fits then some r else none
def kbB (T : List UInt8) : Value := if bigT T then kbD else match kbY T with
 | none => kbF
 | some r => if r.fits then .nilIface else kbD
def keW : List Value := [.int .i64 0, .int .u64 0, .int .u64 0, .int .u64 0, .int .u64 0, .int .i64 0, .int .i64 0, .slice none 0 0]
def TreeOr (w w' : World) (r : Option Rx) (cs : List Value) : Prop := match r with
 | none => cs = keW
 | some r => RxV w' (rng w.heap.size w'.heap.size) r cs ∧ r.tame
theorem ke7 {w w' : World} {r : Option Rx} {cs : List Value} (h : TreeOr w w' r cs) : ∃ kd a0 a1 a2 a3 lo hi A n c, cs = [.int .i64 kd, .int .u64 a0, .int .u64 a1, .int .u64 a2, .int .u64 a3, .int .i64 lo, .int .i64 hi, .slice A n c] := by
 unfold TreeOr at h
 split at h
 ·
  exact ⟨_, _, _, _, _, _, _, _, _, _, h⟩
 ·
  rename_i r
  obtain ⟨kd, a, b, c, d, lo, hi, l⟩ := r
  obtain ⟨h, _⟩ := h
  unfold RxV at h
  obtain ⟨A, c, css, h, _⟩ := h
  exact ⟨_, _, _, _, _, _, _, _, _, _, h⟩
def kcQ (T : List UInt8) (w : World) (e : Ending) (w' : World) : Prop :=
 (∃ cs, e = .returned (.tuple #[.agg cs.toArray, kbB T]) ∧ TreeOr w w' (kbX T) cs) ∧ Below w.heap.size w w'
set_option maxHeartbeats 2000000
theorem klD (T : List UInt8) (w : World) (h : T.length ≤ 9223372036854775807) (hb : bigT T = true) : Calls Tryz.prog 51 #[.string ⟨T.toArray⟩] w (kcQ T w) := by
 exact y92
def set9 (w : World) (g h : Nat) (u0 u1 u2 u3 u4 u5 u6 u7 er : Value) : World := (set8 w g u0 u1 u2 u3 u4 u5 u6 u7).setCell ⟨h, 0, none⟩ er
theorem kfK {w : World} {g h : Nat} {v0 v1 v2 v3 v4 v5 v6 v7 : Value} (hR : R8 w g v0 v1 v2 v3 v4 v5 v6 v7) (hgh : g ≠ h) (u0 u1 u2 u3 u4 u5 u6 u7 er : Value) : R8 (set9 w g h u0 u1 u2 u3 u4 u5 u6 u7 er) g u0 u1 u2 u3 u4 u5 u6 u7 := Blk.far (p := ⟨h, 0, none⟩) (hR.all u0 u1 u2 u3 u4 u5 u6 u7) hgh er
theorem kfL {w : World} {g h : Nat} {e0 : Value} (hE : Blk w h 29 #[e0]) (hgh : h ≠ g) (u0 u1 u2 u3 u4 u5 u6 u7 er : Value) : Blk (set9 w g h u0 u1 u2 u3 u4 u5 u6 u7 er) h 29 #[er] := Blk.set_ (Blk.set8 hE hgh u0 u1 u2 u3 u4 u5 u6 u7) 0 er
theorem kgC {F : Nat → Prop} {w w' : World} {g h : Nat} (k : Kept F w w') (hg : F g ∨ w.heap.size ≤ g) (hh : F h ∨ w.heap.size ≤ h) (u0 u1 u2 u3 u4 u5 u6 u7 er : Value) : Kept F w (set9 w' g h u0 u1 u2 u3 u4 u5 u6 u7 er) := (kaD k hg u0 u1 u2 u3 u4 u5 u6 u7).setCell (p := ⟨h, 0, none⟩) hh er
theorem kdj {B : Nat} {w w' : World} {g h : Nat} (k : Below B w w') (hg : B ≤ g) (hh : B ≤ h) (u0 u1 u2 u3 u4 u5 u6 u7 er : Value) : Below B w (set9 w' g h u0 u1 u2 u3 u4 u5 u6 u7 er) := (kdk k hg u0 u1 u2 u3 u4 u5 u6 u7).setCell hh er
theorem kkq (T : List UInt8) (w : World) (hb : bigT T = false) (hx : kbW T (T.length + 1) 0 = none) : Calls Tryz.prog 51 #[.string ⟨T.toArray⟩] w (kcQ T w) := by
 have hP : kbY T = none := by unfold kbY; rw [hx]
 have hPE : kbB T = kbF := by unfold kbB; rw [if_neg (by rw [hb]; decide), hP]
 have hPR : kbX T = none := by unfold kbX; rw [if_neg (by rw [hb]; decide), hP]
 have HPE := hD hPE
 have HPR := hD hPR
 exact y49
theorem kko (T : List UInt8) (w : World) (r : Rx) (k : Nat) (hb : bigT T = false) (hx : kbW T (T.length + 1) 0 = some (r, k)) (hk : k ≠ T.length) : Calls Tryz.prog 51 #[.string ⟨T.toArray⟩] w (kcQ T w) := by
 have t25q2 := True.intro
 exact y9
theorem kkp (T : List UInt8) (w : World) (r : Rx) (hb : bigT T = false) (hx : kbW T (T.length + 1) 0 = some (r, T.length)) (hf : r.fits = true) : Calls Tryz.prog 51 #[.string ⟨T.toArray⟩] w (kcQ T w) := by
 have t25q0 := True.intro
 exact y9
theorem khO (T : List UInt8) (w : World) (r : Rx) (hb : bigT T = false) (hx : kbW T (T.length + 1) 0 = some (r, T.length)) (hf : r.fits = false) : Calls Tryz.prog 51 #[.string ⟨T.toArray⟩] w (kcQ T w) := by
 have t25q1 := True.intro
 exact y9
theorem kgx (T : List UInt8) (w : World) (h : T.length ≤ 9223372036854775807) : Calls Tryz.prog 51 #[.string ⟨T.toArray⟩] w (kcQ T w) := by
 rcases hb : bigT T with _ | _
 ·
  rcases hx : kbW T (T.length + 1) 0 with _ | ⟨r, k⟩
  ·
   exact kkq T w hb hx
  ·
   by_cases hk : k = T.length
   ·
    subst hk
    rcases hf : r.fits with _ | _
    ·
     exact khO T w r hb hx hf
    ·
     exact kkp T w r hb hx hf
   ·
    exact kko T w r k hb hx hk
 ·
  exact klD T w h hb
theorem z30 {P : Prop} (h : P := by
 obtain ⟨n, a, b⟩ := q
 intro hq h
 rw [sigF] at h
 split at h
 ·
  injection h with h
  injection h with h1 h2
  subst h1 h2
  exact hq _ (List.mem_cons_self ..)
 ·
  exact ih (fun q hm => hq q (List.mem_cons_of_mem _ hm)) h) : P := h
theorem kjq {l : List UInt8} {S : List Int} {r : Int} (h : sig l = some (S, r)) : 1 ≤ r ∧ r ≤ 4 ∧ 1 ≤ S.length ∧ S.length ≤ 3 := by
 have hh : ∀ L : List (List UInt8 × List Int × Int), (∀ q ∈ L, 1 ≤ q.2.2 ∧ q.2.2 ≤ 4 ∧ 1 ≤ q.2.1.length ∧ q.2.1.length ≤ 3) → sigF l L = some (S, r) → 1 ≤ r ∧ r ≤ 4 ∧ 1 ≤ S.length ∧ S.length ≤ 3 := fun L => by
  induction L with
  | nil => intro _ h; cases h
  | cons q L ih =>
   exact z30
 exact hh sigT (by decide) h
end Go.Proofs.YtamhdmkolfmmdaaGreatDoor
