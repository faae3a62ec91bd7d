/- The walk of FilesPrefixes (func 5). -/
import Derived.Test.YthmbmecodddkeaaPrePl
import Derived.Test.YthmbmecodddkeaaGreat
import Derived.Test.YthmbmecodddkeaaLNames
import Derived.StillTailTactics
namespace Go.Proofs.Ythmbmecodddkeaa
open Go.RowKit Go.WideMaps
set_option linter.unusedVariables false
def lossV (nm : ByteArray) (A1 : Option Addr) (n1 c1 : Nat) (A2 : Option Addr) (n2 c2 : Nat) (k : Int) : Value := .agg #[.string nm, .slice A1 n1 c1, .slice A2 n2 c2, .int .i64 k]
theorem ActsM.below {w w' : World} {A : Option Addr} {n : Nat} {l : List ActR} (h : ActsM w A n l) (hb : Below w.heap.size w w') : ActsM w' A n l := by
  refine ⟨h.len, fun i hi => ?_, h.sum⟩
  obtain ⟨b, o, e, ha⟩ := h.at_ i hi
  have ho := ha.ok
  refine ⟨b, o, e, ⟨Nat.lt_of_lt_of_le ha.blt hb.size, ⟨ho.k, ho.x, ho.nm, ho.ot, (ho.rd.below hb).more hb.size, ho.dl, (ho.rk.below hb).more hb.size, ho.kl, ho.kc, ho.kb⟩, ?_, ?_, ?_, ?_, ?_, ?_⟩⟩
  · exact (hb.cell (p := ⟨b, o + i * 6, none⟩) ha.blt).trans ha.c0
  · exact (hb.cell (p := ⟨b, o + i * 6 + 1, none⟩) ha.blt).trans ha.c1
  · exact (hb.cell (p := ⟨b, o + i * 6 + 2, none⟩) ha.blt).trans ha.c2
  · exact (hb.cell (p := ⟨b, o + i * 6 + 3, none⟩) ha.blt).trans ha.c3
  · exact (hb.cell (p := ⟨b, o + i * 6 + 4, none⟩) ha.blt).trans ha.c4
  · exact (hb.cell (p := ⟨b, o + i * 6 + 5, none⟩) ha.blt).trans ha.c5
theorem scr_one {wb : World} {A : Option Addr} {n c : Nat} {l : List ActR} (h : ActsM wb A n l) : ScrM (wb.alloc (.cells #[.slice A n c] 42)) (some ⟨wb.heap.size, 0, none⟩) 1 [.slice A n c] [l] := by
  refine ⟨Reads.of_alloc wb #[.slice A n c] 42 (by simp) rfl, rfl, fun i hi => ?_⟩
  have : i = 0 := by simp at hi; omega
  subst this
  exact ⟨A, n, c, rfl, h.below ((Below.refl wb.heap.size wb).alloc (Nat.le_refl _) _)⟩
theorem great_one {w wb : World} {A : Option Addr} {n c : Nat} {l : List ActR} (h : ActsM w A n l) (hb : Below w.heap.size w wb) : Calls Try.prog 19 #[.slice (some ⟨wb.heap.size, 0, none⟩) 1 1] (wb.alloc (.cells #[.slice A n c] 42)) (GrE (wb.alloc (.cells #[.slice A n c] 42)) (decide (400 < totN [l] 1))) :=
  great_any _ 1 1 _ [l] _ (scr_one (h.below hb)) (by omega)
set_option maxRecDepth 100000 in
set_option maxHeartbeats 4000000 in
theorem pre_skip (A : Option Addr) (n c : Nat) (l : List ActR) (nm : ByteArray) (A1 : Option Addr) (n1 c1 : Nat) (A2 : Option Addr) (n2 c2 : Nat) (k : Int) (w : World) (hA : ActsM w A n l) (hn1 : n1 ≤ 1048576) (hn2 : n2 ≤ 1048576)
    (hs : nm.size ≤ maxLen) (hor : 400 < totN [l] 1 ∨ 2000 < n1 + n2 ∨ validN nm = false) :
    Calls Try.prog 5 #[.slice A n c, lossV nm A1 n1 c1 A2 n2 c2 k] w (AwEnd w) := by
  unfold maxLen at hs
  obtain ⟨wa, hwa⟩ : ∃ wa, wa = w.alloc (.cells #[.string nm, .slice A1 n1 c1, .slice A2 n2 c2, .int .i64 k] 44) := ⟨_, rfl⟩
  have hba : Below w.heap.size w wa := by rw [hwa]; exact (Below.refl _ _).alloc (Nat.le_refl _) _
  have hka : Blk wa w.heap.size 44 #[.string nm, .slice A1 n1 c1, .slice A2 n2 c2, .int .i64 k] := by rw [hwa]; exact Blk.new _ _ _
  have HWA := Lib.hid hwa
  have x0 := hka.cell 0
  have x1 := hka.cell 1
  have x2 := hka.cell 2
  have x3 := hka.cell 3
  simp only [List.getElem?_toArray, List.getElem?_cons_zero, List.getElem?_cons_succ] at x0 x1 x2 x3
  unfold lossV
  clear hwa
  go_enter Try.func5, Try.ntmps5
  go_upto_region 1 with (fail)
  rw [← HWA.out]
  have HB := Lib.hid hba
  have HA := Lib.hid hA
  clear hba hka hA
  by_cases hg : 400 < totN [l] 1
  · have HG := Lib.hid (decide_eq_true hg)
    clear hg hor
    go_quiet (fail)
    go_upto_region 2 with (fail)
    have hbb : Below w.heap.size w (wa.drewN nq) := ⟨HB.out.os, HB.out.tape, HB.out.output, HB.out.size, HB.out.block⟩
    generalize wa.drewN nq = wb at *
    have hgr := great_one (c := c) HA.out hbb
    rw [HG.out] at hgr
    go_wp2_with fail
    refine hgr.mono ?_
    clear hgr
    rintro e w3 ⟨rfl, hb3⟩
    have hb4 := (hbb.alloc hbb.size (.cells #[.slice A n c] 42)).trans (hb3.mono (by have := hbb.size; simp; omega))
    go_wp2_with fail
    go_ret
    exact ⟨rfl, hb4⟩
  · have HG := Lib.hid (decide_eq_false hg)
    by_cases h2 : 2000 < n1 + n2
    · have h2d : decide ((2000 : Int) < (n1 : Int) + (n2 : Int)) = true := decide_eq_true (by omega)
      clear hor hg
      go_quiet (fail)
      go_upto_region 2 with (fail)
      have hbb : Below w.heap.size w (wa.drewN nq) := ⟨HB.out.os, HB.out.tape, HB.out.output, HB.out.size, HB.out.block⟩
      generalize wa.drewN nq = wb at *
      have hgr := great_one (c := c) HA.out hbb
      rw [HG.out] at hgr
      go_wp2_with fail
      refine hgr.mono ?_
      clear hgr
      rintro e w3 ⟨rfl, hb3⟩
      have hb4 := (hbb.alloc hbb.size (.cells #[.slice A n c] 42)).trans (hb3.mono (by have := hbb.size; simp; omega))
      go_wp2_with fail
      go_ret
      exact ⟨rfl, hb4⟩
    · have h2d : decide ((2000 : Int) < (n1 : Int) + (n2 : Int)) = false := decide_eq_false (by omega)
      have hv : validN nm = false := by
        rcases hor with h | h | h
        · exact absurd h hg
        · exact absurd h h2
        · exact h
      have hv2 : nm.size < 1 ∨ 32 < nm.size := by
        rcases validN_or nm with h | h
        · rw [h] at hv; exact absurd hv (by decide)
        · exact h
      by_cases h3 : nm.size < 1
      · have h3d : decide ((nm.size : Int) < 1) = true := decide_eq_true (by omega)
        clear hor hg hv hv2 h2
        go_quiet (fail)
        go_upto_region 2 with (fail)
        have hbb : Below w.heap.size w (wa.drewN nq) := ⟨HB.out.os, HB.out.tape, HB.out.output, HB.out.size, HB.out.block⟩
        generalize wa.drewN nq = wb at *
        have hgr := great_one (c := c) HA.out hbb
        rw [HG.out] at hgr
        go_wp2_with fail
        refine hgr.mono ?_
        clear hgr
        rintro e w3 ⟨rfl, hb3⟩
        have hb4 := (hbb.alloc hbb.size (.cells #[.slice A n c] 42)).trans (hb3.mono (by have := hbb.size; simp; omega))
        go_wp2_with fail
        go_ret
        exact ⟨rfl, hb4⟩
      · have h3d : decide ((nm.size : Int) < 1) = false := decide_eq_false (by omega)
        have h4d : decide ((32 : Int) < (nm.size : Int)) = true := decide_eq_true (by omega)
        clear hor hg hv hv2 h2
        go_quiet (fail)
        go_upto_region 2 with (fail)
        have hbb : Below w.heap.size w (wa.drewN nq) := ⟨HB.out.os, HB.out.tape, HB.out.output, HB.out.size, HB.out.block⟩
        generalize wa.drewN nq = wb at *
        have hgr := great_one (c := c) HA.out hbb
        rw [HG.out] at hgr
        go_wp2_with fail
        refine hgr.mono ?_
        clear hgr
        rintro e w3 ⟨rfl, hb3⟩
        have hb4 := (hbb.alloc hbb.size (.cells #[.slice A n c] 42)).trans (hb3.mono (by have := hbb.size; simp; omega))
        go_wp2_with fail
        go_ret
        exact ⟨rfl, hb4⟩
theorem UEnd.go {w0 w w' : World} {lo sb mb n n' : Nat} {F : Nat → Prop} {st st' : AS} {e : Ending} (hb : Below w0.heap.size w0 w) (hlo : w0.heap.size ≤ lo) (hS : SysM w lo F sb mb n st) (h : UEnd w lo F sb mb n' st' e w') : e = .returned (.tuple #[]) ∧ SysB w0 w' lo sb mb n' st' := by
  obtain ⟨rfl, hS', hk⟩ := h
  obtain ⟨_, _, _, _, hF, _⟩ := hS
  exact ⟨rfl, ⟨_, hS'⟩, hk.below hb hb.size fun i hi => by have := hF i hi; omega, hlo⟩
theorem quietY {f : FuncId} {args : Array Value} {w : World} {n : Nat} {v : Value} (h : Calls Try.prog f args (w.drewN n) (RetW (w.drewN n) v)) : Calls Try.prog f args (w.drewN n) fun e w'' => e = .returned v ∧ ∃ m, w'' = w.drewN m :=
  h.mono fun _ _ ⟨he, hm⟩ => ⟨he, n, hm.symm⟩
theorem slice_low (A : Option Addr) (m c k : Nat) (hk : k ≤ m) (w : World) : (Instr.slice 28 (.slice A m c) (some (.int .i64 (k : Int))) none none).run Try.prog w = .ok (.slice (if c = k then A else A.map (·.add k)) (m - k) (c - k)) w := by
  have q0 : (0 : Int) ≤ (k : Int) := by omega
  have q1 : (k : Int) ≤ (m : Int) := by omega
  by_cases h : c = k
  · subst h
    simp [go_sem, Try.underlying28, q0, q1]
  · simp [go_sem, Try.underlying28, q0, q1, h]
theorem foot_far {w w1 : World} {lo B sb mb n m : Nat} {F : Nat → Prop} {st : AS} {A : Option Addr} {xs : List Value} (hS : SysM w lo F sb mb n st) (hr : Reads w1 B 1 A m xs) (hB : B ≤ lo) : ∀ ad, A = some ad → 0 < m → ¬ F ad.block := fun ad e hm hf => by
  obtain ⟨ad', e', hb', _⟩ := hr.2 hm
  rw [e] at e'; injection e' with e'
  obtain ⟨_, _, _, _, h4, _⟩ := hS
  have h1 := h4 _ hf
  rw [e'] at h1; omega
set_option maxRecDepth 100000 in
set_option maxHeartbeats 4000000 in
theorem pre_main (A : Option Addr) (n c : Nat) (l : List ActR) (nm : ByteArray) (A1 : Option Addr) (n1 c1 : Nat) (A2 : Option Addr) (n2 c2 : Nat) (k : Int) (first second : List UInt8) (w : World) (hA : ActsM w A n l) (hr1 : Reads w w.heap.size 1 A1 n1 (first.map byteV)) (hr2 : Reads w w.heap.size 1 A2 n2 (second.map byteV))
    (hc1 : n1 ≤ c1) (hc2 : n2 ≤ c2) (hk : -9223372036854775808 ≤ k ∧ k ≤ 9223372036854775807) (hg : ¬ 400 < totN [l] 1) (hnn : ¬ 2000 < n1 + n2) (hv : validN nm = true) :
    Calls Try.prog 5 #[.slice A n c, lossV nm A1 n1 c1 A2 n2 c2 k] w (AwEnd w) := by
  have hsz : nm.size ≤ 32 ∧ 1 ≤ nm.size := by
    unfold validN at hv
    simp only [Bool.and_eq_true, decide_eq_true_eq] at hv
    omega
  have hs : nm.size ≤ maxLen := by unfold maxLen; omega
  have hf1 : first.length = n1 := by have := hr1.1; simpa using this
  have hf2 : second.length = n2 := by have := hr2.1; simpa using this
  have htot : totN [l] 1 = grN l := by simp [totN]
  rw [htot] at hg
  have hln := hA.len
  have hsm := gr_small l
  have hgn : l.length + grS l l.length ≤ 400 := by have : ¬ 400 < grN l := hg; unfold grN at this; omega
  have hds : dataSum l n ≤ 9 * l.length + 10 * grS l l.length := by rw [← hln]; exact hsm.2
  have hbg := fun w' (hb : Below w.heap.size w w') => begun_any A n c l w' (hA.below hb) (by omega) (fun a ha => by have := hsm.1 a ha; omega)
  obtain ⟨D, hD⟩ : ∃ D, D = dataSum l n := ⟨_, rfl⟩
  rw [← hD] at hds hbg
  have hD9 : D ≤ 8000 := by omega
  have hn9 : n ≤ 400 := by omega
  have HG := Lib.hid (show decide (400 < totN [l] 1) = false by rw [htot]; exact decide_eq_false hg)
  have h2d : decide ((2000 : Int) < (n1 : Int) + (n2 : Int)) = false := decide_eq_false (by omega)
  have h3d : decide ((nm.size : Int) < 1) = false := decide_eq_false (by omega)
  have h4d : decide ((32 : Int) < (nm.size : Int)) = false := decide_eq_false (by omega)
  obtain ⟨wa, hwa⟩ : ∃ wa, wa = w.alloc (.cells #[.string nm, .slice A1 n1 c1, .slice A2 n2 c2, .int .i64 k] 44) := ⟨_, rfl⟩
  have hba : Below w.heap.size w wa := by rw [hwa]; exact (Below.refl _ _).alloc (Nat.le_refl _) _
  have hka : Blk wa w.heap.size 44 #[.string nm, .slice A1 n1 c1, .slice A2 n2 c2, .int .i64 k] := by rw [hwa]; exact Blk.new _ _ _
  have HWA := Lib.hid hwa
  have x0 := hka.cell 0
  have x1 := hka.cell 1
  have x2 := hka.cell 2
  have x3 := hka.cell 3
  simp only [List.getElem?_toArray, List.getElem?_cons_zero, List.getElem?_cons_succ] at x0 x1 x2 x3
  have HB := Lib.hid hba
  have HA := Lib.hid hA
  have HBG := Lib.hid hbg
  have HF1 := Lib.hid hf1
  have HF2 := Lib.hid hf2
  have HV := Lib.hid hv
  have HR1 := Lib.hid (show ∀ w', Below w.heap.size w w' → Reads w' w.heap.size 1 A1 n1 (first.map byteV) from fun w' hb => hr1.below hb)
  have HR2 := Lib.hid (show ∀ w', Below w.heap.size w w' → Reads w' w.heap.size 1 A2 n2 (second.map byteV) from fun w' hb => hr2.below hb)
  unfold lossV
  clear hwa hba hka hA hbg hf1 hf2 hv hr1 hr2 hsm hds hD hln hg htot
  go_enter Try.func5, Try.ntmps5
  go_upto_region 1 with (fail)
  rw [← HWA.out]
  go_quiet (fail)
  go_upto_region 2 with (fail)
  have hbb : Below w.heap.size w (wa.drewN nq) := ⟨HB.out.os, HB.out.tape, HB.out.output, HB.out.size, HB.out.block⟩
  clear x0 x1 x2 x3
  generalize wa.drewN nq = wb at *
  have hgr := great_one (c := c) HA.out hbb
  rw [HG.out] at hgr
  go_wp2_with fail
  refine hgr.mono ?_
  clear hgr
  rintro e w3 ⟨rfl, hb3⟩
  have hb4 := (hbb.alloc hbb.size (.cells #[.slice A n c] 42)).trans (hb3.mono (by have := hbb.size; simp; omega))
  have hbg := HBG.out w3 hb4
  clear hb3 hbb
  go_wp2_with fail
  refine hbg.mono ?_
  clear hbg HBG HA HG
  rintro e w4 ⟨base, F, sb, mb, st, rfl, hb5, hbase, hS4, hcap4, hinf, hind⟩
  have hw3 := hb4.size
  have hlo : w.heap.size ≤ base := Nat.le_trans hw3 hbase
  have hb4' := hb4.trans (hb5.mono hw3)
  obtain ⟨hris, hsy⟩ := hS4.files_ok
  have hlen9 : st.files.length ≤ 400 := by have := hinf.1; omega
  obtain ⟨st2, st3, st4, st5, was, hpre⟩ := pre_law (k := k) HV.out hris (fun f hf => (hsy f hf).1) hind (first := first) (second := second) (by rw [HF1.out, HF2.out]; omega)
  have h1 := crash_any base sb mb n F st none 0 0 0 [] w4 hS4 Reads.none_ (Nat.zero_le _) (fun ad e => by cases e) (Nat.le_refl _) (by omega) (fun f hf => by have := hinf.2 f hf; omega) (fun k hk => by cases hk) hcap4
  have HPRE := Lib.hid hpre
  have HS4 := Lib.hid hS4
  have HINF1 := Lib.hid (show InvF n (⟨crashL st.files [], false, false, 0⟩ : AS).files from inv_crash hinf [])
  clear hpre hris hsy hind hinf hcap4 hb5 hbase hb4 hw3 hS4
  generalize (⟨crashL st.files [], false, false, 0⟩ : AS) = st1 at *
  go_wp2_with fail
  refine h1.mono ?_
  clear h1
  intro e w5 h
  obtain ⟨rfl, ⟨F5, hS5⟩, hb5, _⟩ := h.go hb4' hlo HS4.out
  clear h hb4'
  have h2 := append_any base sb mb n F5 st1 A1 n1 c1 w.heap.size first nm w5 hS5 (HR1.out w5 hb5) hb5.size HF1.out (foot_far hS5 (HR1.out w5 hb5) hlo) (by omega) hs (by unfold maxLen; omega)
  rw [HPRE.out.a1] at h2
  simp only [errV_zero] at h2
  have HS5 := Lib.hid hS5
  clear hS5
  go_wp2_with fail
  refine h2.mono ?_
  clear h2
  intro e w6 h
  obtain ⟨rfl, ⟨F6, hS6⟩, hb6, _⟩ := h.go hb5 hlo HS5.out
  clear h hb5
  have h3 := sync_any base sb mb (n + 1) F6 st2 nm w6 hS6 hs
  rw [HPRE.out.s1] at h3
  simp only [errV_zero] at h3
  have HS6 := Lib.hid hS6
  clear hS6
  go_wp2_with fail
  refine h3.mono ?_
  clear h3
  intro e w7 h
  obtain ⟨rfl, ⟨F7', hS7'⟩, hb7, _⟩ := h.go hb6 hlo HS6.out
  clear h hb6
  obtain ⟨F7, HC7, hS7⟩ : ∃ F7, Hid (∀ i, F7 i → i < w7.heap.size) ∧ SysM w7 base F7 sb mb (n + 1) st3 := ⟨fun i => F7' i ∧ i < w7.heap.size, fun i hi => hi.2, hS7'.cap⟩
  clear hS7'
  have h4 := read_any base sb mb (n + 1) F7 st3 nm w7 hS7 hs
  obtain ⟨s1, hfd⟩ := HPRE.out.r1
  have HFD7 := Lib.hid hfd
  rw [hfd] at h4
  have HS7 := Lib.hid hS7
  clear hS7 hfd
  go_wp2_with fail
  refine h4.mono ?_
  clear h4
  rintro e w8 ⟨hq8, A8, c8, rfl, hown8⟩
  have hb8 := hb7.trans (hq8.mono hb7.size)
  have HS8 := Lib.hid (HS7.out.below hq8)
  simp only at hown8
  obtain ⟨o, ho⟩ := HPRE.out.old
  have HO := Lib.hid ho
  have hW0 : was.length = o.length + n1 := by rw [HO.out, List.length_append, HF1.out]
  have hrw : was.drop o.length = first := by rw [HO.out, List.drop_left]
  have hr8 := Reads.of_own hown8
  have hc8 := own_le hown8
  have hcut := hr8.cut (k := o.length) (cap := c8) (by omega) hc8
  rw [Nat.mul_one, ← List.map_drop, hrw] at hcut
  have hsl := fun W' => slice_low A8 was.length c8 o.length (by omega) W'
  obtain ⟨A9, hA9⟩ : ∃ A9 : Option Addr, A9 = (if c8 = o.length then A8 else A8.map (·.add (o.length * 1))) := ⟨_, rfl⟩
  rw [Nat.mul_one] at hA9
  rw [← hA9] at hcut
  simp only [← hA9] at hsl
  have hsub : was.length - o.length = n1 := by omega
  have hidx : (o.length : Int) = (was.length : Int) - (n1 : Int) := by omega
  rw [hsub] at hcut
  simp only [hsub, hidx] at hsl
  have hNF8 : ∀ ad, A8 = some ad → 0 < was.length → w7.heap.size ≤ ad.block ∧ ad.block < w8.heap.size := fun ad e hm => by
    obtain ⟨g, cap, hv, hbs, hlt⟩ := hown8.form hm
    have e2 : A8 = some ⟨g, 0, none⟩ := by injection hv
    rw [e] at e2; injection e2 with e2; rw [e2]; exact ⟨hbs, hlt⟩
  have HNF8 := Lib.hid hNF8
  have HR8 := Lib.hid hr8
  have HCUT := Lib.hid (fun w' (hq : Below w8.heap.size w8 w') => str_of w' A9 n1 (c8 - o.length) _ first (hcut.below hq))
  have HSTW := Lib.hid (fun w' (hq : Reads w' w8.heap.size 1 A8 was.length (was.map byteV)) => str_of w' A8 was.length c8 _ was hq)
  have HST1 := Lib.hid (fun w' (hq : Below w.heap.size w w') => str_of w' A1 n1 c1 _ first (HR1.out w' hq))
  have HST2 := Lib.hid (fun w' (hq : Below w.heap.size w w') => str_of w' A2 n2 c2 _ second (HR2.out w' hq))
  have hwl9 : was.length ≤ 16777216 := by have := HS7.out.files_ok.2 _ (findG_name HFD7.out).2; exact this.2
  have hwn : n1 ≤ was.length := by omega
  have HW0 := Lib.hid hW0
  clear ho hW0 hrw hr8 hc8 hcut hA9 hsub hidx hNF8
  go_wp2_with fail
  have hd8 : Below w8.heap.size w8 w8.drew := (Below.refl _ _).drew
  have g1 := HCUT.out w8.drew hd8
  have g2 := HST1.out w8.drew hb8.drew
  have hwr : IntKind.i64.wrap ((was.length : Int) - (n1 : Int)) = (was.length : Int) - (n1 : Int) := IntWalk.i64_in _ (by omega)
  go_still_tail 26, (by kernel_rfl)
  change wpList _ _ _ _ _ w8.drew
  have hb9 := hb8.drew
  have hr9 := HR8.out.below hd8
  have hS9 := HS8.out.below hd8
  have hq79 : w7.heap.size ≤ w8.drew.heap.size := hq8.size
  have hs89 : w8.drew.heap.size = w8.heap.size := rfl
  have HS89 := Lib.hid hs89
  have HR9 := Lib.hid hr9
  clear g1 g2 hwr hsl hs89 hr9 hd8 hq8 hown8
  generalize w8.drew = w9 at *
  have h5 := append_any base sb mb (n + 1) F7 st3 A2 n2 c2 w.heap.size second nm w9 hS9 (HR2.out w9 hb9) hb9.size HF2.out (foot_far hS9 (HR2.out w9 hb9) hlo) (by omega) hs (by unfold maxLen; omega)
  rw [HPRE.out.a2] at h5
  simp only [errV_zero] at h5
  have HS9 := Lib.hid hS9
  clear hS9
  go_wp2_with fail
  refine h5.mono ?_
  clear h5
  intro e w10 h
  obtain ⟨rfl, hS10', hk10⟩ := h
  have hFB : ∀ i, F7 i → w.heap.size ≤ i := fun i hi => by
    obtain ⟨_, _, _, _, h4, _⟩ := HS9.out
    have := h4 i hi; omega
  have hb10 := hk10.below hb9 hb9.size hFB
  obtain ⟨F10, HC10, hS10⟩ : ∃ F10, Hid (∀ i, F10 i → (F7 i ∨ w9.heap.size ≤ i) ∧ i < w10.heap.size) ∧ SysM w10 base F10 sb mb (n + 2) st4 := ⟨fun i => Grow F7 w9.heap.size i ∧ i < w10.heap.size, fun i hi => hi, hS10'.cap⟩
  have hr10 : Reads w10 w8.heap.size 1 A8 was.length (was.map byteV) := reads_keptP HR9.out hk10 (by rw [HS89.out]; exact Nat.le_refl _) fun ad e hm hf => by have := (HNF8.out ad e hm).1; have := HC7.out _ hf; omega
  have HF10B := Lib.hid (show ∀ i, F10 i → w.heap.size ≤ i from fun i hi => by
    obtain ⟨_, _, _, _, h4, _⟩ := hS10
    have := h4 i hi; omega)
  have HNF10 := Lib.hid (show ∀ ad, A8 = some ad → 0 < was.length → ¬ F10 ad.block from fun ad e hm hf => by
    have h1 := HNF8.out ad e hm
    rcases (HC10.out _ hf).1 with h | h
    · have := HC7.out _ h; omega
    · rw [HS89.out] at h; omega)
  have hs9 := hk10.size
  have HR10 := Lib.hid hr10
  have h6 := read_any base sb mb (n + 2) F10 st4 nm w10 hS10 hs
  obtain ⟨s2, hfd⟩ := HPRE.out.r2
  obtain ⟨all, hall⟩ : ∃ all, all = was ++ second := ⟨_, rfl⟩
  rw [← hall] at hfd
  rw [hfd] at h6
  have HALL := Lib.hid hall
  clear hall
  have HS10 := Lib.hid hS10
  clear hS10 hS10' hk10 hb9 hFB hr10 hfd
  go_wp2_with fail
  refine h6.mono ?_
  clear h6
  rintro e w11 ⟨hq11, A11, c11, rfl, hown11⟩
  simp only at hown11
  have hb11 := hb10.trans (hq11.mono hb10.size)
  have g1 := str_of w11 A11 _ c11 _ _ (Reads.of_own hown11)
  have HR11 := Lib.hid (HR10.out.below (hq11.mono (show w8.heap.size ≤ w10.heap.size by rw [← HS89.out]; exact hs9)))
  have g2 := HSTW.out w11 HR11.out
  have g3 := HST2.out w11 hb11
  have HS11 := Lib.hid (HS10.out.below hq11)
  have HSZ := Lib.hid hq11.size
  have q1 : (all == (ByteArray.mk was.toArray ++ ByteArray.mk second.toArray).toList) = true := by rw [HALL.out, ByteArray.toList_eq]; simp
  have hl2 : second.length ≤ 2000 := by rw [HF2.out]; omega
  clear hown11 hq11 hb10
  obtain ⟨wc, hwc⟩ : ∃ wc, wc = w11.alloc (.cells #[.int .i64 k] 3) := ⟨_, rfl⟩
  have hbc : Below w11.heap.size w11 wc := by rw [hwc]; exact (Below.refl _ _).alloc (Nat.le_refl _) _
  have hrc : Reads wc (w11.heap.size + 1) 1 (some ⟨w11.heap.size, 0, none⟩) 1 (([k] : List Int).map (Value.int .i64)) := by rw [hwc]; exact Reads.of_alloc w11 #[.int .i64 k] 3 (by omega) rfl
  have hsc : wc.heap.size = w11.heap.size + 1 := by rw [hwc]; simp
  have hSc := HS11.out.below hbc
  have hlen4 : st4.files.length ≤ 1000 ∧ ∀ f ∈ st4.files, f.name.length ≤ 32 := by
    have i1 : InvF n st1.files := HINF1.out
    have i2 := inv_app i1 nm first
    rw [HPRE.out.a1] at i2
    have i3 := inv_sync i2 nm
    rw [HPRE.out.s1] at i3
    have i4 := inv_app i3 nm second
    rw [HPRE.out.a2] at i4
    have i5 : st4.files.length ≤ n + 1 + 1 + 1 := i4.1
    exact ⟨by omega, i4.2⟩
  have h7 := crash_any base sb mb (n + 2) F10 st4 (some ⟨w11.heap.size, 0, none⟩) 1 1 (w11.heap.size + 1) [k] wc hSc hrc (by rw [hsc]; exact Nat.le_refl _) (fun ad e _ hf => by
    injection e with e
    subst e
    have h1 := (HC10.out _ hf).2
    have h2 := HSZ.out
    have : (⟨w11.heap.size, 0, none⟩ : Addr).block = w11.heap.size := rfl
    omega) (Nat.le_refl _) (by omega) (fun f hf => by have := hlen4.2 f hf; omega) (by intro y hy; simp at hy; subst hy; exact hk) (fun i hi => by have := (HC10.out i hi).2; have := HSZ.out; omega)
  rw [← HPRE.out.c2] at h7
  have hrwc := HR11.out.below (hbc.mono (show w8.heap.size ≤ w11.heap.size by have := HSZ.out; rw [← HS89.out]; omega))
  have hbwc := hb11.trans (hbc.mono hb11.size)
  have HRWC := Lib.hid hrwc
  have HSC := Lib.hid hSc
  have HSZC := Lib.hid hsc
  rw [hwc] at h7
  have HWC := Lib.hid hwc
  clear hSc hrc hsc hlen4 hrwc hbc hwc
  go_wp2_with fail
  refine h7.mono ?_
  clear h7
  intro e w12 h
  obtain ⟨rfl, hS12, hk12⟩ := h
  rw [← HWC.out] at hk12
  have hb12 := hk12.below hbwc hbwc.size HF10B.out
  have hr12 : Reads w12 w8.heap.size 1 A8 was.length (was.map byteV) := reads_keptP HRWC.out hk12 (by have := HSZ.out; have := HSZC.out; rw [← HS89.out]; omega) HNF10.out
  have hC12 : ∀ i, F10 i → i < w12.heap.size := fun i hi => by have := (HC10.out i hi).2; have := HSZ.out; have := HSZC.out; have := hk12.size; omega
  have h8 := read_any base sb mb (n + 2) F10 st5 nm w12 hS12 hs
  obtain ⟨s3, hfd⟩ := HPRE.out.r3
  obtain ⟨κ, hκ⟩ : ∃ κ, κ = (min (max k 0) (second.length : Int)).toNat := ⟨_, rfl⟩
  have hκe : min (max k 0) (n2 : Int) = (κ : Int) := by have := HF2.out; omega
  have hκl : κ ≤ n2 := by have := HF2.out; omega
  rw [← hκ] at hfd
  obtain ⟨sk, hsk⟩ : ∃ sk, sk = second.take κ := ⟨_, rfl⟩
  rw [← hsk] at hfd
  obtain ⟨bb, hbbv⟩ : ∃ bb, bb = was ++ sk := ⟨_, rfl⟩
  rw [← hbbv] at hfd
  rw [hfd] at h8
  have hskl : sk.length ≤ 2000 := by rw [hsk, List.length_take]; omega
  have HFD := Lib.hid hfd
  have HBB := Lib.hid hbbv
  have HSK := Lib.hid hsk
  have HS12 := Lib.hid hS12
  have HR12 := Lib.hid hr12
  have HC12 := Lib.hid hC12
  have HLE := Lib.hid (show w8.heap.size ≤ w12.heap.size by have := HSZ.out; have := HSZC.out; have := hk12.size; rw [← HS89.out]; omega)
  clear hS12 hr12 hC12 hk12 hbwc hfd hbbv hsk hκ g1 g2 g3 q1
  go_wp2_with fail
  refine h8.mono ?_
  clear h8
  rintro e w13 ⟨hq13, A13, c13, rfl, hown13⟩
  simp only at hown13
  have hb13 := hb12.trans (hq13.mono hb12.size)
  have hd13 : Below w13.heap.size w13 w13.drew := (Below.refl _ _).drew
  have HR13 := Lib.hid (HR12.out.below (hq13.mono HLE.out))
  have HRB := Lib.hid (Reads.of_own hown13)
  have hNF13 : ∀ ad, A13 = some ad → 0 < bb.length → ¬ F10 ad.block := fun ad e hm hf => by
    obtain ⟨g, cap, hv, hbs, hlt⟩ := hown13.form hm
    have e2 : A13 = some ⟨g, 0, none⟩ := by injection hv
    rw [e] at e2; injection e2 with e2
    have := HC12.out _ hf
    rw [e2] at this
    have h3 : (⟨g, 0, none⟩ : Addr).block = g := rfl
    omega
  have HNF13 := Lib.hid hNF13
  have HS13 := Lib.hid (HS12.out.below hq13)
  have g1 := fun (nq : Nat) => str_of (w13.drewN nq) A13 _ c13 _ _ (HRB.out.drewN nq)
  have g2 := fun (nq : Nat) => HSTW.out (w13.drewN nq) (HR13.out.drewN nq)
  have hsl2 := fun W' => slice_to A2 n2 c2 κ (by omega) W'
  have g3 := fun (nq : Nat) => str_of (w13.drewN nq) A2 κ c2 _ sk (by have h := (HR2.out w13 hb13).takeN hκl; rw [Nat.mul_one] at h; rw [HSK.out, List.map_take]; exact h.drewN nq)
  have q1 : (bb == (ByteArray.mk was.toArray ++ ByteArray.mk sk.toArray).toList) = true := by rw [HBB.out, ByteArray.toList_eq]; simp
  have hoff := fun (nq : Nat) => off_any base sb mb (n + 2) F10 st5 (w13.drewN nq) (HS13.out.below (by exact ⟨rfl, rfl, rfl, Nat.le_refl _, fun _ _ => rfl⟩))
  have hoff0 : st5.off = false := by rw [HPRE.out.c2]
  rw [hoff0] at hoff
  have HQ13 := Lib.hid hq13
  clear hown13 hNF13 hq13 hoff0 hb12 hd13
  go_upto_region 19 with (fail)
  go_quiet ((go_at_call 22; exact quietY (hoff _)))
  go_upto_region 21 with (fail)
  have hb14 : Below w.heap.size w (w13.drewN nq) := ⟨hb13.os, hb13.tape, hb13.output, hb13.size, hb13.block⟩
  have hq14 : Below w13.heap.size w13 (w13.drewN nq) := ⟨rfl, rfl, rfl, Nat.le_refl _, fun _ _ => rfl⟩
  have hS14 := HS13.out.below hq14
  have hrb14 := HRB.out.drewN nq
  have hsz14 : (w13.drewN nq).heap.size = w13.heap.size := rfl
  have HSZ14 := Lib.hid hsz14
  clear hq14 hsz14 g1 g2 g3 hoff q1 hsl2 hb13
  generalize w13.drewN nq = w14 at *
  have hlen5 : st5.files.length ≤ 1000 ∧ ∀ f ∈ st5.files, f.name.length ≤ 32 := by
    have i1 : InvF n st1.files := HINF1.out
    have i2 := inv_app i1 nm first
    rw [HPRE.out.a1] at i2
    have i3 := inv_sync i2 nm
    rw [HPRE.out.s1] at i3
    have i4 := inv_app i3 nm second
    rw [HPRE.out.a2] at i4
    have i5 := inv_crash i4 [k]
    have i6 : InvF (n + 1 + 1 + 1) st5.files := by rw [HPRE.out.c2]; exact i5
    exact ⟨by have := i6.1; omega, i6.2⟩
  have h9 := crash_any base sb mb (n + 2) F10 st5 none 0 0 0 [] w14 hS14 Reads.none_ (Nat.zero_le _) (fun ad e => by cases e) (Nat.le_refl _) (by omega) (fun f hf => by have := hlen5.2 f hf; omega) (fun k hk => by cases hk) (fun i hi => by have := HC12.out i hi; have := HQ13.out.size; rw [HSZ14.out]; omega)
  rw [HPRE.out.c3] at h9
  have HRB14 := Lib.hid hrb14
  clear hlen5 hS14 hrb14
  go_wp2_with fail
  refine h9.mono ?_
  clear h9
  intro e w15 h
  obtain ⟨rfl, hS15, hk15⟩ := h
  have hb15 := hk15.below hb14 hb14.size HF10B.out
  have HRB15 := Lib.hid ((reads_keptP HRB14.out hk15 (by rw [HSZ14.out]; exact Nat.le_refl _) HNF13.out))
  have h10 := read_any base sb mb (n + 2) F10 st5 nm w15 hS15 hs
  rw [HFD.out] at h10
  have HSZ15 := Lib.hid (show w13.heap.size ≤ w15.heap.size by have := hk15.size; have := HSZ14.out; omega)
  clear hS15 hk15 hb14
  go_wp2_with fail
  refine h10.mono ?_
  clear h10
  rintro e w16 ⟨hq16, A16, c16, rfl, hown16⟩
  simp only at hown16
  have hb16 := hb15.trans (hq16.mono hb15.size)
  have hbe := bytes_eq A13 A16 bb.length bb.length c13 c16 _ _ bb bb w16 (HRB15.out.below (hq16.mono HSZ15.out)) (Reads.of_own hown16)
  rw [beq_self_eq_true] at hbe
  clear hown16 hq16 hb15
  go_wp2_with fail
  refine hbe.mono ?_
  rintro e w17 ⟨rfl, rfl⟩
  clear hbe
  go_wp2_with fail
  go_ret
  exact ⟨rfl, hb16⟩
theorem wPre (A : Option Addr) (n c : Nat) (l : List ActR) (nm : ByteArray) (A1 : Option Addr) (n1 c1 : Nat) (A2 : Option Addr) (n2 c2 : Nat) (k : Int) (first second : List UInt8) (w : World) (hA : ActsM w A n l) (hr1 : Reads w w.heap.size 1 A1 n1 (first.map byteV)) (hr2 : Reads w w.heap.size 1 A2 n2 (second.map byteV))
    (hc1 : n1 ≤ c1) (hc2 : n2 ≤ c2) (hk : -9223372036854775808 ≤ k ∧ k ≤ 9223372036854775807) (hn1 : n1 ≤ 1048576) (hn2 : n2 ≤ 1048576) (hs : nm.size ≤ maxLen) :
    Calls Try.prog 5 #[.slice A n c, lossV nm A1 n1 c1 A2 n2 c2 k] w (AwEnd w) := by
  by_cases hg : 400 < totN [l] 1
  · exact pre_skip A n c l nm A1 n1 c1 A2 n2 c2 k w hA hn1 hn2 hs (.inl hg)
  by_cases hnn : 2000 < n1 + n2
  · exact pre_skip A n c l nm A1 n1 c1 A2 n2 c2 k w hA hn1 hn2 hs (.inr (.inl hnn))
  cases hv : validN nm with
  | false => exact pre_skip A n c l nm A1 n1 c1 A2 n2 c2 k w hA hn1 hn2 hs (.inr (.inr hv))
  | true => exact pre_main A n c l nm A1 n1 c1 A2 n2 c2 k first second w hA hr1 hr2 hc1 hc2 hk hg hnn hv
end Go.Proofs.Ythmbmecodddkeaa
