/- The walk of the law OptimizeSteps: a rule, applied once, makes the document's plan (printed by gen_lws.py). -/
import Derived.Test.YtamhdmkolfmmdaaGreatDoorsbv
import Derived.Test.YtamhdmkolfmmdaaGreatDoorsbn
import Derived.Test.YtamhdmkolfmmdaaGreatDoorsbj
import Derived.Test.YtamhdmkolfmmdaaGreatDoorsan
import Derived.Deep.DeepCutAuto
import Derived.Test.YtamhdmkolfmmdaaGreatDoorsaa
set_option linter.unusedVariables false
set_option linter.unusedSimpArgs false
namespace Go.Proofs.YtamhdmkolfmmdaaGreatDoor
open Go.RowKit
set_option maxRecDepth 100000
set_option maxHeartbeats 8000000
theorem y97 {P : Prop} (h : P := by
 refine wp_region_noPanic ?_
 refine wp_region_held_drew (S := (fun w' => w'.cell? ⟨P, 0, none⟩ = some (.slice A2 n c2))) (by kernel_rfl) (HS.out _ HBD.out) (fun hHeld => ?_)
 refine tkH (i := 0) hHeld ?_
 try simp only [Act.put, gE, gF, gG]
 refine tkH (i := 1) hHeld ?_
 try simp only [Act.put, gE, gF, gG]
 refine kb8 (i := 2) (j := 8) (by kernel_rfl) rfl rfl (fun K hK => ?_) (fun K hK => ?_)
 first
 | guard_hyp t540q0
   ·
    go_simp
    go_at_call 35
    refine (HRU.out _).mono ?_
    rintro e w4 ⟨rfl, hb4⟩
    have HB4 := hD (HBD.out.trans (hb4.mono HBD.out.size))
    have hH4 := HS.out w4 HB4.out
    refine hK.out _ _ hH4 ?_
    clear hK K
    try simp only [Act.put, gE, gF, gG]
    refine kb8 (i := 3) (j := 8) (by kernel_rfl) rfl rfl (fun K hK => ?_) (fun K hK => ?_)
    ·
     go_simp
     go_at_call 34
     refine (HST.out _ HB4.out).mono ?_
     rintro e w5 ⟨rfl, hb5⟩
     have t522q0 := True.intro
     exact y79
    ·
     have t533q0 := True.intro
     exact y90
   ·
    have t530q0 := True.intro
    exact y87
 | ·
    go_simp
    go_at_call 35
    refine (HRU.out _).mono ?_
    rintro e w4 ⟨rfl, hb4⟩
    have HB4 := hD (HBD.out.trans (hb4.mono HBD.out.size))
    have hH4 := HS.out w4 HB4.out
    refine hK.out _ _ hH4 ?_
    clear hK K
    try simp only [Act.put, gE, gF, gG]
    refine kb8 (i := 3) (j := 8) (by kernel_rfl) rfl rfl (fun K hK => ?_) (fun K hK => ?_)
    ·
     go_simp
     go_at_call 34
     refine (HST.out _ HB4.out).mono ?_
     rintro e w5 ⟨hb5, gs, cap, he5, hp5⟩
     rw [← HMM.out] at he5
     subst he5
     exact y79
    ·
     exact y90
   ·
    exact y87) : P := h
theorem y87 {P : Prop} (h : P := by
 go_simp
 have HBE := hD (HBD.out.alloc HBD.out.size (.cells #[.slice none 0 0] 26))
 have HYE := hD (Blk.new w3.drew 26 #[.slice none 0 0])
 obtain ⟨Y, hY⟩ := xE w3.heap.size
 have HY3 : Hid (w3.heap.size ≤ Y) := hD (by rw [hY]; exact Nat.le_refl _)
 have HYL0 : Hid (Y < (w3.drew.alloc (.cells #[.slice none 0 0] 26)).heap.size) := hD (by rw [hY]; exact HYE.out.lt)
 have HYE : Hid (Blk (w3.drew.alloc (.cells #[.slice none 0 0] 26)) Y 26 #[.slice none 0 0]) := hD (by rw [hY]; exact HYE.out)
 have hHE := HS.out _ HBE.out
 rw [← hY]
 clear hY
 refine hK.out _ _ hHE ?_
 clear hK K
 try simp only [Act.put, gE, gF, gG]
 refine tkO (i := 2) (fun K hK => ?_)
 go_simp
 go_at_call 35
 refine (HRU.out _).mono ?_
 rintro e w4 ⟨rfl, hb4⟩
 have HB4 := hD (HBE.out.trans (hb4.mono HBE.out.size))
 have hY4 := HYE.out.below hb4 HYE.out.lt
 have HYL := hD (show Y < w4.heap.size from hY4.lt)
 have hH4 := HS.out w4 HB4.out
 refine hK.out _ _ hH4 ?_
 clear hK K
 try simp only [Act.put, gE, gF, gG]
 refine tkO (i := 3) (fun K hK => ?_)
 go_simp
 go_at_call 34
 refine (HST.out _ HB4.out).mono ?_
 first
 | guard_hyp t530q0
   rintro e w5 ⟨rfl, hb5⟩
   have HB5 := hD (HB4.out.trans (hb5.mono HB4.out.size))
   have hH5 := HS.out w5 HB5.out
   have hY5 := hY4.below hb5 hY4.lt
   have t514q0 := True.intro
   exact y71
 | rintro e w5 ⟨hb5, gs, cap, he5, hp5⟩
   rw [← HMM.out] at he5
   subst he5
   have HB5 := hD (HB4.out.trans (hb5.mono HB4.out.size))
   have hH5 := HS.out w5 HB5.out
   have hY5 := hY4.below hb5 hY4.lt
   exact y71) : P := h
theorem y90 {P : Prop} (h : P := by
 go_simp
 have HBE := hD (HB4.out.alloc HB4.out.size (.cells #[.slice none 0 0] 26))
 have HYE := hD (Blk.new w4 26 #[.slice none 0 0])
 obtain ⟨Y, hY⟩ := xE w4.heap.size
 have HY3 : Hid (w3.heap.size ≤ Y) := hD (by rw [hY]; exact HB4.out.size)
 have HYL : Hid (Y < (w4.alloc (.cells #[.slice none 0 0] 26)).heap.size) := hD (by rw [hY]; simp)
 rw [← hY] at HYE ⊢
 have hHE := HS.out _ HBE.out
 clear hY
 refine hK.out _ _ hHE ?_
 clear hK K
 try simp only [Act.put, gE, gF, gG]
 refine tkO (i := 3) (fun K hK => ?_)
 go_simp
 go_at_call 34
 refine (HST.out _ HBE.out).mono ?_
 first
 | guard_hyp t533q0
   rintro e w5 ⟨rfl, hb5⟩
   have HB5 := hD (HBE.out.trans (hb5.mono HBE.out.size))
   have hH5 := HS.out w5 HB5.out
   have hY5 := HYE.out.below hb5 HYE.out.lt
   have t514q0 := True.intro
   exact y71
 | rintro e w5 ⟨hb5, gs, cap, he5, hp5⟩
   rw [← HMM.out] at he5
   subst he5
   have HB5 := hD (HBE.out.trans (hb5.mono HBE.out.size))
   have hH5 := HS.out w5 HB5.out
   have hY5 := HYE.out.below hb5 HYE.out.lt
   exact y71) : P := h
theorem y71 {P : Prop} (h : P := by
 refine hK.out _ _ hH5 ?_
 clear hK K
 try simp only [Act.put, gE, gF, gG]
 refine tkH (i := 4) hH5 ?_
 try simp only [Act.put, gE, gF, gG]
 refine tkH (i := 5) hH5 ?_
 try simp only [Act.put, gE, gF, gG]
 refine tkH (i := 6) hH5 ?_
 try simp only [Act.put, gE, gF, gG]
 refine tkH (i := 7) hH5 ?_
 try simp only [Act.put, gE, gF, gG]
 have y0 := hY5.cell 0
 have y1 := hY5.frozen 0
 simp only [gA, gB] at y0
 refine tkO (i := 9) (fun K hK => ?_)
 go_simp
 first
 | guard_hyp t514q0
   have hbz := HB5.out.setCell (p := ⟨Y, 0, none⟩) HY3.out (.slice none 0 0)
   have hHz := HS.out _ hbz
   have HREL : ke3 w3 false (.iface 66 (.int .i64 x)) GBad (.pointer (some ⟨Y, 0, none⟩)) (.bool false) (.iface 66 (.int .i64 x)) (w5.setCell ⟨Y, 0, none⟩ (.slice none 0 0)) := ⟨Y, .slice none 0 0, rfl, rfl, rfl, hD (hY5.set_ 0 _), hD hbz, hD rfl⟩
   exact y52
 | have hbz := HB5.out.setCell (p := ⟨Y, 0, none⟩) HY3.out (.slice (some ⟨gs, 0, none⟩) m cap)
   have hHz := HS.out _ hbz
   have HREL : ke3 w3 z .nilIface (GGood L m) (.pointer (some ⟨Y, 0, none⟩)) (.bool z) .nilIface (w5.setCell ⟨Y, 0, none⟩ (.slice (some ⟨gs, 0, none⟩) m cap)) := ⟨Y, .slice (some ⟨gs, 0, none⟩) m cap, rfl, rfl, rfl, hD (hY5.set_ 0 _), hD hbz, hD ⟨gs, cap, rfl, hp5.keep (fun i hi _ => Below.heap_setCell w5 ⟨Y, 0, none⟩ _ i (by have h1 := hi.1; have h2 := HYL.out; show i ≠ Y; exact fun e => by subst e; exact absurd h1 (Nat.not_le.2 h2))) (by simp [World.setCell]) (fun i hi _ => by have := hi.2; simpa [World.setCell] using this)⟩⟩
   exact y52) : P := h
theorem y79 {P : Prop} (h : P := by
 have HB5 := hD (HB4.out.trans (hb5.mono HB4.out.size))
 have hH5 := HS.out w5 HB5.out
 refine hK.out _ _ hH5 ?_
 clear hK K
 try simp only [Act.put, gE, gF, gG]
 refine tkH (i := 4) hH5 ?_
 try simp only [Act.put, gE, gF, gG]
 refine tkH (i := 5) hH5 ?_
 try simp only [Act.put, gE, gF, gG]
 refine tkH (i := 6) hH5 ?_
 try simp only [Act.put, gE, gF, gG]
 refine tkH (i := 7) hH5 ?_
 try simp only [Act.put, gE, gF, gG]
 refine tkO (i := 8) (fun K hK => ?_)
 go_simp
 have hHa := HS.out _ (HB5.out.alloc HB5.out.size (.cells #[.slice none 0 0] 26))
 refine hK.out _ _ hHa ?_
 clear hK K
 try simp only [Act.put, gE, gF, gG]
 refine tkO (i := 9) (fun K hK => ?_)
 go_simp
 first
 | guard_hyp t522q0
   have hbz := HB5.out.alloc HB5.out.size (.cells #[.slice none 0 0] 26)
   have hHz := HS.out _ hbz
   have HREL : ke3 w3 false (.iface 66 (.int .i64 x)) GBad (.pointer (some ⟨w5.heap.size, 0, none⟩)) (.bool false) (.iface 66 (.int .i64 x)) (w5.alloc (.cells #[.slice none 0 0] 26)) := ⟨w5.heap.size, .slice none 0 0, rfl, rfl, rfl, hD (Blk.new _ _ _), hD hbz, hD rfl⟩
   exact y52
 | have hbz := HB5.out.alloc HB5.out.size (.cells #[.slice (some ⟨gs, 0, none⟩) m cap] 26)
   have hHz := HS.out _ hbz
   have HREL : ke3 w3 z .nilIface (GGood L m) (.pointer (some ⟨w5.heap.size, 0, none⟩)) (.bool z) .nilIface (w5.alloc (.cells #[.slice (some ⟨gs, 0, none⟩) m cap] 26)) := ⟨w5.heap.size, .slice (some ⟨gs, 0, none⟩) m cap, rfl, rfl, rfl, hD (Blk.new _ _ _), hD hbz, hD ⟨gs, cap, rfl, PlAt.below (hp5.keep (w' := w5) (fun _ _ _ => rfl) (Nat.le_refl _) (fun i hi _ => hi.2)) (kaa w5 (.cells #[.slice (some ⟨gs, 0, none⟩) m cap] 26))⟩⟩
   exact y52) : P := h
theorem y52 {P : Prop} (h : P := by
 refine hK.out _ _ hHz ?_
 clear hK K
 try simp only [Act.put, gE, gF, gG]
 refine tkO (i := 10) (fun K hK => ?_)
 go_simp
 refine hK.out _ _ hHz ?_
 clear hK K
 try simp only [Act.put, gE, gF, gG]
 refine tkO (i := 11) (fun K hK => ?_)
 go_simp
 refine hK.out _ _ hHz ?_
 clear hK K
 try simp only [Act.put, gE, gF, gG]
 refine wpAnyH_done (by kernel_rfl) ?_ _
 refine NoPanic.normal ?_
 try simp only [Act.put, gE, gF, gG]
 go_wp2_with fail
 go_meet
 case rel => exact HREL) : P := h
def ke3 (w3 : World) (ok : Bool) (ev : Value) (G : World → Value → Prop) (q o e : Value) (wc : World) : Prop := ∃ Y sv, q = .pointer (some ⟨Y, 0, none⟩) ∧ o = .bool ok ∧ e = ev ∧ Hid (Blk wc Y 26 #[sv]) ∧ Hid (Below w3.heap.size w3 wc) ∧ Hid (G wc sv)
def GBad (_ : World) (sv : Value) : Prop := sv = .slice none 0 0
def GGood (L : List St) (m : Nat) (wc : World) (sv : Value) : Prop := ∃ gs cap, sv = .slice (some ⟨gs, 0, none⟩) m cap ∧ PlAt wc (fun i => i < wc.heap.size) (some ⟨gs, 0, none⟩) L
theorem steps_law (A : Option Addr) (c : Nat) (l : List St) (k : Nat) (hk : k < 256) (w : World) (h : ArgPl w A l) (hcap : l.length ≤ c) (hn : l.length ≤ 1048576) (ha : ∀ s ∈ l, s.args.length ≤ 2000000) (ht : TxB l) :
  Calls Tryz.prog 6 #[.slice A l.length c, .int .u8 k] w (ke4 w) := by
 obtain ⟨n, hnn⟩ := xE l.length
 have HN := hD hnn
 have HA := hD h
 have HM := hD ha
 have HT := hD ht
 have HCAP := hD hcap
 rw [← hnn] at hn ⊢
 clear h ha ht hnn hcap
 go_enter Tryz.func6, Tryz.ntmps6
 go_wp2_with fail
 refine (keS _).mono ?_
 rintro e w1 ⟨rfl, hb1⟩
 have HB1 := hD hb1
 by_cases hbig : 60 < n
 ·
  exact z27
 have q0 : ¬ ((60 : Int) < (n : Int)) := by omega
 have hn6 : n ≤ 60 := by omega
 have HMD : Hid (kc7 l) := hD ⟨by have := HN.out; omega, fun s hs => ⟨HM.out s hs, HT.out.ok s hs⟩⟩
 have hto := khv A c l w1 (HA.out.below hb1) (by have := HN.out; omega) HM.out
 rw [← HN.out] at hto
 have HT1 := hD hto
 clear hb1 hto hbig
 go_wp2_with fail
 refine HT1.out.mono ?_
 rintro e w2 ⟨hb2, A2, c2, he2, hp2⟩
 rw [← HN.out] at he2
 subst he2
 have HB2 := hD (HB1.out.trans (hb2.mono HB1.out.size))
 have HP2 : Hid (PlAt w2 (fun i => i < w2.heap.size) A2 l) := hD (hp2.keep (w' := w2) (fun _ _ _ => rfl) (Nat.le_refl _) (fun i hi _ => hi.2))
 clear hb2 hp2 HT1 HB1
 go_upto_region 4 with (fail)
 obtain ⟨w3, hw3⟩ := xE (w2.alloc (.cells #[.slice A2 n c2] 26))
 rw [← hw3]
 have hb3 : Below w2.heap.size w2 w3 := by rw [hw3]; exact kaa _ _
 have HB3 := hD (HB2.out.trans (hb3.mono HB2.out.size))
 have HX3 : Hid (Blk w3 w2.heap.size 26 #[.slice A2 n c2]) := hD (by rw [hw3]; exact Blk.new _ _ _)
 obtain ⟨P, hP⟩ := xE w2.heap.size
 rw [← hP] at HX3 ⊢
 have HP3 := hD (HP2.out.below hb3)
 have HA3 := hD (HA.out.below HB3.out)
 clear hw3 hb3 hP HB2 HP2
 have x3 := HX3.out.cell 0
 simp only [gA, gB] at x3
 obtain ⟨x, hx⟩ := xE (kac l)
 have HX := hD hx
 obtain ⟨name, hname⟩ := klK k
 have HK := hD hname
 have HRU := hD (kkf k hk name hname)
 have HS : Hid (∀ w', Below w3.heap.size w3 w' → w'.cell? ⟨P, 0, none⟩ = some (.slice A2 n c2)) := hD (fun w' hb => by
  have h1 := (HX3.out.below hb HX3.out.lt).cell 0
  simpa only [gA, gB] using h1)
 have HBD := hD (show Below w3.heap.size w3 w3.drew from (Below.refl _ _).drew)
 clear x3 hname hk
 by_cases hx0 : x = 0
 rotate_left
 ·
  have HEV := hD (show errV x = .iface 66 (.int .i64 x) from if_neg hx0)
  have HST : Hid (∀ W, Below w3.heap.size w3 W → Calls Tryz.prog 34 #[.agg #[.slice A2 n c2], .string ⟨name.toArray⟩] W fun e w' => e = .returned (.tuple #[.agg #[.slice none 0 0], .bool false, .iface 66 (.int .i64 x)]) ∧ Below W.heap.size W w') := hD (fun W hb => by
   have := step_bad A2 c2 l name W (HP3.out.below hb) HMD.out x hx hx0
   rwa [← HN.out] at this)
  clear hx hx0
  go_wp2_with fail
  go_cut [6, 7, 8] (fun q o e wc => ke3 w3 false (.iface 66 (.int .i64 x)) GBad q o e wc)
  case first =>
   have t540q0 := True.intro
   exact y97
  case rest =>
  obtain ⟨Y, sv, rfl, rfl, rfl, HY5, HB5, HG⟩ := hcut
  have hsv : sv = .slice none 0 0 := HG.out
  subst hsv
  obtain ⟨w5, hw5⟩ := xE wc
  subst hw5
  have hck := kbS A2 c2 l w5 (HP3.out.below HB5.out) HMD.out
  rw [← HX.out, ← HN.out] at hck
  have HCK := hD hck
  have x5 := HS.out w5 HB5.out
  clear hck HST HRU
  go_wp2_with fail
  refine HCK.out.mono ?_
  rintro e w6 ⟨rfl, hb6⟩
  rw [HEV.out]
  have HB6 := hD (HB5.out.trans (hb6.mono HB5.out.size))
  have hq6 := HY5.out.below hb6 HY5.out.lt
  have y0 := hq6.cell 0
  simp only [gA, gB] at y0
  clear hb6 hq6 HCK x5
  go_wp2_with fail
  refine (ke0 x _).mono ?_
  rintro e w7 ⟨rfl, rfl⟩
  go_wp2_with fail
  refine (ke0 x _).mono ?_
  rintro e w8 ⟨rfl, rfl⟩
  go_wp2_with fail
  go_ret
  exact ⟨rfl, HB3.out.trans (HB6.out.mono HB3.out.size)⟩
 subst hx0
 have HC : Hid (kac l = 0) := hD hx.symm
 have HSM : Hid (∀ s ∈ l, s.args.length ≤ 100000) := hD (fun s hs => by have := (kbC hx.symm s hs).1; omega)
 obtain ⟨L, hL⟩ := xE (doR (k % 11) l)
 have HLL := hD hL
 have HCL : Hid (kac L = 0) := hD (by rw [hL]; exact kgI hx.symm)
 have HLM : Hid (L.length ≤ 100000 ∧ ∀ s ∈ L, s.args.length ≤ 100000) := hD ⟨by have := (kcW HCL.out).len; omega, fun s hs => by have := (kbC HCL.out s hs).1; omega⟩
 obtain ⟨z, hz⟩ := xE ((Oz.applyR (k % 11) l).isSome)
 have HZ := hD hz
 obtain ⟨m, hm⟩ := xE L.length
 have HMM := hD hm
 have HST : Hid (∀ W, Below w3.heap.size w3 W → Calls Tryz.prog 34 #[.agg #[.slice A2 n c2], .string ⟨name.toArray⟩] W (StepX W L z)) := hD (fun W hb => by
  have := step_x A2 c2 l (k % 11) name W (HP3.out.below hb) hx.symm HMD.out HK.out
  rwa [← HN.out, ← hL, ← hz] at this)
 clear hx hL hz hm
 go_wp2_with fail
 go_cut [6, 7, 8] (fun q o e wc => ke3 w3 z .nilIface (GGood L m) q o e wc)
 case first =>
  exact y97
 case rest =>
 obtain ⟨Q, sv, rfl, rfl, rfl, HQ5, HB5, HG⟩ := hcut
 obtain ⟨gs, cap, hsv, hqp⟩ := HG.out
 subst hsv
 obtain ⟨w5, hw5⟩ := xE wc
 subst hw5
 have HQP5 := hD hqp
 have HP5 := hD (HP3.out.below HB5.out)
 have hck := kbS A2 c2 l w5 HP5.out HMD.out
 rw [HC.out, ← HN.out] at hck
 have HCK := hD (show Calls Tryz.prog 11 #[.agg #[.slice A2 n c2]] w5 fun e w' => e = .returned .nilIface ∧ Below w5.heap.size w5 w' from hck)
 have x5 := HS.out w5 HB5.out
 clear hck HST hqp HG
 go_wp2_with fail
 refine HCK.out.mono ?_
 rintro e w6 ⟨rfl, hb6⟩
 have HB6 := hD (HB5.out.trans (hb6.mono HB5.out.size))
 have HQ6 := hD (HQ5.out.below hb6 HQ5.out.lt)
 have HP6 := hD (HP5.out.below hb6)
 have HQP6 := hD (HQP5.out.below hb6)
 have HA6 := hD (HA3.out.below HB6.out)
 clear hb6 HCK x5
 go_wp2_with fail
 refine (HRU.out _).mono ?_
 rintro e w7 ⟨rfl, hb7⟩
 have HB7 := hD (HB6.out.trans (hb7.mono HB6.out.size))
 have hrs := kgv A c l (k % 11) name w7 HT.out (HA6.out.below hb7) HCAP.out HC.out HK.out
 rw [khw HC.out (Nat.mod_lt _ (by decide))] at hrs
 unfold StpR at hrs
 have hgd : (Oz.applyR (k % 11) l).getD l = L := HLL.out.symm
 rw [hgd, ← HZ.out, ← HMM.out, ← HN.out] at hrs
 have HRS := hD hrs
 have HQ7 := hD (HQ6.out.below hb7 HQ6.out.lt)
 have HP7 := hD (HP6.out.below hb7)
 have HQP7 := hD (HQP6.out.below hb7)
 have HA7 := hD (HA6.out.below hb7)
 clear hb7 hrs hgd
 go_wp2_with fail
 refine HRS.out.mono ?_
 rintro e w8 ⟨hb8, A8, c8, rfl, hc8, ha8⟩
 have HB8 := hD (HB7.out.trans (hb8.mono HB7.out.size))
 have hQ8 := HQ7.out.below hb8 HQ7.out.lt
 have y0 := hQ8.cell 0
 simp only [gA, gB] at y0
 have hi1 := kd6 (some ⟨gs, 0, none⟩) A8 cap c8 L w8 (HQP7.out.below hb8) ha8 HLM.out.1 HLM.out.2
 rw [← HMM.out] at hi1
 have HI1 := hD hi1
 have HP8 := hD (HP7.out.below hb8)
 have HA8 := hD (HA7.out.below hb8)
 clear hb8 hc8 ha8 hi1 hQ8 HRS
 go_wp2_with fail
 refine HI1.out.mono ?_
 rintro e w9 ⟨rfl, hb9⟩
 have HB9 := hD (HB8.out.trans (hb9.mono HB8.out.size))
 have x9 := HS.out w9 HB9.out
 have hi2 := kd6 A2 A c2 c l w9 (HP8.out.below hb9) (HA8.out.below hb9) (by have := HN.out; omega) HSM.out
 rw [← HN.out] at hi2
 have HI2 := hD hi2
 clear hb9 hi2 HI1 y0
 go_wp2_with fail
 refine HI2.out.mono ?_
 rintro e wq ⟨rfl, hbq⟩
 have HBQ := hD (HB9.out.trans (hbq.mono HB9.out.size))
 clear hbq HI2
 go_wp2_with fail
 go_ret
 exact ⟨rfl, HB3.out.trans (HBQ.out.mono HB3.out.size)⟩
end Go.Proofs.YtamhdmkolfmmdaaGreatDoor
