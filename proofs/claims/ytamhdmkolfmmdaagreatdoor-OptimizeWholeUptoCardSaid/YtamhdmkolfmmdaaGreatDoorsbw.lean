/- The walk of the law OptimizeWhole: the result of all rules is the document's (printed by gen_lws.py). -/
import Derived.Test.YtamhdmkolfmmdaaGreatDoorsbv
import Derived.Test.YtamhdmkolfmmdaaGreatDoorsbn
import Derived.Test.YtamhdmkolfmmdaaGreatDoorsbj
import Derived.Test.YtamhdmkolfmmdaaGreatDoorsan
import Derived.Test.YtamhdmkolfmmdaaGreatDoorsaa
set_option linter.unusedVariables false
set_option linter.unusedSimpArgs false
namespace Go.Proofs.YtamhdmkolfmmdaaGreatDoor
open Go.RowKit
set_option maxRecDepth 100000
set_option maxHeartbeats 8000000
theorem whole_law (A : Option Addr) (c : Nat) (l : List St) (w : World) (h : ArgPl w A l) (hcap : l.length ≤ c) (hn : l.length ≤ 1048576) (ha : ∀ s ∈ l, s.args.length ≤ 2000000) (ht : TxB l) :
  Calls Tryz.prog 3 #[.slice A l.length c] w (ke4 w) := by
 obtain ⟨n, hnn⟩ := xE l.length
 have HN := hD hnn
 have HA := hD h
 have HM := hD ha
 have HT := hD ht
 have HCAP := hD hcap
 rw [← hnn] at hn ⊢
 clear h ha ht hnn hcap
 go_enter Tryz.func3, Tryz.ntmps3
 go_wp2_with fail
 refine (keS _).mono ?_
 rintro e w1 ⟨rfl, hb1⟩
 have HB1 := hD hb1
 by_cases hbig : 60 < n
 ·
  exact z27
 have q0 : ¬ ((60 : Int) < (n : Int)) := by omega
 have hn6 : n ≤ 60 := by omega
 have HMD : Hid (kc7 l) := hD ⟨by have := HN.out; omega, fun s hs => ⟨HM.out s hs, HT.out.ok s hs⟩⟩
 have hto := khv A c l w1 (HA.out.below hb1) (by have := HN.out; omega) HM.out
 rw [← HN.out] at hto
 have HT1 := hD hto
 clear hb1 hto hbig
 go_wp2_with fail
 refine HT1.out.mono ?_
 rintro e w2 ⟨hb2, A2, c2, he2, hp2⟩
 rw [← HN.out] at he2
 subst he2
 have HB2 := hD (HB1.out.trans (hb2.mono HB1.out.size))
 have HP2 : Hid (PlAt w2 (fun i => i < w2.heap.size) A2 l) := hD (hp2.keep (w' := w2) (fun _ _ _ => rfl) (Nat.le_refl _) (fun i hi _ => hi.2))
 clear hb2 hp2 HT1 HB1
 go_upto_region 4 with (fail)
 obtain ⟨w3, hw3⟩ := xE (w2.alloc (.cells #[.slice A2 n c2] 26))
 rw [← hw3]
 have hb3 : Below w2.heap.size w2 w3 := by rw [hw3]; exact kaa _ _
 have HB3 := hD (HB2.out.trans (hb3.mono HB2.out.size))
 have HX3 : Hid (Blk w3 w2.heap.size 26 #[.slice A2 n c2]) := hD (by rw [hw3]; exact Blk.new _ _ _)
 obtain ⟨P, hP⟩ := xE w2.heap.size
 rw [← hP] at HX3 ⊢
 have HP3 := hD (HP2.out.below hb3)
 have HA3 := hD (HA.out.below HB3.out)
 clear hw3 hb3 hP HB2 HP2
 have x3 := HX3.out.cell 0
 simp only [gA, gB] at x3
 obtain ⟨x, hx⟩ := xE (kac l)
 have HX := hD hx
 by_cases hx0 : x = 0
 rotate_left
 ·
  have hof := of_bad A2 c2 l w3 HP3.out HMD.out x hx hx0
  rw [← HN.out] at hof
  have HOF := hD hof
  have HEV := hD (show errV x = .iface 66 (.int .i64 x) from if_neg hx0)
  clear hof hx hx0
  go_wp2_with fail
  refine HOF.out.mono ?_
  rintro e w4 ⟨rfl, hb4⟩
  have hz4 := hb4.size
  have HB4 := hD (HB3.out.trans (hb4.mono HB3.out.size))
  have HX4 := hD (HX3.out.below hb4 HX3.out.lt)
  have HP4 := hD (HP3.out.below hb4)
  clear hb4 HOF x3
  go_upto_region 5 with (fail)
  obtain ⟨w5, hw5⟩ := xE (w4.alloc (.cells #[.slice none 0 0] 26))
  rw [← hw5]
  have hb5 : Below w4.heap.size w4 w5 := by rw [hw5]; exact kaa _ _
  have HB5 := hD (HB4.out.trans (hb5.mono HB4.out.size))
  have HX5 := hD (HX4.out.below hb5 HX4.out.lt)
  have HQ5 := hD (show Blk w5 w4.heap.size 26 #[.slice none 0 0] by rw [hw5]; exact Blk.new _ _ _)
  have hck := kbS A2 c2 l w5 (HP4.out.below hb5) HMD.out
  rw [← HX.out, ← HN.out] at hck
  have HCK := hD hck
  have x5 := HX5.out.cell 0
  simp only [gA, gB] at x5
  clear hw5 hb5 hck
  go_wp2_with fail
  refine HCK.out.mono ?_
  rintro e w6 ⟨rfl, hb6⟩
  rw [HEV.out]
  have HB6 := hD (HB5.out.trans (hb6.mono HB5.out.size))
  have hq6 := HQ5.out.below hb6 HQ5.out.lt
  have y0 := hq6.cell 0
  simp only [gA, gB] at y0
  clear hb6 hq6 HCK x5
  go_wp2_with fail
  refine (ke0 x _).mono ?_
  rintro e w7 ⟨rfl, rfl⟩
  go_wp2_with fail
  refine (ke0 x _).mono ?_
  rintro e w8 ⟨rfl, rfl⟩
  go_wp2_with fail
  go_ret
  exact ⟨rfl, HB6.out⟩
 subst hx0
 have HC : Hid (kac l = 0) := hD hx.symm
 have HSM : Hid (∀ s ∈ l, s.args.length ≤ 100000) := hD (fun s hs => by have := (kbC hx.symm s hs).1; omega)
 have hof := of_x A2 c2 l w3 HP3.out hx.symm HMD.out
 rw [← HN.out] at hof
 obtain ⟨L, hL⟩ := xE (ofR l)
 have HLL := hD hL
 rw [← hL] at hof
 have HOF := hD hof
 have HCL : Hid (kac L = 0) := hD (by rw [hL]; exact (ofR_ok hx.symm).1)
 have HLM : Hid (L.length ≤ 100000 ∧ ∀ s ∈ L, s.args.length ≤ 100000) := hD ⟨by have := (kcW HCL.out).len; omega, fun s hs => by have := (kbC HCL.out s hs).1; omega⟩
 clear hof hx hL
 go_wp2_with fail
 refine HOF.out.mono ?_
 rintro e w4 ⟨hb4, gs, cap, rfl, hp4⟩
 have HB4 := hD (HB3.out.trans (hb4.mono HB3.out.size))
 have HX4 := hD (HX3.out.below hb4 HX3.out.lt)
 have HP4 := hD (HP3.out.below hb4)
 have HQP4 : Hid (PlAt w4 (fun i => i < w4.heap.size) (some ⟨gs, 0, none⟩) L) := hD (hp4.keep (w' := w4) (fun _ _ _ => rfl) (Nat.le_refl _) (fun i hi _ => hi.2))
 obtain ⟨m, hm⟩ := xE L.length
 rw [← hm]
 have HMM := hD hm
 clear hb4 hp4 hm HOF x3
 go_upto_region 5 with (fail)
 obtain ⟨w5, hw5⟩ := xE (w4.alloc (.cells #[.slice (some ⟨gs, 0, none⟩) m cap] 26))
 rw [← hw5]
 have hb5 : Below w4.heap.size w4 w5 := by rw [hw5]; exact kaa _ _
 have HB5 := hD (HB4.out.trans (hb5.mono HB4.out.size))
 have HX5 := hD (HX4.out.below hb5 HX4.out.lt)
 have HP5 := hD (HP4.out.below hb5)
 have HQP5 := hD (HQP4.out.below hb5)
 have HQ5 := hD (show Blk w5 w4.heap.size 26 #[.slice (some ⟨gs, 0, none⟩) m cap] by rw [hw5]; exact Blk.new _ _ _)
 obtain ⟨Q, hQ⟩ := xE w4.heap.size
 rw [← hQ] at HQ5 ⊢
 have hck := kbS A2 c2 l w5 HP5.out HMD.out
 rw [HC.out, ← HN.out] at hck
 have HCK := hD (show Calls Tryz.prog 11 #[.agg #[.slice A2 n c2]] w5 fun e w' => e = .returned .nilIface ∧ Below w5.heap.size w5 w' from hck)
 have x5 := HX5.out.cell 0
 simp only [gA, gB] at x5
 clear hw5 hb5 hck hQ
 go_wp2_with fail
 refine HCK.out.mono ?_
 rintro e w6 ⟨rfl, hb6⟩
 have HB6 := hD (HB5.out.trans (hb6.mono HB5.out.size))
 have HX6 := hD (HX5.out.below hb6 HX5.out.lt)
 have HQ6 := hD (HQ5.out.below hb6 HQ5.out.lt)
 have HP6 := hD (HP5.out.below hb6)
 have HQP6 := hD (HQP5.out.below hb6)
 have HA6 := hD (HA.out.below HB6.out)
 clear hb6 HCK x5 HB5 HX5 HP5 HQP5 HQ5 HB4 HX4 HP4 HQP4 HB3 HX3 HP3 HA3
 have HS : Hid (∀ w', Below w6.heap.size w6 w' → w'.cell? ⟨P, 0, none⟩ = some (.slice A2 n c2) ∧ w'.cell? ⟨Q, 0, none⟩ = some (.slice (some ⟨gs, 0, none⟩) m cap)) := hD (fun w' hb => by
  have h1 := (HX6.out.below hb HX6.out.lt).cell 0
  have h2 := (HQ6.out.below hb HQ6.out.lt).cell 0
  simp only [gA, gB] at h1 h2
  exact ⟨h1, h2⟩)
 have HBD := hD (show Below w6.heap.size w6 w6.drew from (Below.refl _ _).drew)
 have hro := rOf_any A c l w6.drew HT.out (HA6.out.below HBD.out) HCAP.out HC.out
 rw [← HLL.out, ← HN.out] at hro
 have HRO := hD hro
 clear hro
 go_wp2_with fail
 refine wp_region_noPanic ?_
 refine wp_region_held_drew (S := (fun w' => w'.cell? ⟨P, 0, none⟩ = some (.slice A2 n c2) ∧ w'.cell? ⟨Q, 0, none⟩ = some (.slice (some ⟨gs, 0, none⟩) m cap))) (by kernel_rfl) (HS.out _ HBD.out) (fun hHeld => ?_)
 refine tkH (i := 0) hHeld ?_
 try simp only [Act.put, gE, gF, gG]
 refine tkH (i := 1) hHeld ?_
 try simp only [Act.put, gE, gF, gG]
 refine tkH (i := 2) hHeld ?_
 try simp only [Act.put, gE, gF, gG]
 refine tkH (i := 3) hHeld ?_
 try simp only [Act.put, gE, gF, gG]
 refine tkH (i := 4) hHeld ?_
 try simp only [Act.put, gE, gF, gG]
 refine tkO (i := 5) (fun K hK => ?_)
 go_simp
 go_at_call 14
 refine HRO.out.mono ?_
 rintro e w7 ⟨hb7, A7, c7, he7, hc7, ha7⟩
 rw [← HMM.out] at he7
 subst he7
 have HB7 := hD (HBD.out.trans (hb7.mono HBD.out.size))
 have hHeld7 := HS.out w7 HB7.out
 have hi1 := kd6 (some ⟨gs, 0, none⟩) A7 cap c7 L w7 (HQP6.out.below HB7.out) ha7 HLM.out.1 HLM.out.2
 rw [← HMM.out] at hi1
 have HI1 := hD hi1
 clear hb7 hc7 ha7 hi1 HRO hHeld
 refine hK.out _ _ hHeld7 ?_
 clear hK K
 try simp only [Act.put, gE, gF, gG]
 refine tkO (i := 6) (fun K hK => ?_)
 go_simp
 go_at_call 13
 refine HI1.out.mono ?_
 rintro e w8 ⟨rfl, hb8⟩
 have HB8 := hD (HB7.out.trans (hb8.mono HB7.out.size))
 have hHeld8 := HS.out w8 HB8.out
 have hi2 := kd6 A2 A c2 c l w8 (HP6.out.below HB8.out) (HA6.out.below HB8.out) (by have := HN.out; omega) HSM.out
 rw [← HN.out] at hi2
 have HI2 := hD hi2
 clear hb8 hi2 HI1 hHeld7
 refine hK.out _ _ hHeld8 ?_
 clear hK K
 try simp only [Act.put, gE, gF, gG]
 refine tkH (i := 7) hHeld8 ?_
 try simp only [Act.put, gE, gF, gG]
 refine tkH (i := 8) hHeld8 ?_
 try simp only [Act.put, gE, gF, gG]
 refine tkH (i := 9) hHeld8 ?_
 try simp only [Act.put, gE, gF, gG]
 refine tkH (i := 10) hHeld8 ?_
 try simp only [Act.put, gE, gF, gG]
 refine tkO (i := 11) (fun K hK => ?_)
 go_simp
 go_at_call 13
 refine HI2.out.mono ?_
 rintro e w9 ⟨rfl, hb9⟩
 have HB9 := hD (HB8.out.trans (hb9.mono HB8.out.size))
 have hHeld9 := HS.out w9 HB9.out
 clear hb9 HI2 hHeld8
 refine hK.out _ _ hHeld9 ?_
 clear hK K
 try simp only [Act.put, gE, gF, gG]
 refine tkH (i := 12) hHeld9 ?_
 try simp only [Act.put, gE, gF, gG]
 refine tkO (i := 13) (fun K hK => ?_)
 go_simp
 refine hK.out _ _ hHeld9 ?_
 clear hK K
 try simp only [Act.put, gE, gF, gG]
 refine wpAnyH_done (by kernel_rfl) ?_ _
 refine NoPanic.normal ?_
 try simp only [Act.put, gE, gF, gG]
 go_wp2_with fail
 go_ret
 exact ⟨rfl, HB6.out.trans (HB9.out.mono HB6.out.size)⟩
end Go.Proofs.YtamhdmkolfmmdaaGreatDoor
