/- The walk of the document's rule negate (printed by gen_rwu.py). The walk of the document's rule fold at texts and all else (printed by gen_rvh.py). The walk of the document's rule fold at ++ and all else (printed by gen_rvj.py). -/
import Derived.Test.YtamhdmkolfmmdaaGreatDoorsbo
import Derived.Test.YtamhdmkolfmmdaaGreatDoorsan
import Derived.Test.YtamhdmkolfmmdaaGreatDoorsaa
import Derived.Test.YtamhdmkolfmmdaaGreatDoorsbt
set_option linter.unusedVariables false
set_option linter.unusedSimpArgs false
namespace Go.Proofs.YtamhdmkolfmmdaaGreatDoor
open Go.RowKit
set_option maxRecDepth 100000
set_option maxHeartbeats 8000000
theorem y93 {P : Prop} (h : P := by
 have htl2 : t.args.length = 2 := kae HHC.out HHT.out 2 (by rw [← HTOP.out]; show (_ : Option Nat) = _; kernel_rfl)
 obtain rfl : tm = 2 := HTM.out.trans htl2
 obtain ⟨k0, _, hk0, hkj0, _, hb0, _⟩ := kah HHC.out HHT.out (k := 0) (by rw [htl2]; decide)
 obtain ⟨k1, _, hk1, hkj1, _, hb1', _⟩ := kah HHC.out HHT.out (k := 1) (by rw [htl2]; decide)
 obtain ⟨bt, ot, rfl, hbt2, hct⟩ := HVT.out.ar (by rw [htl2]; decide)
 first
 | guard_hyp t536q0
   have HRX : Hid (R = some (Rf.removeL (l.set i (Oz.mk Oz.oLe [(k1 : Int), (k0 : Int)] 0 [] 2)) j)) := hD (by
    rw [HR2.out]
    unfold Rf.negL
    rw [if_neg (by rw [← HTOP.out]; decide)]; rw [if_neg (by rw [← HTOP.out]; decide)]; rw [if_pos (by rw [← HTOP.out]; decide), hb0, hb1']
    rfl)
   have HXB : Hid ((Oz.mk Oz.oLe [(k1 : Int), (k0 : Int)] 0 [] 2).args.length ≤ 3 ∧ ∀ a ∈ (Oz.mk Oz.oLe [(k1 : Int), (k0 : Int)] 0 [] 2).args, 0 ≤ a ∧ a ≤ ((4096 : Nat) : Int)) := hD ⟨(show (2 : Nat) ≤ 3 by decide), fun a ha => by
    have ha : a = (k1 : Int) ∨ a = (k0 : Int) := by simpa [Oz.mk] using ha
    rcases ha with ha | ha
    ·
     rw [ha]; exact HBT.out.2 _ (List.mem_of_getElem? hk1)
    ·
     rw [ha]; exact HBT.out.2 _ (List.mem_of_getElem? hk0)⟩
   have HS : Hid (∀ w', Below w.heap.size w w' → w'.cell? ⟨b, o + j * 5 + 1, none⟩ = some (.slice (some ⟨bt, ot, none⟩) 2 ct) ∧ w'.cell? ⟨bt, ot, none⟩ = some (.int .i64 k0) ∧ w'.cell? ⟨bt, ot + 1, none⟩ = some (.int .i64 k1)) := hD (fun w' hb' => ⟨(HCT.out w' hb').2.1, hct w' hb' 0 _ hk0, hct w' hb' 1 _ hk1⟩)
   have f0 := HX6.out.frozen 0
   have v0 := HX6.out.cell 0
   simp only [gA, gB] at v0
   have HX7 := hD (HX6.out.set_ 0 (.string ⟨#[60, 61]⟩))
   clear htl2 hk0 hk1 hb0 hb1' hct
   go_upto_region 13 with (fail)
   obtain ⟨w7, hw7⟩ := xE (w6.setCell ⟨X, 0, none⟩ (.string ⟨#[60, 61]⟩))
   have hx7 : Blk w7 X 76 #[.string ⟨#[60, 61]⟩, .slice A5 2 c5, .int .i64 0, .string ⟨#[]⟩, .int .i64 2] := by rw [hw7]; exact HX7.out
   have t520q0 := True.intro
   exact y77
 | have HRX : Hid (R = some (Rf.removeL (l.set i (Oz.mk Oz.oLt [(k1 : Int), (k0 : Int)] 0 [] 2)) j)) := hD (by
    rw [HR2.out]
    unfold Rf.negL
    rw [if_neg (by rw [← HTOP.out]; decide)]; rw [if_neg (by rw [← HTOP.out]; decide)]; rw [if_neg (by rw [← HTOP.out]; decide)]; rw [if_pos (by rw [← HTOP.out]; decide), hb0, hb1']
    rfl)
   have HXB : Hid ((Oz.mk Oz.oLt [(k1 : Int), (k0 : Int)] 0 [] 2).args.length ≤ 3 ∧ ∀ a ∈ (Oz.mk Oz.oLt [(k1 : Int), (k0 : Int)] 0 [] 2).args, 0 ≤ a ∧ a ≤ ((4096 : Nat) : Int)) := hD ⟨(show (2 : Nat) ≤ 3 by decide), fun a ha => by
    have ha : a = (k1 : Int) ∨ a = (k0 : Int) := by simpa [Oz.mk] using ha
    rcases ha with ha | ha
    ·
     rw [ha]; exact HBT.out.2 _ (List.mem_of_getElem? hk1)
    ·
     rw [ha]; exact HBT.out.2 _ (List.mem_of_getElem? hk0)⟩
   have HS : Hid (∀ w', Below w.heap.size w w' → w'.cell? ⟨b, o + j * 5 + 1, none⟩ = some (.slice (some ⟨bt, ot, none⟩) 2 ct) ∧ w'.cell? ⟨bt, ot, none⟩ = some (.int .i64 k0) ∧ w'.cell? ⟨bt, ot + 1, none⟩ = some (.int .i64 k1)) := hD (fun w' hb' => ⟨(HCT.out w' hb').2.1, hct w' hb' 0 _ hk0, hct w' hb' 1 _ hk1⟩)
   have f0 := HX6.out.frozen 0
   have v0 := HX6.out.cell 0
   simp only [gA, gB] at v0
   have HX7 := hD (HX6.out.set_ 0 (.string ⟨#[60]⟩))
   clear htl2 hk0 hk1 hb0 hb1' hct
   go_upto_region 16 with (fail)
   obtain ⟨w7, hw7⟩ := xE (w6.setCell ⟨X, 0, none⟩ (.string ⟨#[60]⟩))
   have hx7 : Blk w7 X 76 #[.string ⟨#[60]⟩, .slice A5 2 c5, .int .i64 0, .string ⟨#[]⟩, .int .i64 2] := by rw [hw7]; exact HX7.out
   exact y77) : P := h
theorem y77 {P : Prop} (h : P := by
 have hb7 : Below w.heap.size w w7 := by rw [hw7]; exact HB6.out.setCell (p := ⟨X, 0, none⟩) hX5 _
 rw [← hw7]
 have HB7 := hD hb7
 have HX7 := hD hx7
 have HBD := hD (show Below w.heap.size w w7.drew from hb7.drew)
 have f1 : w7.frozen? ⟨X, 1, none⟩ = false := hx7.frozen 1
 obtain ⟨_, v1, _⟩ := blk5 hx7
 have hXl := hx7.lt
 clear hw7 hx7 hb7 f0 v0 u0 u1
 refine wp_region_noPanic ?_
 refine wp_region_held_drew (S := (fun w' => w'.cell? ⟨b, o + j * 5 + 1, none⟩ = some (.slice (some ⟨bt, ot, none⟩) 2 ct) ∧ w'.cell? ⟨bt, ot, none⟩ = some (.int .i64 k0) ∧ w'.cell? ⟨bt, ot + 1, none⟩ = some (.int .i64 k1))) (by kernel_rfl) (HS.out _ HBD.out) (fun hHeld => ?_)
 first
 | guard_hyp t520q0
   have t487q2 := True.intro
   exact y44
 | exact y44) : P := h
theorem y63 {P : Prop} (h : P := by
 rw [← hLR] at hrm
 have HRM9 := hD hrm
 have HRN : Hid (R = some LR) := hD (by rw [HRX.out, hLR])
 clear hb9 hc9 hp9 HW8 hrm hLR v0' v1 v2 v3 v4
 go_wp2_with fail
 refine HRM9.out.mono ?_
 rintro e wz ⟨hbz, Az, cz, he, hcz, hpz⟩
 have HBZ := hD (HB9.out.trans (hbz.mono HB9.out.size))
 exact z3) : P := h
theorem kiA (A : Option Addr) (c : Nat) (l : List St) (i : Nat) (s : St) (w : World) (h : ArgPl w A l) (hcap : l.length ≤ c) (hc : kac l = 0) (hs : l[i]? = some s) :
  Calls Tryz.prog 102 #[.slice A l.length c, .int .i64 i] w (kal w (Rf.negateL l i)) := by
 have hil := (gH hs).1
 have _ := hcap
 obtain ⟨b, o, rfl⟩ := h.base (by omega)
 have hbn := kc6 hc
 have hlen := hbn.1
 obtain ⟨R, hR⟩ := xE (Rf.negateL l i)
 rw [← hR]
 unfold Rf.negateL at hR
 rw [kad hs] at hR
 dsimp only at hR
 obtain ⟨As, cs, hv⟩ := h.vw hs
 have x0 := hv.x0
 have x1 := hv.x1
 have HB0 := hD (Below.refl w.heap.size w)
 obtain ⟨n, hn⟩ := xE l.length
 have q0 : (i : Int) < (n : Int) := by omega
 have q1 : (0 : Int) ≤ (i : Int) := by omega
 obtain ⟨op, hop⟩ := xE s.op
 rw [← hop] at x0
 by_cases h0 : op = [110, 111, 116]
 rotate_left
 ·
  have HRN : Hid (R = none) := hD (by rw [hR, if_pos (.inl (by rw [← hop]; exact h0))])
  have e0 : (op == [110, 111, 116]) = false := beq_eq_false_iff_ne.2 h0
  rw [← hn]
  clear h hcap hc hs hil hbn hR hv hop hn h0 x1
  go_enter Tryz.func102, Tryz.ntmps102
  go_wp2_with fail
  go_ret2
  unfold kal
  rw [HRN.out]
  exact ⟨HB0.out, rfl⟩
 have h0' : s.op = Oz.oNot := by rw [← hop]; exact h0
 have hl : s.args.length = 1 := kae hc hs 1 (by rw [h0']; show (_ : Option Nat) = _; kernel_rfl)
 obtain ⟨j, t, hj, hji, ht, ha, hat⟩ := kah hc hs (k := 0) (by omega)
 rw [ha, Int.toNat_natCast, hat] at hR
 have hon := khS (some ⟨b, o, none⟩) c l w h hc j (by omega)
 obtain ⟨z, hz⟩ := xE (Rf.onceL l j)
 rw [← hz, ← hn] at hon
 rw [← hz] at hR
 have HON := hD hon
 have HR : Hid (R = if z = false then none else (Rf.negL t).map fun x => Rf.removeL (l.set i x) j) := hD (by
  rw [hR]
  cases z with
  | false => rw [if_pos (.inr rfl), if_pos rfl]
  | true => rw [if_neg (by simp only [not_or, Classical.not_not]; exact ⟨h0', by decide⟩), if_neg (by decide)])
 obtain ⟨ba, oa, rfl, hba, hca⟩ := hv.ar (by omega)
 have HA0 := hD (fun w' hb => (show w'.cell? ⟨ba, oa, none⟩ = some (.int .i64 j) from hca w' hb 0 _ hj))
 have z0 := HA0.out w HB0.out
 rw [hl] at x1
 have HX1 : Hid (∀ w', Below w.heap.size w w' → w'.cell? ⟨b, o + i * 5 + 1, none⟩ = some (.slice (some ⟨ba, oa, none⟩) 1 cs)) := hD (fun w' hb => by
  have := (hv.below hb).x1
  rwa [hl] at this)
 have p1 : (0 : Int) ≤ (j : Int) := by omega
 have p2 : (j : Int) < (n : Int) := by omega
 have hbt := hbn.2 t (List.mem_of_getElem? ht)
 obtain ⟨At, ct, hvt⟩ := h.vw ht
 have HVT := hD hvt
 obtain ⟨top, htop⟩ := xE t.op
 obtain ⟨tm, htm⟩ := xE t.args.length
 have HTM := hD htm
 have HTL : Hid (tm ≤ 3) := hD (by omega)
 have HCT : Hid (∀ w', Below w.heap.size w w' → w'.cell? ⟨b, o + j * 5, none⟩ = some (.string ⟨top.toArray⟩) ∧ w'.cell? ⟨b, o + j * 5 + 1, none⟩ = some (.slice At tm ct) ∧ Reads w' w'.heap.size 1 At tm (t.args.map (Value.int .i64))) := hD (fun w' hb => by
  have hv := hvt.below hb
  rw [htop, htm]
  exact ⟨hv.x0, hv.x1, hv.rd⟩)
 have HONE : Hid (∀ u ∈ t.args.map (Value.int .i64), u.oneCell' = true) := hD (fun u hu => by obtain ⟨_, _, rfl⟩ := List.mem_map.1 hu; rfl)
 have HTOP := hD htop
 have HA := hD h
 have HBN := hD hbn
 have HBT := hD hbt
 have HIL := hD hil
 have HHT := hD ht
 have HHC := hD hc
 have HN := hD hn
 have HJN : Hid (j < n) := hD (by omega)
 have HWR : Hid (∀ (x : St) (w1 : World) (Ax : Option Addr) (cx m : Nat), Below w.heap.size w w1 → m = x.args.length → Reads w1 w1.heap.size 1 Ax m (x.args.map (Value.int .i64)) →
   Calls Tryz.prog 144 #[.slice (some ⟨b, o, none⟩) n c, .int .i64 i, .agg #[.string ⟨x.op.toArray⟩, .slice Ax m cx, .int .i64 x.num, .string ⟨x.text.toArray⟩, .int .i64 x.ty]] w1 (kbd w1 (l.set i x))) := hD (fun x w1 Ax cx m hb1 hm hx => by
  subst hm
  have := kb3 (some ⟨b, o, none⟩) c l i x Ax cx w1 (h.below hb1) (hbn.bd (by decide)) hil hx
  rwa [← hn] at this)
 have HRMV : Hid (∀ (x : St), (x.args.length ≤ 3 ∧ ∀ a ∈ x.args, 0 ≤ a ∧ a ≤ ((4096 : Nat) : Int)) → ∀ (w2 : World) A2 c2, ArgPl w2 A2 (l.set i x) → Calls Tryz.prog 148 #[.slice A2 n c2, .int .i64 j] w2 (kbd w2 (Rf.removeL (l.set i x) j))) := hD (fun x hx w2 A2 c2 hp2 => by
  have := kcR A2 c2 (l.set i x) w2 hp2 ((hbn.set i x hx).bd (by decide)) j (by rw [List.length_set]; omega)
  rwa [List.length_set, ← hn] at this)
 have HL1 : Hid (∀ x : St, (l.set i x).length = n) := hD (fun x => by rw [List.length_set, hn])
 rw [← hn]
 obtain rfl : op = [110, 111, 116] := h0
 clear h hcap hc hs hil hbn hR hv hop hn h0' hl hj hji ht ha hat hon hz hca hbt hvt htop htm hlen
 go_enter Tryz.func102, Tryz.ntmps102
 go_wp2_with fail
 refine HON.out.mono ?_
 rintro e w1 ⟨rfl, hb1⟩
 have HB1 := hD hb1
 have y1 := HX1.out w1 hb1
 have z1 := HA0.out w1 hb1
 obtain ⟨u0, u1, hrd⟩ := HCT.out w1 hb1
 have HRD := hD hrd
 clear hb1 HON x0 x1 z0 hrd
 cases z with
 | false =>
  have HRN : Hid (R = none) := hD (by rw [HR.out]; rfl)
  go_wp2_with fail
  go_ret2
  unfold kal
  rw [HRN.out]
  exact ⟨HB1.out, rfl⟩
 | true =>
 have HR2 : Hid (R = (Rf.negL t).map fun x => Rf.removeL (l.set i x) j) := hD (by rw [HR.out]; rfl)
 have hzq := HB1.out.size
 have htl := HTL.out
 have hbl := (HVT.out.below HB1.out).lt
 have hoo1 := World.ownsRow_lit (base := w.heap.size) (e := 3) (size := 1) w1 #[] 0 hzq (by decide) rfl
 have hrd1 : Reads (w1.alloc (.cells #[] 3)) w1.heap.size 1 At tm (t.args.map (Value.int .i64)) := HRD.out.alloc (Nat.le_refl _) _
 have hq1 : 0 + tm ≤ maxLen := by unfold maxLen; omega
 have hq2 : (0 + tm) * 8 ≤ 140737488355328 := by omega
 have hq3 : w.heap.size ≤ (w1.alloc (.cells #[] 3)).heap.size := by have := (kaa w1 (.cells #[] 3)).size; omega
 obtain ⟨i1, hinf1, hz10, hz11, hz12⟩ := info_parts kcK
 go_wp2_with (at_builtin; refine kam _ rfl (.tmp 33) (.tmp 38) 47 rfl w.heap.size 3 i1 (.int .i64 0) 1 8 Tryz.underlying47 hinf1 hz10 hz11 hz12 rfl (by decide) (.slice (some ⟨w1.heap.size, 0, none⟩) 0 0) 0 [] rfl hoo1 w1.heap.size At tm ct _ rfl hrd1 HONE.out hq1 hq2 hq3 ?_)
 intro v5 w5 hown5 hg5 hv5
 obtain ⟨A5, c5, rfl⟩ := kak hown5
 have hb5 : Below w.heap.size w w5 := HB1.out.trans ((((kaa w1 (.cells #[] 3)).grown hg5 (by simp) (fun j e => by have e : some w1.heap.size = some j := e; injection e with e; omega))).mono hzq)
 have HO5 : Hid (w5.ownsRow w.heap.size 3 1 (.slice A5 tm c5) tm (t.args.map (Value.int .i64))) := hD (by simpa using hown5)
 have HB5 := hD hb5
 clear hb5 hown5 hg5 hv5 hinf1 hz10 hz11 hz12 hoo1 hrd1 hq1 hq2 hq3 y1 z1 u0 u1 HRD
 go_upto_region 5 with (fail)
 obtain ⟨w6, hw6⟩ := xE (w5.alloc (.cells #[.string ⟨#[]⟩, .slice A5 tm c5, .int .i64 0, .string ⟨#[]⟩, .int .i64 2] 76))
 have hb6 : Below w5.heap.size w5 w6 := by rw [hw6]; exact kaa _ _
 have HX6 := hD (show Blk w6 w5.heap.size 76 #[.string ⟨#[]⟩, .slice A5 tm c5, .int .i64 0, .string ⟨#[]⟩, .int .i64 2] by rw [hw6]; exact Blk.new _ _ _)
 rw [← hw6]
 have HB6 := hD (HB5.out.trans (hb6.mono HB5.out.size))
 have HO6 := hD (kay HO5.out hb6)
 have hX5 : w.heap.size ≤ w5.heap.size := HB5.out.size
 obtain ⟨X, hX⟩ := xE w5.heap.size
 rw [← hX] at HX6 hX5 ⊢
 obtain ⟨u0, u1, _⟩ := HCT.out w6 HB6.out
 clear hw6 hb6 HB5 HO5 hX
 by_cases g0 : top = [61, 61]
 ·
  obtain rfl : top = [61, 61] := g0
  have HRX : Hid (R = some (Rf.removeL (l.set i (Oz.mk Oz.oNe t.args 0 [] 2)) j)) := hD (by
   rw [HR2.out]
   unfold Rf.negL
   rw [if_pos (by rw [← HTOP.out]; decide)]
   rfl)
  have HXB : Hid ((Oz.mk Oz.oNe t.args 0 [] 2).args.length ≤ 3 ∧ ∀ a ∈ (Oz.mk Oz.oNe t.args 0 [] 2).args, 0 ≤ a ∧ a ≤ ((4096 : Nat) : Int)) := hD HBT.out
  have f0 := HX6.out.frozen 0
  have v0 := HX6.out.cell 0
  simp only [gA, gB] at v0
  have HX8 := hD (HX6.out.set_ 0 (.string ⟨#[33, 61]⟩))
  go_upto_region 17 with (fail)
  obtain ⟨w8, hw8⟩ := xE (w6.setCell ⟨X, 0, none⟩ (.string ⟨#[33, 61]⟩))
  have hx8 : Blk w8 X 76 #[.string ⟨#[33, 61]⟩, .slice A5 tm c5, .int .i64 0, .string ⟨#[]⟩, .int .i64 2] := by rw [hw8]; exact HX8.out
  have hb8 : Below w.heap.size w w8 := by rw [hw8]; exact HB6.out.setCell (p := ⟨X, 0, none⟩) hX5 _
  have ho8 : w8.ownsRow w.heap.size 3 1 (.slice A5 tm c5) tm (t.args.map (Value.int .i64)) := by rw [hw8]; exact kbe HO6.out (fun e => kan HO6.out HX6.out (by decide) e) _
  rw [← hw8]
  obtain ⟨v0', v1, v2, v3, v4, _⟩ := blk5 hx8
  have HB8 := hD hb8
  have hw9 := HWR.out (Oz.mk Oz.oNe t.args 0 [] 2) w8 A5 c5 tm hb8 HTM.out (kbA (B := 0) ho8).reads
  have HW8 := hD hw9
  clear hw8 hx8 hb8 ho8 hw9 f0 v0 u0 u1
  go_wp2_with fail
  refine HW8.out.mono ?_
  rintro e w9 ⟨hb9, A9, c9, he9, hc9, hp9⟩
  rw [HL1.out] at he9
  subst he9
  have HB9 := hD (HB8.out.trans (hb9.mono HB8.out.size))
  have hrm := HRMV.out (Oz.mk Oz.oNe t.args 0 [] 2) HXB.out w9 A9 c9 hp9
  obtain ⟨LR, hLR⟩ := xE (Rf.removeL (l.set i (Oz.mk Oz.oNe t.args 0 [] 2)) j)
  exact y63
 by_cases g1 : top = [33, 61]
 ·
  obtain rfl : top = [33, 61] := g1
  have HRX : Hid (R = some (Rf.removeL (l.set i (Oz.mk Oz.oEq t.args 0 [] 2)) j)) := hD (by
   rw [HR2.out]
   unfold Rf.negL
   rw [if_neg (by rw [← HTOP.out]; decide)]; rw [if_pos (by rw [← HTOP.out]; decide)]
   rfl)
  have HXB : Hid ((Oz.mk Oz.oEq t.args 0 [] 2).args.length ≤ 3 ∧ ∀ a ∈ (Oz.mk Oz.oEq t.args 0 [] 2).args, 0 ≤ a ∧ a ≤ ((4096 : Nat) : Int)) := hD HBT.out
  have f0 := HX6.out.frozen 0
  have v0 := HX6.out.cell 0
  simp only [gA, gB] at v0
  have HX8 := hD (HX6.out.set_ 0 (.string ⟨#[61, 61]⟩))
  go_upto_region 17 with (fail)
  obtain ⟨w8, hw8⟩ := xE (w6.setCell ⟨X, 0, none⟩ (.string ⟨#[61, 61]⟩))
  have hx8 : Blk w8 X 76 #[.string ⟨#[61, 61]⟩, .slice A5 tm c5, .int .i64 0, .string ⟨#[]⟩, .int .i64 2] := by rw [hw8]; exact HX8.out
  have hb8 : Below w.heap.size w w8 := by rw [hw8]; exact HB6.out.setCell (p := ⟨X, 0, none⟩) hX5 _
  have ho8 : w8.ownsRow w.heap.size 3 1 (.slice A5 tm c5) tm (t.args.map (Value.int .i64)) := by rw [hw8]; exact kbe HO6.out (fun e => kan HO6.out HX6.out (by decide) e) _
  rw [← hw8]
  obtain ⟨v0', v1, v2, v3, v4, _⟩ := blk5 hx8
  have HB8 := hD hb8
  have hw9 := HWR.out (Oz.mk Oz.oEq t.args 0 [] 2) w8 A5 c5 tm hb8 HTM.out (kbA (B := 0) ho8).reads
  have HW8 := hD hw9
  clear hw8 hx8 hb8 ho8 hw9 f0 v0 u0 u1
  go_wp2_with fail
  refine HW8.out.mono ?_
  rintro e w9 ⟨hb9, A9, c9, he9, hc9, hp9⟩
  rw [HL1.out] at he9
  subst he9
  have HB9 := hD (HB8.out.trans (hb9.mono HB8.out.size))
  have hrm := HRMV.out (Oz.mk Oz.oEq t.args 0 [] 2) HXB.out w9 A9 c9 hp9
  obtain ⟨LR, hLR⟩ := xE (Rf.removeL (l.set i (Oz.mk Oz.oEq t.args 0 [] 2)) j)
  exact y63
 by_cases g2 : top = [60]
 ·
  obtain rfl : top = [60] := g2
  have t536q0 := True.intro
  exact y93
 by_cases g3 : top = [60, 61]
 ·
  obtain rfl : top = [60, 61] := g3
  exact y93
 have HRN : Hid (R = none) := hD (by
  rw [HR2.out]
  unfold Rf.negL
  rw [if_neg (by rw [← HTOP.out]; exact g0), if_neg (by rw [← HTOP.out]; exact g1), if_neg (by rw [← HTOP.out]; exact g2), if_neg (by rw [← HTOP.out]; exact g3)]
  rfl)
 have e0 : (top == [61, 61]) = false := beq_eq_false_iff_ne.2 g0
 have e1 : (top == [33, 61]) = false := beq_eq_false_iff_ne.2 g1
 have e2 : (top == [60]) = false := beq_eq_false_iff_ne.2 g2
 have e3 : (top == [60, 61]) = false := beq_eq_false_iff_ne.2 g3
 go_wp2_with fail
 go_ret2
 unfold kal
 rw [HRN.out]
 exact ⟨HB6.out, rfl⟩
theorem y10 {P : Prop} (h : P := by
 have hil := (gH hs).1
 have hbn := kc6 hc
 have hlen := hbn.1
 have hl : s.args.length = 1 := kae hc hs 1 (by rw [hop]; show (_ : Option Nat) = _; kernel_rfl)
 obtain ⟨R, hR⟩ := xE (Rf.foldL l i)
 rw [← hR]
 unfold Rf.foldL at hR
 rw [kad hs] at hR
 dsimp only at hR
 obtain ⟨As, cs, hv⟩ := h.vw hs
 have d0 := hv.x0
 have d1 := hv.x1
 have d2 := hv.x2
 have d3 := hv.x3
 have d4 := hv.x4
 rw [hop] at d0
 rw [hl] at d1
 obtain ⟨num, hnum⟩ := xE s.num
 obtain ⟨text, htext⟩ := xE s.text
 obtain ⟨ty, hty⟩ := xE s.ty
 obtain ⟨n, hn⟩ := xE l.length
 rw [← hnum] at d2
 rw [← htext] at d3
 rw [← hty] at d4
 have q0 : (i : Int) < (n : Int) := by omega
 have q1 : (0 : Int) ≤ (i : Int) := by omega
 obtain ⟨ba, oa, rfl, hba, hca⟩ := hv.ar (by omega)
 obtain ⟨j0, t0, hj0, hji0, ht0, ha0, hat0⟩ := kah hc hs (k := 0) (by omega)
 obtain ⟨A0, c0, hv0⟩ := h.vw ht0
 have q2 : (j0 : Int) < (n : Int) := by omega
 have q3 : (0 : Int) ≤ (j0 : Int) := by omega
 obtain ⟨o0, ho0⟩ := xE t0.op
 obtain ⟨n0, hn0⟩ := xE t0.num
 obtain ⟨x0, hx0⟩ := xE t0.text
 obtain ⟨y0, hy0⟩ := xE t0.ty
 obtain ⟨m0, hm0⟩ := xE t0.args.length
 rw [ha0, hat0] at hR
 first
 | guard_hyp t28q0
   have HR : Hid (R = if o0 ≠ kai ∨ 65536 < x0.length then none else some (l.set i (Oz.mk kab [] (((x0.filter fun b => b = 10).length : Int) + 1) [] 1))) := hD (by
    rw [hR, hop, if_neg (by decide), if_pos (by decide), ← ho0, ← hx0]
    rfl)
 | have HR : Hid (R = if o0 ≠ kai ∨ 65536 < x0.length then none else some (l.set i (Oz.mk kab [] ((x0.length : Int)) [] 1))) := hD (by
    rw [hR, hop, if_neg (by decide), if_pos (by decide), ← ho0, ← hx0]
    rfl)
 have HC : Hid (∀ w', Below w.heap.size w w' → w'.cell? ⟨ba, oa, none⟩ = some (.int .i64 j0) ∧ w'.cell? ⟨b, o + j0 * 5, none⟩ = some (.string ⟨o0.toArray⟩) ∧ w'.cell? ⟨b, o + j0 * 5 + 1, none⟩ = some (.slice A0 m0 c0) ∧ w'.cell? ⟨b, o + j0 * 5 + 2, none⟩ = some (.int .i64 n0) ∧ w'.cell? ⟨b, o + j0 * 5 + 3, none⟩ = some (.string ⟨x0.toArray⟩) ∧ w'.cell? ⟨b, o + j0 * 5 + 4, none⟩ = some (.int .i64 y0)) := hD (fun w' hb => by
  have v0 := hv0.below hb
  have k0 := hca w' hb 0 _ hj0
  rw [ho0, hn0, hx0, hy0, hm0]
  exact ⟨k0, v0.x0, v0.x1, v0.x2, v0.x3, v0.x4⟩)
 have HWI : Hid (∀ (m : Int) w1, Below w.heap.size w w1 → Calls Tryz.prog 144 #[.slice (some ⟨b, o, none⟩) n c, .int .i64 i, .agg #[.string ⟨#[110, 117, 109, 98, 101, 114]⟩, .slice none 0 0, .int .i64 m, .string ⟨#[]⟩, .int .i64 1]] w1 (kbd w1 (l.set i (Oz.mk kab [] m [] 1)))) := hD (fun m w1 hb1 => by
  have := kb3 (some ⟨b, o, none⟩) c l i (Oz.mk kab [] m [] 1) none 0 w1 (h.below hb1) (hbn.bd (by decide)) hil ⟨rfl, fun h => absurd (show (0 : Nat) < 0 from h) (by decide)⟩
  rwa [← hn] at this)
 have HLS : Hid (∀ x : St, (l.set i x).length = n) := hD (fun x => by rw [List.length_set, hn])
 rw [← hn]
 first
 | guard_hyp t28q0
   obtain ⟨w1, hw1⟩ := xE (w.alloc (.cells #[.string ⟨#[108, 105, 110, 101, 115]⟩, .slice (some ⟨ba, oa, none⟩) 1 cs, .int .i64 num, .string ⟨text.toArray⟩, .int .i64 ty] 76))
 | obtain ⟨w1, hw1⟩ := xE (w.alloc (.cells #[.string ⟨#[108, 101, 110]⟩, .slice (some ⟨ba, oa, none⟩) 1 cs, .int .i64 num, .string ⟨text.toArray⟩, .int .i64 ty] 76))
 have HB1 := hD (show Below w.heap.size w w1 by rw [hw1]; exact kaa _ _)
 first
 | guard_hyp t28q0
   have HS1 := hD (show Blk w1 w.heap.size 76 #[.string ⟨#[108, 105, 110, 101, 115]⟩, .slice (some ⟨ba, oa, none⟩) 1 cs, .int .i64 num, .string ⟨text.toArray⟩, .int .i64 ty] by rw [hw1]; exact Blk.new _ _ _)
 | have HS1 := hD (show Blk w1 w.heap.size 76 #[.string ⟨#[108, 101, 110]⟩, .slice (some ⟨ba, oa, none⟩) 1 cs, .int .i64 num, .string ⟨text.toArray⟩, .int .i64 ty] by rw [hw1]; exact Blk.new _ _ _)
 have HW1 := hD hw1
 clear h hc hs hop hil hbn hlen hl hR hv hnum htext hty hn hj0 ht0 ha0 hat0 hv0 hca hw1 ho0 hn0 hx0 hy0 hm0
 go_enter Tryz.func100, Tryz.ntmps100
 go_upto_region 2 with (fail)
 rw [← HW1.out]
 have s0 := HS1.out.cell 0
 have s1 := HS1.out.cell 1
 simp only [gA, gB, gC] at s0 s1
 obtain ⟨k0, z0, z1, z2, z3, z4⟩ := HC.out w1 HB1.out
 clear d0 d1 d2 d3 d4
 go_upto_region 19 with (fail)
 obtain ⟨w2, hw2⟩ := xE (w1.alloc (.cells #[.string ⟨o0.toArray⟩, .slice A0 m0 c0, .int .i64 n0, .string ⟨x0.toArray⟩, .int .i64 y0] 76))
 have HB2 := hD (show Below w.heap.size w w2 by rw [hw2]; exact HB1.out.alloc HB1.out.size _)
 have HX2 := hD (show Blk w2 w1.heap.size 76 #[.string ⟨o0.toArray⟩, .slice A0 m0 c0, .int .i64 n0, .string ⟨x0.toArray⟩, .int .i64 y0] by rw [hw2]; exact Blk.new _ _ _)
 first
 | guard_hyp t28q0
   have HS2 := hD (show Blk w2 w.heap.size 76 #[.string ⟨#[108, 105, 110, 101, 115]⟩, .slice (some ⟨ba, oa, none⟩) 1 cs, .int .i64 num, .string ⟨text.toArray⟩, .int .i64 ty] by rw [hw2]; exact HS1.out.alloc _)
 | have HS2 := hD (show Blk w2 w.heap.size 76 #[.string ⟨#[108, 101, 110]⟩, .slice (some ⟨ba, oa, none⟩) 1 cs, .int .i64 num, .string ⟨text.toArray⟩, .int .i64 ty] by rw [hw2]; exact HS1.out.alloc _)
 rw [← hw2]
 clear hw2 s0 s1 k0 z0 z1 z2 z3 z4
 obtain ⟨v0, v1, v2, v3, v4, _⟩ := blk5 HX2.out
 obtain ⟨s0, s1, _⟩ := blk5 HS2.out
 by_cases g0 : o0 = [115, 116, 114, 105, 110, 103]
 rotate_left
 ·
  have HRN : Hid (R = none) := hD (by rw [HR.out, if_pos (.inl g0)])
  have e0 : (o0 == [115, 116, 114, 105, 110, 103]) = false := beq_eq_false_iff_ne.2 g0
  go_wp2_with fail
  go_ret2
  unfold kal
  rw [HRN.out]
  exact ⟨HB2.out, rfl⟩
 obtain rfl : o0 = [115, 116, 114, 105, 110, 103] := g0
 by_cases g1 : 65536 < x0.length
 ·
  have HRN : Hid (R = none) := hD (by rw [HR.out, if_pos (.inr g1)])
  have e1 : (65536 : Int) < (x0.length : Int) := by omega
  go_wp2_with fail
  go_ret2
  unfold kal
  rw [HRN.out]
  exact ⟨HB2.out, rfl⟩
 have e1 : ¬ ((65536 : Int) < (x0.length : Int)) := by omega
 first
 | guard_hyp t28q0
   have HRN : Hid (R = some (l.set i (Oz.mk kab [] (((x0.filter fun b => b = 10).length : Int) + 1) [] 1))) := hD (by rw [HR.out, if_neg (by rintro (e | e); exact e rfl; exact g1 e)])
 | have HRN : Hid (R = some (l.set i (Oz.mk kab [] ((x0.length : Int)) [] 1))) := hD (by rw [HR.out, if_neg (by rintro (e | e); exact e rfl; exact g1 e)])
 go_wp2_with fail
 first
 | guard_hyp t28q0
   clear v0 v1 v2 v3 v4 s0 s1
   go_loopg [15, 16, 120] (x0.length + 1) (fun f v _ ix wr => LnRel w x0 f v ix wr ∧ Hid (Blk wr w1.heap.size 76 #[.string ⟨#[115, 116, 114, 105, 110, 103]⟩, .slice A0 m0 c0, .int .i64 n0, .string ⟨x0.toArray⟩, .int .i64 y0]))
   case atStart => exact ⟨⟨0, rfl, by rw [List.take_zero]; rfl, by omega, by omega, HB2⟩, HX2⟩
   case round =>
    obtain ⟨⟨p, rfl, rfl, hp, hpf, HB⟩, HX⟩ := hrel
    obtain ⟨f, rfl⟩ : ∃ f, gk = f + 1 := ⟨gk - 1, by omega⟩
    obtain ⟨v0, v1, v2, v3, v4, _⟩ := blk5 HX.out
    have hfl : ((x0.take p).filter fun b => b = 10).length ≤ p := Nat.le_trans (List.length_filter_le _ _) (by rw [List.length_take]; omega)
    by_cases hlt : p < x0.length
    ·
     obtain ⟨u, hu⟩ : ∃ u, x0[p]? = some u := ⟨x0[p], List.getElem?_eq_getElem hlt⟩
     have HTK := hD (show x0.take (p + 1) = x0.take p ++ [u] by rw [List.take_add_one, hu]; rfl)
     obtain ⟨F, hF⟩ := xE (((x0.take p).filter fun b => b = 10).length)
     rw [← hF] at hfl ⊢
     have HF := hD hF
     have p0 : (p : Int) < (x0.length : Int) := by omega
     have p1 : (0 : Int) ≤ (p : Int) := by omega
     have hw := IntWalk.wrap64_in ((F : Int) + 1 + 1) (by omega)
     have hix : ∀ w, (Instr.index 9 (.string ⟨x0.toArray⟩) (.int .i64 (p : Int))).run Tryz.prog w = .ok (.int .u8 u.toNat) w := idxT (P := Tryz.prog) Tryz.underlying9 hu
     by_cases hu10 : u = 10
     ·
      have e5 : ((u.toNat : Int) == 10) = true := by rw [hu10]; rfl
      have HN5 : Hid (((((x0.take (p + 1)).filter fun b => b = 10).length : Nat) : Int) = (F : Int) + 1) := hD (by rw [HTK.out, List.filter_append, List.length_append, ← hF, List.filter_cons_of_pos (by simpa using hu10)]; simp)
      clear hu hF hu10
      go_wp2_with fail
      go_roundg f
      case measure => omega
      case rel => exact ⟨⟨p + 1, by go_num, by rw [HN5.out, hw], by omega, by omega, HB⟩, HX⟩
     ·
      have e5 : ((u.toNat : Int) == 10) = false := beq_eq_false_iff_ne.2 (fun e => hu10 (by have e2 : u.toNat = 10 := (by omega); exact UInt8.toNat_inj.1 e2))
      have HN5 : Hid (((((x0.take (p + 1)).filter fun b => b = 10).length : Nat) : Int) = (F : Int)) := hD (by rw [HTK.out, List.filter_append, List.length_append, ← hF, List.filter_cons_of_neg (by simpa using hu10)]; simp)
      clear hu hF hu10
      go_wp2_with fail
      go_roundg f
      case measure => omega
      case rel => exact ⟨⟨p + 1, by go_num, by rw [HN5.out], by omega, by omega, HB⟩, HX⟩
    ·
     have hpx : p = x0.length := by omega
     have hal : x0.take p = x0 := by rw [hpx, List.take_length]
     have p0 : ¬ ((p : Int) < (x0.length : Int)) := by omega
     rw [hal]
     obtain ⟨F, hF⟩ := xE (((x0.filter fun b => b = 10).length : Int) + 1)
     rw [← hF]
     rw [← hF] at HRN
     clear hF hal hpx hfl hlt
     go_wp2_with fail
     refine (kcH F _).mono ?_
     rintro e w7 ⟨hb7, rfl⟩
     have HB7 := hD (HB.out.trans (hb7.mono HB.out.size))
     have HW7 := hD (HWI.out F w7 HB7.out)
     obtain ⟨LR, hLR⟩ := xE (l.set i (Oz.mk kab [] F [] 1))
     rw [← hLR] at HW7 HRN
     clear hb7 hLR v0 v1 v2 v3 v4
     go_wp2_with fail
     refine HW7.out.mono ?_
     rintro e wz ⟨hbz, Az, cz, he, hcz, hpz⟩
     have HBZ := hD (HB7.out.trans (hbz.mono HB7.out.size))
     exact z3
 | refine (kcH (x0.length : Int) _).mono ?_
   rintro e w7 ⟨hb7, rfl⟩
   have HB7 := hD (HB2.out.trans (hb7.mono HB2.out.size))
   have HW7 := hD (HWI.out (x0.length : Int) w7 HB7.out)
   obtain ⟨LR, hLR⟩ := xE (l.set i (Oz.mk kab [] (x0.length : Int) [] 1))
   rw [← hLR] at HW7 HRN
   clear hb7 hLR v0 v1 v2 v3 v4 s0 s1
   go_wp2_with fail
   refine HW7.out.mono ?_
   rintro e wz ⟨hbz, Az, cz, he, hcz, hpz⟩
   have HBZ := hD (HB7.out.trans (hbz.mono HB7.out.size))
   obtain ⟨mz, hmz⟩ := xE LR.length
   rw [← hmz] at he
   subst he
   have HPZ := hD hpz
   have HCZ := hD hcz
   have HMZ := hD hmz
   clear hbz hpz hcz hmz
   go_wp2_with fail
   go_ret2
   unfold kal
   rw [HRN.out]
   exact ⟨HBZ.out, Az, cz, by rw [HMZ.out]; rfl, HCZ.out, HPZ.out⟩) : P := h
def LnRel (w : World) (x : List UInt8) (f : Nat) (v i : Value) (wr : World) : Prop := ∃ p : Nat, i = .int .i64 p ∧ v = .int .i64 ((((x.take p).filter fun b => b = 10).length : Int) + 1) ∧ p ≤ x.length ∧ x.length - p < f ∧ Hid (Below w.heap.size w wr)
theorem klx (b o c : Nat) (l : List St) (i : Nat) (s : St) (w : World) (h : ArgPl w (some ⟨b, o, none⟩) l) (hc : kac l = 0) (hs : l[i]? = some s) (hop : s.op = [108, 101, 110]) :
  Calls Tryz.prog 100 #[.slice (some ⟨b, o, none⟩) l.length c, .int .i64 i] w (kal w (Rf.foldL l i)) := by
 exact y10
theorem kiG (b o c : Nat) (l : List St) (i : Nat) (s : St) (w : World) (h : ArgPl w (some ⟨b, o, none⟩) l) (hc : kac l = 0) (hs : l[i]? = some s) (hop : s.op = [108, 105, 110, 101, 115]) :
  Calls Tryz.prog 100 #[.slice (some ⟨b, o, none⟩) l.length c, .int .i64 i] w (kal w (Rf.foldL l i)) := by
 have t28q0 := True.intro
 exact y10
theorem ba_app57 (a b : List UInt8) : (⟨a.toArray⟩ : ByteArray) ++ ⟨b.toArray⟩ = ⟨(a ++ b).toArray⟩ := by
 apply ByteArray.ext
 simp
theorem kly (b o c : Nat) (l : List St) (i : Nat) (s : St) (w : World) (h : ArgPl w (some ⟨b, o, none⟩) l) (hc : kac l = 0) (hs : l[i]? = some s) (htx : TxB l) (hop : s.op = [43, 43]) :
  Calls Tryz.prog 100 #[.slice (some ⟨b, o, none⟩) l.length c, .int .i64 i] w (kal w (Rf.foldL l i)) := by
 have hil := (gH hs).1
 have hbn := kc6 hc
 have hlen := hbn.1
 have hl : s.args.length = 2 := kae hc hs 2 (by rw [hop]; show (_ : Option Nat) = _; kernel_rfl)
 obtain ⟨R, hR⟩ := xE (Rf.foldL l i)
 rw [← hR]
 unfold Rf.foldL at hR
 rw [kad hs] at hR
 dsimp only at hR
 obtain ⟨As, cs, hv⟩ := h.vw hs
 have d0 := hv.x0
 have d1 := hv.x1
 have d2 := hv.x2
 have d3 := hv.x3
 have d4 := hv.x4
 rw [hop] at d0
 rw [hl] at d1
 obtain ⟨num, hnum⟩ := xE s.num
 obtain ⟨text, htext⟩ := xE s.text
 obtain ⟨ty, hty⟩ := xE s.ty
 obtain ⟨n, hn⟩ := xE l.length
 rw [← hnum] at d2
 rw [← htext] at d3
 rw [← hty] at d4
 have q0 : (i : Int) < (n : Int) := by omega
 have q1 : (0 : Int) ≤ (i : Int) := by omega
 obtain ⟨ba, oa, rfl, hba, hca⟩ := hv.ar (by omega)
 obtain ⟨j0, t0, hj0, hji0, ht0, ha0, hat0⟩ := kah hc hs (k := 0) (by omega)
 obtain ⟨A0, c0, hv0⟩ := h.vw ht0
 have q2 : (j0 : Int) < (n : Int) := by omega
 have q3 : (0 : Int) ≤ (j0 : Int) := by omega
 obtain ⟨o0, ho0⟩ := xE t0.op
 obtain ⟨n0, hn0⟩ := xE t0.num
 obtain ⟨x0, hx0⟩ := xE t0.text
 obtain ⟨y0, hy0⟩ := xE t0.ty
 obtain ⟨m0, hm0⟩ := xE t0.args.length
 obtain ⟨j1, t1, hj1, hji1, ht1, ha1, hat1⟩ := kah hc hs (k := 1) (by omega)
 obtain ⟨A1, c1, hv1⟩ := h.vw ht1
 have q4 : (j1 : Int) < (n : Int) := by omega
 have q5 : (0 : Int) ≤ (j1 : Int) := by omega
 obtain ⟨o1, ho1⟩ := xE t1.op
 obtain ⟨n1, hn1⟩ := xE t1.num
 obtain ⟨x1, hx1⟩ := xE t1.text
 obtain ⟨y1, hy1⟩ := xE t1.ty
 obtain ⟨m1, hm1⟩ := xE t1.args.length
 rw [ha0, ha1, hat0, hat1] at hR
 have htb0 := htx t0 (List.mem_of_getElem? ht0)
 have htb1 := htx t1 (List.mem_of_getElem? ht1)
 rw [← hx0] at htb0
 rw [← hx1] at htb1
 have HR : Hid (R = if o0 ≠ kai ∨ o1 ≠ kai ∨ 65536 < x0.length + x1.length then none else some (l.set i (Oz.mk kai [] 0 (x0 ++ x1) 3))) := hD (by
  rw [hR, hop, if_neg (by decide), if_neg (by decide), if_pos (by decide), ← ho0, ← ho1, ← hx0, ← hx1])
 have HS : Hid (∀ w', Below w.heap.size w w' → w'.cell? ⟨ba, oa, none⟩ = some (.int .i64 j0) ∧ w'.cell? ⟨ba, oa + 1, none⟩ = some (.int .i64 j1) ∧ w'.cell? ⟨b, o + j0 * 5, none⟩ = some (.string ⟨o0.toArray⟩) ∧ w'.cell? ⟨b, o + j0 * 5 + 1, none⟩ = some (.slice A0 m0 c0) ∧ w'.cell? ⟨b, o + j0 * 5 + 2, none⟩ = some (.int .i64 n0) ∧ w'.cell? ⟨b, o + j0 * 5 + 3, none⟩ = some (.string ⟨x0.toArray⟩) ∧ w'.cell? ⟨b, o + j0 * 5 + 4, none⟩ = some (.int .i64 y0) ∧ w'.cell? ⟨b, o + j1 * 5, none⟩ = some (.string ⟨o1.toArray⟩) ∧ w'.cell? ⟨b, o + j1 * 5 + 1, none⟩ = some (.slice A1 m1 c1) ∧ w'.cell? ⟨b, o + j1 * 5 + 2, none⟩ = some (.int .i64 n1) ∧ w'.cell? ⟨b, o + j1 * 5 + 3, none⟩ = some (.string ⟨x1.toArray⟩) ∧ w'.cell? ⟨b, o + j1 * 5 + 4, none⟩ = some (.int .i64 y1)) := hD (fun w' hb => by
  have v0 := hv0.below hb
  have v1 := hv1.below hb
  have k0 := hca w' hb 0 _ hj0
  rw [ho0, hn0, hx0, hy0, hm0, ho1, hn1, hx1, hy1, hm1]
  exact ⟨k0, hca w' hb 1 _ hj1, v0.x0, v0.x1, v0.x2, v0.x3, v0.x4, v1.x0, v1.x1, v1.x2, v1.x3, v1.x4⟩)
 have HWI : Hid (∀ w1, Below w.heap.size w w1 → Calls Tryz.prog 144 #[.slice (some ⟨b, o, none⟩) n c, .int .i64 i, .agg #[.string ⟨#[115, 116, 114, 105, 110, 103]⟩, .slice none 0 0, .int .i64 0, .string ⟨(x0 ++ x1).toArray⟩, .int .i64 3]] w1 (kbd w1 (l.set i (Oz.mk kai [] 0 (x0 ++ x1) 3)))) := hD (fun w1 hb1 => by
  have := kb3 (some ⟨b, o, none⟩) c l i (Oz.mk kai [] 0 (x0 ++ x1) 3) none 0 w1 (h.below hb1) (hbn.bd (by decide)) hil ⟨rfl, fun h => absurd (show (0 : Nat) < 0 from h) (by decide)⟩
  rwa [← hn] at this)
 rw [← hn]
 obtain ⟨w1, hw1⟩ := xE (w.alloc (.cells #[.string ⟨#[43, 43]⟩, .slice (some ⟨ba, oa, none⟩) 2 cs, .int .i64 num, .string ⟨text.toArray⟩, .int .i64 ty] 76))
 have HB1 := hD (show Below w.heap.size w w1 by rw [hw1]; exact kaa _ _)
 have HS1 := hD (show Blk w1 w.heap.size 76 #[.string ⟨#[43, 43]⟩, .slice (some ⟨ba, oa, none⟩) 2 cs, .int .i64 num, .string ⟨text.toArray⟩, .int .i64 ty] by rw [hw1]; exact Blk.new _ _ _)
 have HW1 := hD hw1
 clear h hc hs htx hop hil hbn hlen hl hR hv hnum htext hty hn hj0 hj1 ht0 ht1 ha0 ha1 hat0 hat1 hv0 hv1 hca hw1 ho0 hn0 hx0 hy0 hm0 ho1 hn1 hx1 hy1 hm1
 go_enter Tryz.func100, Tryz.ntmps100
 go_upto_region 2 with (fail)
 rw [← HW1.out]
 have s0 := HS1.out.cell 0
 simp only [gA, gB] at s0
 have HBD := hD (show Below w.heap.size w w1.drew from HB1.out.drew)
 have HSD := hD (show Blk w1.drew w.heap.size 76 #[.string ⟨#[43, 43]⟩, .slice (some ⟨ba, oa, none⟩) 2 cs, .int .i64 num, .string ⟨text.toArray⟩, .int .i64 ty] from HS1.out)
 have HSS0 : Hid (∀ w', Below w.heap.size w w' → Blk w' w.heap.size 76 #[.string ⟨#[43, 43]⟩, .slice (some ⟨ba, oa, none⟩) 2 cs, .int .i64 num, .string ⟨text.toArray⟩, .int .i64 ty] → (w'.cell? ⟨w.heap.size, 1, none⟩ = some (.slice (some ⟨ba, oa, none⟩) 2 cs) ∧ w'.cell? ⟨ba, oa, none⟩ = some (.int .i64 j0) ∧ w'.cell? ⟨ba, oa + 1, none⟩ = some (.int .i64 j1) ∧ w'.cell? ⟨b, o + j0 * 5, none⟩ = some (.string ⟨o0.toArray⟩) ∧ w'.cell? ⟨b, o + j0 * 5 + 1, none⟩ = some (.slice A0 m0 c0) ∧ w'.cell? ⟨b, o + j0 * 5 + 2, none⟩ = some (.int .i64 n0) ∧ w'.cell? ⟨b, o + j0 * 5 + 3, none⟩ = some (.string ⟨x0.toArray⟩) ∧ w'.cell? ⟨b, o + j0 * 5 + 4, none⟩ = some (.int .i64 y0) ∧ w'.cell? ⟨b, o + j1 * 5, none⟩ = some (.string ⟨o1.toArray⟩) ∧ w'.cell? ⟨b, o + j1 * 5 + 1, none⟩ = some (.slice A1 m1 c1) ∧ w'.cell? ⟨b, o + j1 * 5 + 2, none⟩ = some (.int .i64 n1) ∧ w'.cell? ⟨b, o + j1 * 5 + 3, none⟩ = some (.string ⟨x1.toArray⟩) ∧ w'.cell? ⟨b, o + j1 * 5 + 4, none⟩ = some (.int .i64 y1))) := hD (fun w' hb hs => by
  have s1 := hs.cell 1
  simp only [gA, gB, gC] at s1
  exact ⟨s1, HS.out w' hb⟩)
 have HSS := HSS0.out
 have HSC := fun (t : TypeId) (ca cb : Array Value) (u v : Value) (wc : World) (ht : kdA w t ca cb #[.string ⟨#[43, 43]⟩, .slice (some ⟨ba, oa, none⟩) 2 cs, .int .i64 num, .string ⟨text.toArray⟩, .int .i64 ty] u v wc) => (by
  obtain ⟨_, _, _, _, _, _, h5, h6⟩ := ht
  exact HSS0.out _ h6.out h5.out : (wc.cell? ⟨w.heap.size, 1, none⟩ = some (.slice (some ⟨ba, oa, none⟩) 2 cs) ∧ wc.cell? ⟨ba, oa, none⟩ = some (.int .i64 j0) ∧ wc.cell? ⟨ba, oa + 1, none⟩ = some (.int .i64 j1) ∧ wc.cell? ⟨b, o + j0 * 5, none⟩ = some (.string ⟨o0.toArray⟩) ∧ wc.cell? ⟨b, o + j0 * 5 + 1, none⟩ = some (.slice A0 m0 c0) ∧ wc.cell? ⟨b, o + j0 * 5 + 2, none⟩ = some (.int .i64 n0) ∧ wc.cell? ⟨b, o + j0 * 5 + 3, none⟩ = some (.string ⟨x0.toArray⟩) ∧ wc.cell? ⟨b, o + j0 * 5 + 4, none⟩ = some (.int .i64 y0) ∧ wc.cell? ⟨b, o + j1 * 5, none⟩ = some (.string ⟨o1.toArray⟩) ∧ wc.cell? ⟨b, o + j1 * 5 + 1, none⟩ = some (.slice A1 m1 c1) ∧ wc.cell? ⟨b, o + j1 * 5 + 2, none⟩ = some (.int .i64 n1) ∧ wc.cell? ⟨b, o + j1 * 5 + 3, none⟩ = some (.string ⟨x1.toArray⟩) ∧ wc.cell? ⟨b, o + j1 * 5 + 4, none⟩ = some (.int .i64 y1)))
 clear d0 d1 d2 d3 d4
 go_wp2_with fail
 clear s0
 go_cut [17, 18] (fun u v wc => kdA w 76 #[.string ⟨o0.toArray⟩, .slice A0 m0 c0, .int .i64 n0, .string ⟨x0.toArray⟩, .int .i64 y0] #[.string ⟨o1.toArray⟩, .slice A1 m1 c1, .int .i64 n1, .string ⟨x1.toArray⟩, .int .i64 y1] #[.string ⟨#[43, 43]⟩, .slice (some ⟨ba, oa, none⟩) 2 cs, .int .i64 num, .string ⟨text.toArray⟩, .int .i64 ty] u v wc)
 case first =>
  exact y43
 case rest =>
 obtain ⟨X, Y, rfl, rfl, HX, HY, HSc, HBc⟩ := hcut
 clear HSS HSC HBD HSD HB1 HS1 HSS0 HS HW1
 obtain ⟨u0, u1, u2, u3, u4, _⟩ := blk5 HX.out
 obtain ⟨v0, v1, v2, v3, v4, _⟩ := blk5 HY.out
 by_cases g0 : o0 = [115, 116, 114, 105, 110, 103]
 rotate_left
 ·
  have HRN : Hid (R = none) := hD (by rw [HR.out, if_pos (.inl g0)])
  have e0 : (o0 == [115, 116, 114, 105, 110, 103]) = false := beq_eq_false_iff_ne.2 g0
  go_wp2_with fail
  go_ret2
  unfold kal
  rw [HRN.out]
  exact ⟨HBc.out, rfl⟩
 obtain rfl : o0 = [115, 116, 114, 105, 110, 103] := g0
 by_cases g1 : o1 = [115, 116, 114, 105, 110, 103]
 rotate_left
 ·
  have HRN : Hid (R = none) := hD (by rw [HR.out, if_pos (.inr (.inl g1))])
  have e0 : (o1 == [115, 116, 114, 105, 110, 103]) = false := beq_eq_false_iff_ne.2 g1
  go_wp2_with fail
  go_ret2
  unfold kal
  rw [HRN.out]
  exact ⟨HBc.out, rfl⟩
 obtain rfl : o1 = [115, 116, 114, 105, 110, 103] := g1
 have hw := IntWalk.wrap64_in ((x0.length : Int) + (x1.length : Int)) (by omega)
 by_cases g2 : 65536 < x0.length + x1.length
 ·
  have HRN : Hid (R = none) := hD (by rw [HR.out, if_pos (.inr (.inr g2))])
  have e1 : (65536 : Int) < (x0.length : Int) + (x1.length : Int) := by omega
  go_wp2_with fail
  go_ret2
  unfold kal
  rw [HRN.out]
  exact ⟨HBc.out, rfl⟩
 have e1 : ¬ ((65536 : Int) < (x0.length : Int) + (x1.length : Int)) := by omega
 have HRN : Hid (R = some (l.set i (Oz.mk kai [] 0 (x0 ++ x1) 3))) := hD (by rw [HR.out, if_neg (by rintro (e | e | e); exact e rfl; exact e rfl; exact g2 e)])
 have hct : ∀ W : World, (Op.stringOp .add ⟨x0.toArray⟩ ⟨x1.toArray⟩).run Tryz.prog W = .ok (.string ⟨(x0 ++ x1).toArray⟩) W := fun W => by
  rw [run_string_add_sum W _ _ (by show x0.toArray.size + x1.toArray.size ≤ _; simp; omega)]
  exact congrArg (fun x => Result.ok (Value.string x) W) (ba_app57 x0 x1)
 have HW7 := hD (HWI.out wc HBc.out)
 obtain ⟨LR, hLR⟩ := xE (l.set i (Oz.mk kai [] 0 (x0 ++ x1) 3))
 rw [← hLR] at HW7 HRN
 obtain ⟨X2, hX2⟩ := xE (x0 ++ x1)
 rw [← hX2] at HW7 hct
 clear hLR g2 hX2
 go_wp2_with fail
 refine HW7.out.mono ?_
 rintro e wz ⟨hbz, Az, cz, he, hcz, hpz⟩
 have HBZ := hD (HBc.out.trans (hbz.mono HBc.out.size))
 obtain ⟨mz, hmz⟩ := xE LR.length
 rw [← hmz] at he
 subst he
 have HPZ := hD hpz
 have HCZ := hD hcz
 have HMZ := hD hmz
 clear hbz hpz hcz hmz
 go_wp2_with fail
 go_ret2
 unfold kal
 rw [HRN.out]
 exact ⟨HBZ.out, Az, cz, by rw [HMZ.out]; rfl, HCZ.out, HPZ.out⟩
theorem kiF (b o c : Nat) (l : List St) (i : Nat) (s : St) (w : World) (h : ArgPl w (some ⟨b, o, none⟩) l) (hc : kac l = 0) (hs : l[i]? = some s) (g0 : s.op ≠ [109, 105, 110]) (g1 : s.op ≠ [109, 97, 120]) (g2 : s.op ≠ [43]) (g3 : s.op ≠ [45]) (g4 : s.op ≠ [42]) (g5 : s.op ≠ [108, 101, 110]) (g6 : s.op ≠ [108, 105, 110, 101, 115]) (g7 : s.op ≠ [43, 43]) :
  Calls Tryz.prog 100 #[.slice (some ⟨b, o, none⟩) l.length c, .int .i64 i] w (kal w (Rf.foldL l i)) := by
 have hil := (gH hs).1
 have hR : Rf.foldL l i = none := by
  unfold Rf.foldL
  rw [kad hs]
  dsimp only
  rw [if_neg (by rintro (e | e | e | e | e); exact g0 e; exact g1 e; exact g2 e; exact g3 e; exact g4 e), if_neg (by rintro (e | e); exact g5 e; exact g6 e), if_neg (show ¬ s.op = Oz.oCat from g7)]
 rw [hR]
 obtain ⟨As, cs, hv⟩ := h.vw hs
 obtain ⟨op, hop⟩ := xE s.op
 obtain ⟨m, hm⟩ := xE s.args.length
 obtain ⟨num, hnum⟩ := xE s.num
 obtain ⟨text, htext⟩ := xE s.text
 obtain ⟨ty, hty⟩ := xE s.ty
 obtain ⟨n, hn⟩ := xE l.length
 have d0 := hv.x0
 have d1 := hv.x1
 have d2 := hv.x2
 have d3 := hv.x3
 have d4 := hv.x4
 rw [← hop] at d0
 rw [← hm] at d1
 rw [← hnum] at d2
 rw [← htext] at d3
 rw [← hty] at d4
 have q0 : (i : Int) < (n : Int) := by omega
 have q1 : (0 : Int) ≤ (i : Int) := by omega
 have e0 : (op == [109, 105, 110]) = false := beq_eq_false_iff_ne.2 (by rw [hop]; exact g0)
 have e1 : (op == [109, 97, 120]) = false := beq_eq_false_iff_ne.2 (by rw [hop]; exact g1)
 have e2 : (op == [43]) = false := beq_eq_false_iff_ne.2 (by rw [hop]; exact g2)
 have e3 : (op == [45]) = false := beq_eq_false_iff_ne.2 (by rw [hop]; exact g3)
 have e4 : (op == [42]) = false := beq_eq_false_iff_ne.2 (by rw [hop]; exact g4)
 have e5 : (op == [108, 101, 110]) = false := beq_eq_false_iff_ne.2 (by rw [hop]; exact g5)
 have e6 : (op == [108, 105, 110, 101, 115]) = false := beq_eq_false_iff_ne.2 (by rw [hop]; exact g6)
 have e7 : (op == [43, 43]) = false := beq_eq_false_iff_ne.2 (by rw [hop]; exact g7)
 rw [← hn]
 have HB := hD (fun o : Obj => kaa w o)
 clear h hc hs hil hR hv hop hm hnum htext hty hn g0 g1 g2 g3 g4 g5 g6 g7
 go_enter Tryz.func100, Tryz.ntmps100
 go_wp2_with fail
 go_ret2
 unfold kal
 exact ⟨HB.out _, rfl⟩
theorem klz (A : Option Addr) (c : Nat) (l : List St) (i : Nat) (s : St) (w : World) (htx : TxB l) (h : ArgPl w A l) (hc : kac l = 0) (hs : l[i]? = some s) :
  Calls Tryz.prog 100 #[.slice A l.length c, .int .i64 i] w (kal w (Rf.foldL l i)) := by
 have hil := (gH hs).1
 obtain ⟨b, o, rfl⟩ := h.base (by omega)
 by_cases g0 : s.op = [109, 105, 110]
 ·
  exact kdr b o c l i s w h hc hs (.inl g0)
 by_cases g1 : s.op = [109, 97, 120]
 ·
  exact kdr b o c l i s w h hc hs (.inr (.inl g1))
 by_cases g2 : s.op = [43]
 ·
  exact kdr b o c l i s w h hc hs (.inr (.inr (.inl g2)))
 by_cases g3 : s.op = [45]
 ·
  exact kdr b o c l i s w h hc hs (.inr (.inr (.inr (.inl g3))))
 by_cases g4 : s.op = [42]
 ·
  exact kdr b o c l i s w h hc hs (.inr (.inr (.inr (.inr g4))))
 by_cases g5 : s.op = [108, 101, 110]
 ·
  exact klx b o c l i s w h hc hs g5
 by_cases g6 : s.op = [108, 105, 110, 101, 115]
 ·
  exact kiG b o c l i s w h hc hs g6
 by_cases g7 : s.op = [43, 43]
 ·
  exact kly b o c l i s w h hc hs htx g7
 exact kiF b o c l i s w h hc hs g0 g1 g2 g3 g4 g5 g6 g7
end Go.Proofs.YtamhdmkolfmmdaaGreatDoor
