/- The walk of the document's targets at the other steps (printed by gen_rwk.py). The walks of the document's targets at cut, not and all else, and of its rule neutral (printed by gen_rwy.py). -/
import Derived.Test.YtamhdmkolfmmdaaGreatDoorsbq
import Derived.Test.YtamhdmkolfmmdaaGreatDoorsaa
import Derived.Test.YtamhdmkolfmmdaaGreatDoorsbo
set_option linter.unusedVariables false
set_option linter.unusedSimpArgs false
namespace Go.Proofs.YtamhdmkolfmmdaaGreatDoor
open Go.RowKit
set_option maxRecDepth 100000
set_option maxHeartbeats 8000000
theorem y12 {P : Prop} (h : P := by
 exact y58) : P := h
theorem kjM (a c x y : List UInt8) : decide (a = x ∧ c = y) = ((a == x) && (c == y)) := by
 by_cases h : a = x
 ·
  by_cases h2 : c = y
  ·
   rw [decide_eq_true ⟨h, h2⟩, beq_iff_eq.2 h, beq_iff_eq.2 h2]; rfl
  ·
   rw [decide_eq_false (fun e => h2 e.2), beq_eq_false_iff_ne.2 h2, Bool.and_false]
 ·
  rw [decide_eq_false (fun e => h e.1), beq_eq_false_iff_ne.2 h, Bool.false_and]
theorem tg_min (b o c : Nat) (l : List St) (i : Nat) (s : St) (w : World) (h : ArgPl w (some ⟨b, o, none⟩) l) (hc : kac l = 0) (hs : l[i]? = some s) (hop : s.op = [109, 105, 110]) (hl : 2 ≤ s.args.length) :
  Calls Tryz.prog 146 #[.slice (some ⟨b, o, none⟩) l.length c, .int .i64 i] w (kaS w (Rf.targetsL l i)) := by
 have t11q4 := True.intro
 exact y1
theorem tg_max (b o c : Nat) (l : List St) (i : Nat) (s : St) (w : World) (h : ArgPl w (some ⟨b, o, none⟩) l) (hc : kac l = 0) (hs : l[i]? = some s) (hop : s.op = [109, 97, 120]) (hl : 2 ≤ s.args.length) :
  Calls Tryz.prog 146 #[.slice (some ⟨b, o, none⟩) l.length c, .int .i64 i] w (kaS w (Rf.targetsL l i)) := by
 have t11q3 := True.intro
 exact y1
theorem tg_and (b o c : Nat) (l : List St) (i : Nat) (s : St) (w : World) (h : ArgPl w (some ⟨b, o, none⟩) l) (hc : kac l = 0) (hs : l[i]? = some s) (hop : s.op = [97, 110, 100]) (hl : 2 ≤ s.args.length) :
  Calls Tryz.prog 146 #[.slice (some ⟨b, o, none⟩) l.length c, .int .i64 i] w (kaS w (Rf.targetsL l i)) := by
 have t11q2 := True.intro
 exact y1
theorem tg_or (b o c : Nat) (l : List St) (i : Nat) (s : St) (w : World) (h : ArgPl w (some ⟨b, o, none⟩) l) (hc : kac l = 0) (hs : l[i]? = some s) (hop : s.op = [111, 114]) (hl : 2 ≤ s.args.length) :
  Calls Tryz.prog 146 #[.slice (some ⟨b, o, none⟩) l.length c, .int .i64 i] w (kaS w (Rf.targetsL l i)) := by
 have t11q1 := True.intro
 exact y1
theorem tg_union (b o c : Nat) (l : List St) (i : Nat) (s : St) (w : World) (h : ArgPl w (some ⟨b, o, none⟩) l) (hc : kac l = 0) (hs : l[i]? = some s) (hop : s.op = [117, 110, 105, 111, 110]) (hl : 2 ≤ s.args.length) :
  Calls Tryz.prog 146 #[.slice (some ⟨b, o, none⟩) l.length c, .int .i64 i] w (kaS w (Rf.targetsL l i)) := by
 have t11q5 := True.intro
 exact y1
theorem klg (b o c : Nat) (l : List St) (i : Nat) (s : St) (w : World) (h : ArgPl w (some ⟨b, o, none⟩) l) (hc : kac l = 0) (hs : l[i]? = some s) (hop : s.op = [119, 105, 116, 104, 105, 110]) (hl : 2 ≤ s.args.length) :
  Calls Tryz.prog 146 #[.slice (some ⟨b, o, none⟩) l.length c, .int .i64 i] w (kaS w (Rf.targetsL l i)) := by
 have t11q6 := True.intro
 exact y1
theorem tg_cat (b o c : Nat) (l : List St) (i : Nat) (s : St) (w : World) (h : ArgPl w (some ⟨b, o, none⟩) l) (hc : kac l = 0) (hs : l[i]? = some s) (hop : s.op = [43, 43]) (hl : 2 ≤ s.args.length) :
  Calls Tryz.prog 146 #[.slice (some ⟨b, o, none⟩) l.length c, .int .i64 i] w (kaS w (Rf.targetsL l i)) := by
 have t33q0 := True.intro
 exact y12
theorem tg_few (b o c : Nat) (l : List St) (i : Nat) (s : St) (w : World) (h : ArgPl w (some ⟨b, o, none⟩) l) (hc : kac l = 0) (hs : l[i]? = some s) (hop : s.op ≠ Oz.oNot) (hl : s.args.length < 2) :
  Calls Tryz.prog 146 #[.slice (some ⟨b, o, none⟩) l.length c, .int .i64 i] w (kaS w (Rf.targetsL l i)) := by
 exact y12
theorem tg_other (b o c : Nat) (l : List St) (i : Nat) (s : St) (w : World) (h : ArgPl w (some ⟨b, o, none⟩) l) (hc : kac l = 0) (hs : l[i]? = some s) (hop : s.op ≠ Oz.oNot) (hl : 2 ≤ s.args.length) (h0 : s.op ≠ Oz.oAdd) (h1 : s.op ≠ Oz.oSub) (h2 : s.op ≠ Oz.oMul) (h3 : s.op ≠ Oz.oMin) (h4 : s.op ≠ Oz.oMax) (h5 : s.op ≠ Oz.oAnd) (h6 : s.op ≠ Oz.oOr) (h7 : s.op ≠ Oz.oUnion) (h8 : s.op ≠ Oz.oWithin) (h9 : s.op ≠ Oz.oCat) (h10 : s.op ≠ Oz.oRep) (h11 : s.op ≠ Oz.oCut) :
  Calls Tryz.prog 146 #[.slice (some ⟨b, o, none⟩) l.length c, .int .i64 i] w (kaS w (Rf.targetsL l i)) := by
 have t11q9 := True.intro
 exact y1
theorem tg_not (b o c : Nat) (l : List St) (i : Nat) (s : St) (w : World) (h : ArgPl w (some ⟨b, o, none⟩) l) (hc : kac l = 0) (hs : l[i]? = some s) (hop : s.op = [110, 111, 116]) :
  Calls Tryz.prog 146 #[.slice (some ⟨b, o, none⟩) l.length c, .int .i64 i] w (kaS w (Rf.targetsL l i)) := by
 have hl : s.args.length = 1 := kae hc hs 1 (by rw [hop]; show (_ : Option Nat) = _; kernel_rfl)
 have hil := (gH hs).1
 have hlen := (kcW hc).len
 obtain ⟨As, cs, hv⟩ := h.vw hs
 have x0 := hv.x0
 have x1 := hv.x1
 have x2 := hv.x2
 have x3 := hv.x3
 have x4 := hv.x4
 obtain ⟨TS, hTS⟩ := xE (Rf.targetsL l i)
 rw [← hTS]
 unfold Rf.targetsL at hTS
 rw [kad hs] at hTS
 dsimp only at hTS
 obtain ⟨op, hop'⟩ := xE s.op
 obtain ⟨num, hnum⟩ := xE s.num
 obtain ⟨text, htext⟩ := xE s.text
 obtain ⟨ty, hty⟩ := xE s.ty
 obtain ⟨m, hm⟩ := xE s.args.length
 obtain ⟨n, hn⟩ := xE l.length
 rw [← hop'] at x0
 rw [← hnum] at x2
 rw [← htext] at x3
 rw [← hty] at x4
 rw [← hm] at x1
 have q0 : (i : Int) < (n : Int) := by omega
 have q1 : (0 : Int) ≤ (i : Int) := by omega
 rw [← hn]
 obtain ⟨j0, t0, hj0, hji0, ht0, ha0, hat0⟩ := kah hc hs (k := 0) (by omega)
 rw [if_pos (show s.op = Oz.oNot from hop), ha0, hat0] at hTS
 obtain ⟨A0, c0, hv0⟩ := h.vw ht0
 obtain ⟨ba, oa, rfl, hba, hca⟩ := hv.ar (by omega)
 have HA0 := hD (fun w' hb => (show w'.cell? ⟨ba, oa, none⟩ = some (.int .i64 j0) from hca w' hb 0 _ hj0))
 have p0 : (0 : Int) < (m : Int) := by omega
 have p3 : (j0 : Int) < (n : Int) := by omega
 have p4 : (0 : Int) ≤ (j0 : Int) := by omega
 obtain rfl : op = [110, 111, 116] := hop'.trans hop
 have HV0 := hD hv0
 obtain ⟨top, htop⟩ := xE t0.op
 obtain ⟨tnum, htnum⟩ := xE t0.num
 obtain ⟨ttext, httext⟩ := xE t0.text
 obtain ⟨tty, htty⟩ := xE t0.ty
 obtain ⟨tm, htm⟩ := xE t0.args.length
 have HC0 : Hid (∀ w', Below w.heap.size w w' → w'.cell? ⟨b, o + j0 * 5, none⟩ = some (.string ⟨top.toArray⟩) ∧ w'.cell? ⟨b, o + j0 * 5 + 1, none⟩ = some (.slice A0 tm c0) ∧ w'.cell? ⟨b, o + j0 * 5 + 2, none⟩ = some (.int .i64 tnum) ∧ w'.cell? ⟨b, o + j0 * 5 + 3, none⟩ = some (.string ⟨ttext.toArray⟩) ∧ w'.cell? ⟨b, o + j0 * 5 + 4, none⟩ = some (.int .i64 tty)) := hD (fun w' hb => by
  obtain ⟨_, y0, y1, y2, y3, y4, _⟩ := hv0.below hb
  rw [htop, htnum, httext, htty, htm]
  exact ⟨y0, y1, y2, y3, y4⟩)
 by_cases hn2 : t0.op = Oz.oNot
 rotate_left
 ·
  have HTS : Hid (TS = []) := hD (by rw [hTS, if_neg hn2])
  have e0 : (top == [110, 111, 116]) = false := beq_eq_false_iff_ne.2 (by rw [htop]; exact hn2)
  clear h hc hs hil hlen hv hTS hop' hnum htext hty hm hn hop hl hj0 ha0 hat0 ht0 hv0 hca htop htnum httext htty htm HV0 hn2
  go_enter Tryz.func146, Tryz.ntmps146
  go_upto_region 3 with (fail)
  obtain ⟨w1, hw1⟩ := xE (w.alloc (.cells #[.string ⟨#[110, 111, 116]⟩, .slice (some ⟨ba, oa, none⟩) m cs, .int .i64 num, .string ⟨text.toArray⟩, .int .i64 ty] 76))
  have hb1 : Below w.heap.size w w1 := by rw [hw1]; exact kaa _ _
  have HB1 := hD hb1
  have HS1 := hD (show Blk w1 w.heap.size 76 #[.string ⟨#[110, 111, 116]⟩, .slice (some ⟨ba, oa, none⟩) m cs, .int .i64 num, .string ⟨text.toArray⟩, .int .i64 ty] by rw [hw1]; exact Blk.new _ _ _)
  have hz1 : w.heap.size + 1 ≤ w1.heap.size := by rw [hw1]; simp
  rw [← hw1]
  have s0 := HS1.out.cell 0
  have s1 := HS1.out.cell 1
  simp only [gA, gB, gC] at s0 s1
  clear hw1 x0 x1 x2 x3 x4 hb1
  have a0 := HA0.out w1 HB1.out
  obtain ⟨y0, y1, y2, y3, y4⟩ := HC0.out w1 HB1.out
  have HBE := hD (fun o => HB1.out.alloc HB1.out.size o)
  go_wp2_with fail
  go_ret
  unfold kaS
  rw [HTS.out]
  exact ⟨HBE.out _, none, 0, 0, rfl, rfl, Nat.zero_le _, ⟨rfl, fun h => absurd h (by decide)⟩⟩
 have hl2 : t0.args.length = 1 := kae hc ht0 1 (by rw [hn2]; show (_ : Option Nat) = _; kernel_rfl)
 obtain ⟨k0, u0, hk0, hkj0, _, hb0, _⟩ := kah hc ht0 (k := 0) (by omega)
 rw [if_pos hn2, hb0] at hTS
 obtain ⟨bt, ot, rfl, hbt, hct⟩ := hv0.ar (by omega)
 have HK0 := hD (fun w' hb => (show w'.cell? ⟨bt, ot, none⟩ = some (.int .i64 k0) from hct w' hb 0 _ hk0))
 have HTS : Hid (TS = [k0]) := hD (by rw [hTS, Int.toNat_natCast])
 obtain rfl : top = [110, 111, 116] := htop.trans hn2
 have p7 : (0 : Int) < (tm : Int) := by omega
 clear h hc hs hil hlen hv hTS hop' hnum htext hty hm hn hop hl hj0 ha0 hat0 ht0 hv0 hca htop htnum httext htty htm HV0 hn2 hl2 hk0 hb0 hct
 go_enter Tryz.func146, Tryz.ntmps146
 go_upto_region 3 with (fail)
 obtain ⟨w1, hw1⟩ := xE (w.alloc (.cells #[.string ⟨#[110, 111, 116]⟩, .slice (some ⟨ba, oa, none⟩) m cs, .int .i64 num, .string ⟨text.toArray⟩, .int .i64 ty] 76))
 have hb1 : Below w.heap.size w w1 := by rw [hw1]; exact kaa _ _
 have HB1 := hD hb1
 have HS1 := hD (show Blk w1 w.heap.size 76 #[.string ⟨#[110, 111, 116]⟩, .slice (some ⟨ba, oa, none⟩) m cs, .int .i64 num, .string ⟨text.toArray⟩, .int .i64 ty] by rw [hw1]; exact Blk.new _ _ _)
 have hz1 : w.heap.size + 1 ≤ w1.heap.size := by rw [hw1]; simp
 rw [← hw1]
 have s0 := HS1.out.cell 0
 have s1 := HS1.out.cell 1
 simp only [gA, gB, gC] at s0 s1
 clear hw1 x0 x1 x2 x3 x4 hb1
 have a0 := HA0.out w1 HB1.out
 obtain ⟨y0, y1, y2, y3, y4⟩ := HC0.out w1 HB1.out
 go_upto_region 5 with (fail)
 obtain ⟨w2, hw2⟩ := xE (w1.alloc (.cells #[.string ⟨#[110, 111, 116]⟩, .slice (some ⟨bt, ot, none⟩) tm c0, .int .i64 tnum, .string ⟨ttext.toArray⟩, .int .i64 tty] 76))
 have hb2 : Below w.heap.size w w2 := by rw [hw2]; exact HB1.out.alloc HB1.out.size _
 have hx2 : Blk w2 w1.heap.size 76 #[.string ⟨#[110, 111, 116]⟩, .slice (some ⟨bt, ot, none⟩) tm c0, .int .i64 tnum, .string ⟨ttext.toArray⟩, .int .i64 tty] := by rw [hw2]; exact Blk.new _ _ _
 rw [← hw2]
 obtain ⟨v0, v1, v2, v3, v4, _⟩ := blk5 hx2
 have k0' := HK0.out w2 hb2
 have HB2 := hD hb2
 have hzz : w.heap.size ≤ w2.heap.size := hb2.size
 have ho4 : (w2.alloc (.cells #[.int .i64 k0] 3)).ownsRow w.heap.size 3 1 (.slice none 0 0) 0 [] := World.ownsRow_nil _ _ _ _
 have hrr : Reads (w2.alloc (.cells #[.int .i64 k0] 3)) (w2.heap.size + 1) 1 (some ⟨w2.heap.size, 0, none⟩) 1 [.int .i64 k0] := Reads.of_alloc w2 #[.int .i64 k0] 3 (by omega) rfl
 have hone : ∀ u ∈ ([.int .i64 k0] : List Value), u.oneCell' = true := by simp [Value.oneCell']
 have hq1 : 0 + 1 ≤ maxLen := by unfold maxLen; omega
 have hq2 : (0 + 1) * 8 ≤ 140737488355328 := by omega
 have hq3 : w.heap.size ≤ (w2.alloc (.cells #[.int .i64 k0] 3)).heap.size := by simp; omega
 obtain ⟨i1, hinf1, hz10, hz11, hz12⟩ := info_parts kcK
 clear hw2 hb2 hx2 y0 y1 y2 y3 y4 s0 s1 a0
 go_wp2_with (at_builtin; refine kam _ rfl (.tmp 28) (.tmp 33) 47 rfl w.heap.size 3 i1 (.int .i64 0) 1 8 Tryz.underlying47 hinf1 hz10 hz11 hz12 rfl (by decide) (.slice none 0 0) 0 [] rfl ho4 _ _ _ _ [.int .i64 k0] rfl hrr hone hq1 hq2 hq3 ?_)
 intro v5 w5 hown5 hg5 hv5
 obtain ⟨A5, c5, rfl⟩ := kak hown5
 have HO5 := hD hown5
 have HB5 := hD ((HB2.out.alloc hzz (.cells #[.int .i64 k0] 3)).grown hg5 hq3 (fun q e => by cases e))
 clear hown5 hg5 hv5 ho4 hrr hone hq1 hq2 hq3 hinf1 hz10 hz11 hz12
 go_wp2_with fail
 go_ret
 unfold kaS
 rw [HTS.out]
 exact ⟨HB5.out, A5, _, c5, rfl, rfl, (show (1 : Nat) ≤ 2 by decide), (kbA (B := 0) HO5.out).reads⟩
theorem tg_cut (b o c : Nat) (l : List St) (i : Nat) (s : St) (w : World) (h : ArgPl w (some ⟨b, o, none⟩) l) (hc : kac l = 0) (hs : l[i]? = some s) (hop : s.op = [99, 117, 116]) (hl : 2 ≤ s.args.length) :
  Calls Tryz.prog 146 #[.slice (some ⟨b, o, none⟩) l.length c, .int .i64 i] w (kaS w (Rf.targetsL l i)) := by
 have t11q0 := True.intro
 exact y1
theorem kiu (b o c : Nat) (l : List St) (i : Nat) (s : St) (w : World) (h : ArgPl w (some ⟨b, o, none⟩) l) (hc : kac l = 0) (hs : l[i]? = some s) :
  Calls Tryz.prog 146 #[.slice (some ⟨b, o, none⟩) l.length c, .int .i64 i] w (kaS w (Rf.targetsL l i)) := by
 by_cases hn : s.op = Oz.oNot
 ·
  exact tg_not b o c l i s w h hc hs hn
 by_cases hl : s.args.length < 2
 ·
  exact tg_few b o c l i s w h hc hs hn hl
 have hl2 : 2 ≤ s.args.length := by omega
 by_cases h0 : s.op = Oz.oAdd
 ·
  exact tg_add b o c l i s w h hc hs h0 hl2
 by_cases h1 : s.op = Oz.oSub
 ·
  exact tg_sub b o c l i s w h hc hs h1 hl2
 by_cases h2 : s.op = Oz.oMul
 ·
  exact tg_mul b o c l i s w h hc hs h2 hl2
 by_cases h3 : s.op = Oz.oMin
 ·
  exact tg_min b o c l i s w h hc hs h3 hl2
 by_cases h4 : s.op = Oz.oMax
 ·
  exact tg_max b o c l i s w h hc hs h4 hl2
 by_cases h5 : s.op = Oz.oAnd
 ·
  exact tg_and b o c l i s w h hc hs h5 hl2
 by_cases h6 : s.op = Oz.oOr
 ·
  exact tg_or b o c l i s w h hc hs h6 hl2
 by_cases h7 : s.op = Oz.oUnion
 ·
  exact tg_union b o c l i s w h hc hs h7 hl2
 by_cases h8 : s.op = Oz.oWithin
 ·
  exact klg b o c l i s w h hc hs h8 hl2
 by_cases h9 : s.op = Oz.oCat
 ·
  exact tg_cat b o c l i s w h hc hs h9 hl2
 by_cases h10 : s.op = Oz.oRep
 ·
  exact tg_rep b o c l i s w h hc hs h10 hl2
 by_cases h11 : s.op = Oz.oCut
 ·
  exact tg_cut b o c l i s w h hc hs h11 hl2
 exact tg_other b o c l i s w h hc hs hn hl2 h0 h1 h2 h3 h4 h5 h6 h7 h8 h9 h10 h11
def NtRel (w : World) (l : List St) (i : Nat) (ts : List Nat) (f : Nat) (v : Value) (wr : World) : Prop := ∃ p : Nat, v = .int .i64 p ∧ p ≤ ts.length ∧ ts.length - p < f ∧ Hid (∀ (q : Nat) x, q < p → ts[q]? = some x → Rf.replaceL l i x = none) ∧ Hid (Below w.heap.size w wr)
theorem khC (A : Option Addr) (c : Nat) (l : List St) (i : Nat) (s : St) (w : World) (h : ArgPl w A l) (hcap : l.length ≤ c) (hc : kac l = 0) (hs : l[i]? = some s) :
  Calls Tryz.prog 101 #[.slice A l.length c, .int .i64 i] w (kal w (Rf.neutralL l i)) := by
 have hil := (gH hs).1
 obtain ⟨b, o, rfl⟩ := h.base (by omega)
 obtain ⟨R, hR⟩ := xE (Rf.neutralL l i)
 rw [← hR]
 unfold Rf.neutralL at hR
 have HTG := hD (kiu b o c l i s w h hc hs)
 have HLT := hD (tg_lt hc hs)
 have HA := hD h
 have HBD := hD (kcW hc)
 obtain ⟨ts, hts⟩ := xE (Rf.targetsL l i)
 rw [← hts] at HTG HLT hR
 have HR := hD hR
 have HCAP := hD hcap
 have HIL := hD hil
 obtain ⟨n, hn⟩ := xE l.length
 have HN := hD hn
 rw [← hn] at HTG ⊢
 clear h hcap hc hs hil hR hts hn
 go_enter Tryz.func101, Tryz.ntmps101
 go_wp2_with fail
 refine HTG.out.mono ?_
 rintro e w1 ⟨hb1, A1, n1, c1, rfl, hn1, hn2, hr1⟩
 have HB1 := hD hb1
 have HR1 := hD hr1
 have HN1 := hD hn1
 clear hb1 hr1 hn1 HTG
 go_wp2_with fail
 go_loopg [7, 8, 9, 14] (n1 + 1) (fun f _ _ _ v wr => NtRel w l i ts f v wr ∧ Hid (Below w1.heap.size w1 wr))
 case atStart => exact ⟨⟨0, rfl, by omega, by have := HN1.out; omega, hD (fun q x hq _ => by omega), HB1⟩, hD (Below.refl _ _)⟩
 case round =>
  obtain ⟨⟨p, rfl, hp, hpf, HNO, HB⟩, HBW⟩ := hrel
  obtain ⟨f, rfl⟩ : ∃ f, gk = f + 1 := ⟨gk - 1, by omega⟩
  rw [← HN1.out] at hp hpf
  by_cases hlt : p < n1
  ·
   obtain ⟨j, hj⟩ : ∃ j, ts[p]? = some j := ⟨ts[p]'(by rw [← HN1.out]; exact hlt), List.getElem?_eq_getElem _⟩
   have hji := HLT.out j (List.mem_of_getElem? hj)
   obtain ⟨ba, oa, rfl, hba, hca⟩ := (HR1.out.below HBW.out).form (by omega)
   have y1 := hca p (.int .i64 j) (by unfold ntC; rw [List.getElem?_map, hj]; rfl)
   have p0 : (p : Int) < (n1 : Int) := by omega
   have p1 : (0 : Int) ≤ (p : Int) := by omega
   have hrp := kbN (some ⟨b, o, none⟩) c l i j wr (HA.out.below HB.out) HBD.out HCAP.out HIL.out hji
   obtain ⟨r, hr⟩ := xE (Rf.replaceL l i j)
   rw [← hr, ← HN.out] at hrp
   have HRP := hD hrp
   have HRR := hD hr
   have HJ := hD hj
   clear hrp hr hj hca
   go_wp2_with fail
   refine HRP.out.mono ?_
   rintro e w2 ⟨hb2, h2⟩
   have HB2 := hD (HB.out.trans (hb2.mono HB.out.size))
   have HBW2 := hD (HBW.out.trans (hb2.mono HBW.out.size))
   clear hb2 HRP y1
   cases r with
   | none =>
    have h2 : e = .returned (.tuple #[.slice none 0 0, .bool false]) := h2
    subst h2
    have HNO2 : Hid (∀ (q : Nat) x, q < p + 1 → ts[q]? = some x → Rf.replaceL l i x = none) := hD (fun q x hq hx => by
     by_cases e : q = p
     ·
      subst e
      have := hx.symm.trans HJ.out
      injection this with this
      rw [this]
      exact HRR.out.symm
     ·
      exact HNO.out q x (by omega) hx)
    go_wp2_with fail
    go_roundg f
    case measure => omega
    case rel => exact ⟨⟨p + 1, by go_num, by rw [← HN1.out]; omega, by rw [← HN1.out]; omega, HNO2, HB2⟩, HBW2⟩
   | some L =>
    obtain ⟨Az, cz, he, hcz, hpz⟩ := h2
    have HRN : Hid (R = some L) := hD (by rw [HR.out]; exact fs_at HNO.out HJ.out HRR.out.symm)
    obtain ⟨mz, hmz⟩ := xE L.length
    rw [← hmz] at he
    subst he
    have HPZ := hD hpz
    have HCZ := hD hcz
    have HMZ := hD hmz
    clear hpz hcz hmz
    go_wp2_with fail
    go_ret2
    unfold kal
    rw [HRN.out]
    exact ⟨HB2.out, Az, cz, by rw [HMZ.out]; rfl, HCZ.out, HPZ.out⟩
  ·
   have hpn : p = n1 := by omega
   subst hpn
   have p0 : ¬ ((p : Int) < (p : Int)) := by omega
   have HRN : Hid (R = none) := hD (by rw [HR.out]; exact kgk (fun q x hq hx => HNO.out q x (by rw [HN1.out]; exact hq) hx))
   go_wp2_with fail
   go_ret2
   unfold kal
   rw [HRN.out]
   exact ⟨HB.out, rfl⟩
end Go.Proofs.YtamhdmkolfmmdaaGreatDoor
