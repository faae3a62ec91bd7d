/- The walk of is of the laws on optimize: a plan has exactly the steps that are given (printed by gen_ori.py out of XPpI). The walks of optimize.Step at a plan of one number and at no plan, and of awake. The walks of awake and of the law OptimizeRules. -/
import Derived.Test.YtniefnjcimempaarBase
import Derived.Test.YtniefnjcimempaarRzB
import Derived.Test.YtniefnjcimempaarRm
import Derived.Lib.QuietBelow
import Derived.Deep.Cut
import Derived.Deep.LoopGhost
import Derived.IntWalk
import Derived.BigQuiet
import Derived.Test.YtniefnjcimempaarRy3
namespace Go.Proofs.Ytniefnjcimempaa
open Go.RowKit
def IoRl (w : World) (n f : Nat) (i : Value) (wr : World) : Prop := ∃ k : Nat, i = .int .i64 k ∧ k ≤ n ∧ n - k < f ∧ Hid (Below w.heap.size w wr)
set_option maxRecDepth 100000 in
theorem ints_o (A B : Option Addr) (c d : Nat) (xs : List Int) (w : World) (hlim : xs.length ≤ 100000) (h1 : Reads w w.heap.size 1 A xs.length (xs.map (Value.int .i64))) (h2 : Reads w w.heap.size 1 B xs.length (xs.map (Value.int .i64))) :
    Calls Try.prog 39 #[.slice A xs.length c, .slice B xs.length d] w (AwEnd w) := by
  have H1 := Lib.hid h1
  have H2 := Lib.hid h2
  obtain ⟨n, hn⟩ : ∃ n, n = xs.length := ⟨_, rfl⟩
  have HN := Lib.hid hn
  rw [← hn] at H1 H2 hlim ⊢
  clear h1 h2 hn
  go_enter Try.func39, Try.ntmps39
  go_wp2_with fail
  go_loopg [5] (n + 1) (fun f i wr => IoRl w n f i wr)
  case atStart => exact ⟨0, rfl, by omega, by omega, Lib.hid (Below.refl _ _)⟩
  case round =>
    obtain ⟨k, rfl, hk, hkf, HB⟩ := hrel
    obtain ⟨f, rfl⟩ : ∃ f, gk = f + 1 := ⟨gk - 1, by omega⟩
    by_cases hlt : k < n
    · obtain ⟨x, hx⟩ : ∃ x, xs[k]? = some x := ⟨xs[k]'(by have := HN.out; omega), List.getElem?_eq_getElem _⟩
      obtain ⟨ba, oa, rfl, _, hca⟩ := (H1.out.below HB.out).form (by omega)
      obtain ⟨bb, ob, rfl, _, hcb⟩ := (H2.out.below HB.out).form (by omega)
      have z1 := hca k (.int .i64 x) (by rw [List.getElem?_map, hx]; rfl)
      have z2 := hcb k (.int .i64 x) (by rw [List.getElem?_map, hx]; rfl)
      have q0 : (k : Int) < (n : Int) := by omega
      have q1 : (0 : Int) ≤ (k : Int) := by omega
      clear hca hcb hx
      go_wp2_with fail
      go_quiet (fail)
      go_wp2_with fail
      go_roundg f
      case measure => omega
      case rel => exact ⟨k + 1, by go_num, by omega, by omega, Lib.hid (below_drewN HB.out _)⟩
    · have hkn : k = n := by omega
      subst hkn
      have q0 : ¬ ((k : Int) < (k : Int)) := by omega
      go_wp2_with fail
      go_ret
      exact ⟨rfl, HB.out⟩
def IoRel (w : World) (l : List St) (A : Option Addr) (c f : Nat) (i : Value) (wr : World) : Prop := ∃ k : Nat, i = .int .i64 k ∧ k ≤ l.length ∧ l.length - k < f ∧ Hid (Blk wr w.heap.size 28 #[.slice A l.length c]) ∧ Hid (Below w.heap.size w wr)
set_option maxRecDepth 100000 in
set_option maxHeartbeats 8000000 in
theorem is57_ok (A B : Option Addr) (c d : Nat) (l : List St) (w : World) (hP : PlAt w (fun i => i < w.heap.size) A l) (hA : ArgPl w B l) (hn : l.length ≤ 100000) (ha : ∀ s ∈ l, s.args.length ≤ 100000) :
    Calls Try.prog 22 #[.agg #[.slice A l.length c], .slice B l.length d] w (AwEnd w) := by
  have HP := Lib.hid hP
  have HA := Lib.hid hA
  have HS := Lib.hid ha
  have HX0 := Lib.hid (Blk.new w 28 #[.slice A l.length c])
  have HB0 := Lib.hid (below_alloc w (.cells #[.slice A l.length c] 28))
  clear hP hA ha
  go_enter Try.func22, Try.ntmps22
  go_wp2_with fail
  go_loopg [5, 6, 16] (l.length + 1) (fun f _ _ i wr => IoRel w l A c f i wr)
  case atStart => exact ⟨0, rfl, by omega, by omega, HX0, HB0⟩
  case round =>
    clear HX0 HB0
    obtain ⟨k, rfl, hk, hkf, HX, HB⟩ := hrel
    obtain ⟨f, rfl⟩ : ∃ f, gk = f + 1 := ⟨gk - 1, by omega⟩
    have hzr := HB.out.size
    have hxl := HX.out.lt
    by_cases hlt : k < l.length
    · obtain ⟨s, hs⟩ : ∃ s, l[k]? = some s := ⟨l[k], List.getElem?_eq_getElem hlt⟩
      have hsa := HS.out s (List.mem_of_getElem? hs)
      have s0 := HX.out.cell 0
      simp only [List.getElem?_toArray, List.getElem?_cons_zero] at s0
      obtain ⟨b, ob, As, cs, rfl, hbF, hbl, x0, x1, x2, x3, x4, har⟩ := (HP.out.at_ HB.out).step hs
      obtain ⟨b2, ob2, As2, cs2, rfl, hbl2, y0, y1, y2, y3, y4, har2⟩ := (HA.out.below HB.out) k s hs
      have q0 : (k : Int) < (l.length : Int) := by omega
      have q1 : (0 : Int) ≤ (k : Int) := by omega
      obtain ⟨op, args, num, text, ty⟩ := s
      dsimp only at x0 x1 x2 x3 x4 y0 y1 y2 y3 y4 har har2 hsa
      have HAR := Lib.hid har
      have HAR2 := Lib.hid har2
      clear hs har har2
      go_upto_region 6 with (fail)
      obtain ⟨w2, hw2⟩ : ∃ w2, w2 = wr.alloc (.cells #[.string ⟨op.toArray⟩, .slice As args.length cs, .int .i64 num, .string ⟨text.toArray⟩, .int .i64 ty] 25) := ⟨_, rfl⟩
      rw [← hw2]
      have hb2 : Below wr.heap.size wr w2 := by rw [hw2]; exact below_alloc _ _
      have HB2 := Lib.hid (HB.out.trans (hb2.mono hzr))
      have HX2 := Lib.hid (HX.out.below hb2 hxl)
      have HST := Lib.hid (show Blk w2 wr.heap.size 25 #[.string ⟨op.toArray⟩, .slice As args.length cs, .int .i64 num, .string ⟨text.toArray⟩, .int .i64 ty] by rw [hw2]; exact Blk.new _ _ _)
      have p0 := HST.out.cell 0
      have p1 := HST.out.cell 1
      have p2 := HST.out.cell 2
      have p3 := HST.out.cell 3
      have p4 := HST.out.cell 4
      simp only [List.getElem?_toArray, List.getElem?_cons_zero, List.getElem?_cons_succ] at p0 p1 p2 p3 p4
      have k0 := cell_regrown p0
      have k1 := cell_regrown p1
      have k2 := cell_regrown p2
      have k3 := cell_regrown p3
      have k4 := cell_regrown p4
      have z0 := cell_regrown ((hb2.cell (p := ⟨b2, _, none⟩) hbl2).trans y0)
      have z1 := cell_regrown ((hb2.cell (p := ⟨b2, _, none⟩) hbl2).trans y1)
      have z2 := cell_regrown ((hb2.cell (p := ⟨b2, _, none⟩) hbl2).trans y2)
      have z3 := cell_regrown ((hb2.cell (p := ⟨b2, _, none⟩) hbl2).trans y3)
      have z4 := cell_regrown ((hb2.cell (p := ⟨b2, _, none⟩) hbl2).trans y4)
      have hr1 : Reads w2 w2.heap.size 1 As args.length (args.map (Value.int .i64)) := ⟨by simp, fun hn0 => by
        obtain ⟨g, o', e1, e2, e3, e4⟩ := HAR.out.form (by simpa using hn0)
        refine ⟨⟨g, o', none⟩, e1, Nat.lt_of_lt_of_le e3 hb2.size, fun j u hj => ?_⟩
        rw [addr_add]
        exact (hb2.cell (p := ⟨g, o' + j, none⟩) e3).trans (e4 j u hj)⟩
      have hr2 : Reads w2 w2.heap.size 1 As2 args.length (args.map (Value.int .i64)) := (HAR2.out.below hb2).more hb2.size
      have cI : ∀ dd os, Calls Try.prog 39 #[.slice As args.length cs, .slice As2 args.length cs2] (Go.Sort.grow (redrawn w2 dd) os) fun e w'' => e = .returned (.bool true) ∧ ∃ p : Regrown, w'' = Go.Sort.grow (redrawn w2 p.d) p.os :=
        fun dd os => Calls.regrown_of (ints_o As As2 cs cs2 args _ hsa ((hr1.below (below_regrown w2 dd os)).more (below_regrown w2 dd os).size) ((hr2.below (below_regrown w2 dd os)).more (below_regrown w2 dd os).size))
      have HW2 := Lib.hid hw2
      clear hw2 hb2 p0 p1 p2 p3 p4 x0 x1 x2 x3 x4 y0 y1 y2 y3 y4 s0 hr1 hr2
      refine wp_region_quiet_below (by kernel_rfl) (by kernel_rfl) ?_
      repeat (quiet_step (exact cI _ _))
      refine wpQuiet_nil ?_
      intro _ hw'
      obtain ⟨⟨dq, osq⟩, hw''⟩ := hw'
      subst hw''
      have hq := below_regrown w2 dq osq
      simp only
      have HB3 := Lib.hid (HB2.out.trans (hq.mono HB2.out.size))
      have HX3 := Lib.hid (HX2.out.below hq HX2.out.lt)
      clear hq cI k0 k1 k2 k3 k4 z0 z1 z2 z3 z4
      go_wp2_with fail
      go_roundg f
      case measure => omega
      case rel => exact ⟨k + 1, by go_num, by omega, by omega, HX3, HB3⟩
    · have hkl : k = l.length := by omega
      subst hkl
      have q0 : ¬ ((l.length : Int) < (l.length : Int)) := by omega
      go_wp2_with fail
      go_ret
      exact ⟨rfl, HB.out⟩
end Go.Proofs.Ytniefnjcimempaa
namespace Go.Proofs.Ytniefnjcimempaa
open Go.RowKit
def namesB : List ByteArray := namesR.map fun s => ⟨s.toArray⟩
def known (name : List UInt8) : Bool := Lib.containsS (namesB.take 11) ⟨name.toArray⟩
theorem known_iff (name : List UInt8) : known name = true ↔ name ∈ namesR := by
  unfold known
  rw [Lib.containsS_iff, show namesB.take 11 = namesB from rfl]
  unfold namesB
  rw [List.mem_map]
  constructor
  · rintro ⟨s, hs, he⟩
    have := congrArg (fun x : ByteArray => x.data.toList) he
    have : s = name := by simpa using this
    rw [← this]
    exact hs
  · intro h
    exact ⟨name, h, rfl⟩
end Go.Proofs.Ytniefnjcimempaa
namespace Go.Proofs.Ytniefnjcimempaa
open Go.RowKit
theorem pl_one {w : World} {g gs cap : Nat} {n : Int} {V : Value} (h : EdAt w g gs cap (numsL [n]) V) : PlAt w (fun i => i < w.heap.size) (some ⟨gs, 0, none⟩) [numSt n] := by
  have hgl := h.gs_lt
  obtain ⟨As, c, x0, x1, x2, x3, x4, hr⟩ := h.st 0 (numSt n) rfl
  refine ⟨[.string ⟨(numSt n).op.toArray⟩, .slice As (numSt n).args.length c, .int .i64 (numSt n).num, .string ⟨(numSt n).text.toArray⟩, .int .i64 (numSt n).ty], ⟨rfl, fun _ => ⟨gs, 0, rfl, hgl, hgl, fun j u hj => ?_⟩⟩, ⟨_, [], (List.append_nil _).symm, ⟨As, c, rfl, ⟨rfl, fun h => by simp [numSt] at h⟩⟩, rfl⟩⟩
  have hj5 : j < 5 := (List.getElem?_eq_some_iff.1 hj).1
  have hc : j = 0 ∨ j = 1 ∨ j = 2 ∨ j = 3 ∨ j = 4 := by omega
  rcases hc with rfl | rfl | rfl | rfl | rfl
  · exact x0.trans hj
  · exact x1.trans hj
  · exact x2.trans hj
  · exact x3.trans hj
  · exact x4.trans hj
theorem arg_one {w : World} {b : Nat} {n : Int} (h : Blk w b 49 #[.string ⟨#[110, 117, 109, 98, 101, 114]⟩, .slice none 0 0, .int .i64 n, .string ⟨#[]⟩, .int .i64 1]) : ArgPl w (some ⟨b, 0, none⟩) [numSt n] := fun i s hs => by
  have hi : i < 1 := (List.getElem?_eq_some_iff.1 hs).1
  obtain rfl : i = 0 := by omega
  injection hs with hs
  subst hs
  have hc := fun j => h.cell j
  exact ⟨b, 0, none, 0, rfl, h.lt, hc 0, hc 1, hc 2, hc 3, hc 4, ⟨rfl, fun h => by simp [numSt] at h⟩⟩
set_option maxRecDepth 100000 in
set_option maxHeartbeats 4000000 in
theorem awake_any (w : World) : Calls Try.prog 16 #[] w (AwEnd w) := by
  obtain ⟨wa, hwa⟩ : ∃ wa, wa = (w.alloc (.cells #[.int .i64 0, .int .i64 1] 3)).alloc (.cells #[.string ⟨#[110, 117, 109, 98, 101, 114]⟩, .slice none 0 0, .int .i64 2, .string ⟨#[]⟩, .int .i64 1, .string ⟨#[110, 117, 109, 98, 101, 114]⟩, .slice none 0 0, .int .i64 3, .string ⟨#[]⟩, .int .i64 1, .string ⟨#[43]⟩, .slice (some ⟨w.heap.size, 0, none⟩) 2 2, .int .i64 0, .string ⟨#[]⟩, .int .i64 1] 49) := ⟨_, rfl⟩
  have hba : Below w.heap.size w wa := by rw [hwa]; exact (below_alloc w _).alloc (by simp) _
  have hK : Blk wa (w.heap.size + 1) 49 (#[.string ⟨#[110, 117, 109, 98, 101, 114]⟩, .slice none 0 0, .int .i64 2, .string ⟨#[]⟩, .int .i64 1, .string ⟨#[110, 117, 109, 98, 101, 114]⟩, .slice none 0 0, .int .i64 3, .string ⟨#[]⟩, .int .i64 1, .string ⟨#[43]⟩, .slice (some ⟨w.heap.size, 0, none⟩) 2 2, .int .i64 0, .string ⟨#[]⟩, .int .i64 1] : Array Value) := by
    rw [hwa]
    have := Blk.new (w.alloc (.cells #[.int .i64 0, .int .i64 1] 3)) 49 (#[.string ⟨#[110, 117, 109, 98, 101, 114]⟩, .slice none 0 0, .int .i64 2, .string ⟨#[]⟩, .int .i64 1, .string ⟨#[110, 117, 109, 98, 101, 114]⟩, .slice none 0 0, .int .i64 3, .string ⟨#[]⟩, .int .i64 1, .string ⟨#[43]⟩, .slice (some ⟨w.heap.size, 0, none⟩) 2 2, .int .i64 0, .string ⟨#[]⟩, .int .i64 1] : Array Value)
    rw [show (w.alloc (.cells #[.int .i64 0, .int .i64 1] 3)).heap.size = w.heap.size + 1 by simp] at this
    exact this
  have hI : Blk wa w.heap.size 3 #[.int .i64 0, .int .i64 1] := by rw [hwa]; exact (Blk.new _ _ _).alloc _
  have harg : ArgPl wa (some ⟨w.heap.size + 1, 0, none⟩) l23 := fun i s hs => by
    have hi : i < 3 := (List.getElem?_eq_some_iff.1 hs).1
    have hc : i = 0 ∨ i = 1 ∨ i = 2 := by omega
    have hk := fun j => hK.cell j
    rcases hc with rfl | rfl | rfl
    · injection hs with hs
      subst hs
      exact ⟨w.heap.size + 1, 0, none, 0, rfl, hK.lt, hk 0, hk 1, hk 2, hk 3, hk 4, ⟨rfl, fun h => by simp [numSt] at h⟩⟩
    · injection hs with hs
      subst hs
      exact ⟨w.heap.size + 1, 0, none, 0, rfl, hK.lt, hk 5, hk 6, hk 7, hk 8, hk 9, ⟨rfl, fun h => by simp [numSt] at h⟩⟩
    · injection hs with hs
      subst hs
      refine ⟨w.heap.size + 1, 0, some ⟨w.heap.size, 0, none⟩, 2, rfl, hK.lt, hk 10, hk 11, hk 12, hk 13, hk 14, ⟨rfl, fun _ => ⟨_, rfl, hI.lt, fun j u hj => ?_⟩⟩⟩
      rw [addr_add, Nat.zero_add, hI.cell, ← Array.getElem?_toList]
      exact hj
  have HTO := Lib.hid (show Calls Try.prog 18 #[.slice (some ⟨w.heap.size + 1, 0, none⟩) 3 3] wa fun e w' => Below wa.heap.size wa w' ∧ ∃ A c, e = .returned (.agg #[.slice A 3 c]) ∧ PlAt w' (fun i => wa.heap.size ≤ i ∧ i < w'.heap.size) A l23 from to_any (some ⟨w.heap.size + 1, 0, none⟩) 3 l23 wa harg (by decide) (by decide))
  have HBA := Lib.hid hba
  have HWA := Lib.hid hwa
  clear hba hK hI harg hwa
  go_enter Try.func16, Try.ntmps16
  go_wp2_with fail
  rw [← HWA.out]
  refine HTO.out.mono ?_
  rintro e w1 ⟨hb1, A1, c1, rfl, hp1⟩
  have hza := HBA.out.size
  have HB1 := Lib.hid (HBA.out.trans (hb1.mono hza))
  have hz1 := HB1.out.size
  go_upto_region 2 with (fail)
  obtain ⟨wb, hwb⟩ : ∃ wb, wb = w1.alloc (.cells #[.slice A1 3 c1] 28) := ⟨_, rfl⟩
  rw [← hwb]
  have hb1b : Below w1.heap.size w1 wb := by rw [hwb]; exact below_alloc _ _
  have hxb : Blk wb w1.heap.size 28 #[.slice A1 3 c1] := by rw [hwb]; exact Blk.new _ _ _
  have x0 := hxb.cell 0
  simp only [List.getElem?_toArray, List.getElem?_cons_zero] at x0
  have HBB := Lib.hid (HB1.out.trans (hb1b.mono hz1))
  have hzb := HBB.out.size
  have hpb : PlAt wb (fun i => i < wb.heap.size) A1 l23 := PlAt.below (hp1.keep (w' := w1) (fun _ _ _ => rfl) (Nat.le_refl _) (fun i hi _ => hi.2)) hb1b
  have HOF := Lib.hid (of_23 A1 c1 wb hpb)
  clear hb1 hp1 hwb hb1b hxb hpb HTO
  go_wp2_with fail
  refine HOF.out.mono ?_
  rintro e w2 ⟨g, gs, cap, V, rfl, he2, hb2⟩
  have HB2 := Lib.hid (HBB.out.trans (hb2.mono hzb))
  have hz2 := HB2.out.size
  go_upto_region 3 with (fail)
  obtain ⟨wc, hwc⟩ : ∃ wc, wc = w2.alloc (.cells #[.slice (some ⟨gs, 0, none⟩) 1 cap] 28) := ⟨_, rfl⟩
  rw [← hwc]
  have hb2c : Below w2.heap.size w2 wc := by rw [hwc]; exact below_alloc _ _
  have hxc : Blk wc w2.heap.size 28 #[.slice (some ⟨gs, 0, none⟩) 1 cap] := by rw [hwc]; exact Blk.new _ _ _
  obtain ⟨wd, hwd⟩ : ∃ wd, wd = wc.alloc (.cells #[.string ⟨#[110, 117, 109, 98, 101, 114]⟩, .slice none 0 0, .int .i64 5, .string ⟨#[]⟩, .int .i64 1] 49) := ⟨_, rfl⟩
  have hbcd : Below wc.heap.size wc wd := by rw [hwd]; exact below_alloc _ _
  have hkd : Blk wd wc.heap.size 49 #[.string ⟨#[110, 117, 109, 98, 101, 114]⟩, .slice none 0 0, .int .i64 5, .string ⟨#[]⟩, .int .i64 1] := by rw [hwd]; exact Blk.new _ _ _
  have hb2d : Below w2.heap.size w2 wd := hb2c.trans (hbcd.mono hb2c.size)
  have HBD := Lib.hid (HB2.out.trans (hb2d.mono hz2))
  have HIS := Lib.hid (show Calls Try.prog 22 #[.agg #[.slice (some ⟨gs, 0, none⟩) 1 cap], .slice (some ⟨wc.heap.size, 0, none⟩) 1 1] wd (AwEnd wd) from is57_ok (some ⟨gs, 0, none⟩) (some ⟨wc.heap.size, 0, none⟩) cap 1 [numSt 5] wd (pl_one (he2.below hb2d)) (arg_one hkd) (by decide) (by decide))
  have xc := hxc.cell 0
  simp only [List.getElem?_toArray, List.getElem?_cons_zero] at xc
  have hxl := hxc.lt
  have HWD := Lib.hid hwd
  clear he2 hb2 hwc hb2c hxc hwd hbcd hkd hb2d HOF x0
  go_wp2_with fail
  rw [← HWD.out]
  refine HIS.out.mono ?_
  rintro e w5 ⟨rfl, hb5⟩
  have HB5 := Lib.hid (HBD.out.trans (hb5.mono HBD.out.size))
  clear hb5
  go_wp2_with fail
  go_ret
  exact ⟨rfl, HB5.out⟩
end Go.Proofs.Ytniefnjcimempaa
