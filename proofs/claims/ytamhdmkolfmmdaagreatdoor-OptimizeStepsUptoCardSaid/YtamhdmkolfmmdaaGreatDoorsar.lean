/- The walk of plan.Check. The walk of plan.Tree. Plain laws: what the document says of a plan's parts: costs, sizes, uses, the text. -/
import Derived.Test.YtamhdmkolfmmdaaGreatDoorsaq
import Derived.Test.YtamhdmkolfmmdaaGreatDoorsaa
import Derived.Test.YtamhdmkolfmmdaaGreatDoorsao
import Derived.Deep.RegionHeld3
import Derived.Deep.CutRange
import Derived.Deep.Cut
import Derived.Laws.MakeOwn
set_option linter.unusedVariables false
set_option linter.unusedSimpArgs false
namespace Go.Proofs.YtamhdmkolfmmdaaGreatDoor
open Go.RowKit
set_option maxRecDepth 100000
set_option maxHeartbeats 4000000
theorem kfk {l : List St} : ∀ (t : List St) (i k : Nat) (s : St), (∀ j x, j < k → t[j]? = some x → kaL l (i + j) x = 0) → t[k]? = some s → kaL l (i + k) s ≠ 0 → kcz l i t = kaL l (i + k) s
 | [], _, _, _, _, h, _ => by simp at h
 | x :: t, i, 0, s, _, h, hne => by
  simp only [gB, Option.some.injEq] at h
  subst h
  unfold kcz
  exact if_pos hne
 | x :: t, i, k + 1, s, h0, h, hne => by
  unfold kcz
  have h1 := h0 0 x (by omega) rfl
  rw [Nat.add_zero] at h1
  rw [if_neg (by simp [h1]), kfk t (i + 1) k s (fun j y hj hy => by
   have := h0 (j + 1) y (by omega) (by simpa using hy)
   rwa [show i + (j + 1) = i + 1 + j by omega] at this) (by simpa using h) (by rwa [show i + 1 + k = i + (k + 1) by omega]), show i + 1 + k = i + (k + 1) by omega]
def kc7 (l : List St) : Prop := l.length ≤ 100000 ∧ ∀ s ∈ l, s.args.length ≤ 2000000 ∧ s.text.length ≤ 9223372036854775807
def CkRel (w : World) (l : List St) (A : Option Addr) (c : Nat) (f : Nat) (v : Value) (wr : World) : Prop := ∃ k : Nat, v = .int .i64 k ∧ k ≤ l.length ∧ l.length - k < f ∧ Hid (∀ (j : Nat) (s : St), j < k → l[j]? = some s → kaL l j s = 0) ∧ Hid (Blk wr w.heap.size 26 #[.slice A l.length c]) ∧ Hid (Below w.heap.size w wr)
theorem kbS (A : Option Addr) (c : Nat) (l : List St) (w : World) (hP : PlAt w (fun i => i < w.heap.size) A l) (hm : kc7 l) :
  Calls Tryz.prog 11 #[.agg #[.slice A l.length c]] w (ChkEnd w (kac l)) := by
 obtain ⟨hn, hsm⟩ := hm
 have HP := hD hP
 have HSM := hD hsm
 have HBB := hD (Blk.new w 26 #[.slice A l.length c])
 clear hP hsm
 by_cases h0 : l.length = 0
 ·
  have HE := hD (show kac l = 4 by unfold kac; exact if_pos (.inl h0))
  rw [h0]
  clear h0
  go_enter Tryz.func11, Tryz.ntmps11
  go_wp2_with fail
  go_ret
  exact ⟨by rw [HE.out]; rfl, kaa _ _⟩
 by_cases h1 : 4096 < l.length
 ·
  have HE := hD (show kac l = 4 by unfold kac; exact if_pos (.inr h1))
  have t1 : ((l.length : Int) == 0) = false := by rw [beq_eq_false_iff_ne]; omega
  have t2 : decide ((4096 : Int) < (l.length : Int)) = true := decide_eq_true (by omega)
  have t3 : decide (4096 < l.length) = true := decide_eq_true (by omega)
  clear h0 h1
  go_enter Tryz.func11, Tryz.ntmps11
  go_wp2_with fail
  go_ret
  exact ⟨by rw [HE.out]; rfl, kaa _ _⟩
 have HC := hD (show kac l = kcz l 0 l by unfold kac; rw [if_neg (by omega)])
 have t1 : ((l.length : Int) == 0) = false := by rw [beq_eq_false_iff_ne]; omega
 have t2 : decide ((4096 : Int) < (l.length : Int)) = false := decide_eq_false (by omega)
 have t3 : decide (4096 < l.length) = false := decide_eq_false (by omega)
 clear h0 h1
 go_enter Tryz.func11, Tryz.ntmps11
 go_wp2_with fail
 go_loopg [19, 3, 4] (l.length + 1) (fun f v _ _ wr => CkRel w l A c f v wr)
 case atStart => exact ⟨0, rfl, by omega, by omega, hD (fun j s hj => absurd hj (by omega)), HBB, hD (kaa _ _)⟩
 case round =>
  clear t1 t2 t3
  obtain ⟨k, rfl, hk, hkf, HGO, HX, HBW⟩ := hrel
  obtain ⟨f, rfl⟩ : ∃ f, gk = f + 1 := ⟨gk - 1, by omega⟩
  have s0 := HX.out.cell 0
  simp only [gA, gB] at s0
  by_cases hlt : k < l.length
  ·
   obtain ⟨s, hs⟩ : ∃ s, l[k]? = some s := ⟨l[k], List.getElem?_eq_getElem hlt⟩
   have hmem := HSM.out s (List.mem_of_getElem? hs)
   have hck := kl9 A c l k s wr hs (HP.out.keep (fun i (hi : i < _) _ => HBW.out.block i hi) HBW.out.size (fun _ hi _ => Nat.lt_of_lt_of_le hi HBW.out.size)) hn hmem.1 hmem.2
   have HCK := hD hck
   have HS := hD hs
   have q0 : (k : Int) < (l.length : Int) := by omega
   clear hmem hck hs
   go_wp2_with fail
   refine HCK.out.mono ?_
   rintro e w2 ⟨rfl, hb2⟩
   have HB2 := hD (HBW.out.trans (hb2.mono HBW.out.size))
   have HX2 := hD (HX.out.below hb2 HX.out.lt)
   clear hb2
   by_cases hE : kaL l k s = 0
   ·
    have HE := hD hE
    have hv : errV (kaL l k s) = .nilIface := by rw [hE]; rfl
    rw [hv]
    clear hE hv
    go_wp2_with fail
    go_roundg f
    case measure => omega
    case rel =>
     refine ⟨k + 1, by go_num, by omega, by omega, hD (fun j x hj hx => ?_), HX2, HB2⟩
     by_cases hjk : j < k
     ·
      exact HGO.out j x hjk hx
     ·
      obtain rfl : j = k := by omega
      rw [HS.out] at hx
      injection hx with hx
      subst hx
      exact HE.out
   ·
    have hst := kfk l 0 k s (fun j x hj hx => by rw [Nat.zero_add]; exact HGO.out j x hj hx) HS.out (by rw [Nat.zero_add]; exact hE)
    rw [Nat.zero_add] at hst
    have HST := hD (HC.out.trans hst)
    have hv : errV (kaL l k s) = .iface 66 (.int .i64 (kaL l k s)) := if_neg hE
    have HV := hD hv
    rw [hv]
    generalize hq : kaL l k s = q at *
    clear hE hv hst hq
    go_wp2_with fail
    go_ret
    exact ⟨by rw [HST.out, HV.out]; rfl, HB2.out⟩
  ·
   have hall := (kck l 0).2 (fun j s hs => by
    rw [Nat.zero_add]
    exact HGO.out j s (by have := (gH hs).1; omega) hs)
   have HZ := hD (HC.out.trans hall)
   clear hall
   go_wp2_with fail
   go_ret
   exact ⟨by rw [HZ.out]; rfl, HBW.out⟩
theorem kgT {P : Program} (t e : TypeId) (i : TypeInfo) (z : Value) (ht : P.underlying t = some (.slice e)) (hi : P.info? e = some i) (hz : i.zero = some z)
  (kl kc : IntKind) (n c : Nat) (hnc : n ≤ c) (hbytes : i.bytes * c ≤ 281474976710656) (h63 : c ≤ 9223372036854775807) (w : World) :
  (Instr.makeSlice t (.int kl (n : Int)) (.int kc (c : Int))).run P w = .ok (.slice (some ⟨w.heap.size, 0, none⟩) n c) (w.alloc (.cells (madeCells z.cells (c * i.size)) e)) := by
 have hb : (i.bytes : Int) * (c : Int) ≤ 281474976710656 := by
  have h : ((i.bytes * c : Nat) : Int) ≤ 281474976710656 := by omega
  rwa [Int.natCast_mul] at h
 have hr := run_make (P := P) w t e i z ht hi hz kl kc n c (by omega) (by omega) hb (by omega)
 simp only [Int.toNat_natCast] at hr
 exact hr
theorem klM (n : Nat) : madeCells (Value.int .i64 0).cells (n * 1) = ((List.replicate n (0 : Int)).map (Value.int .i64)).toArray := by
 rw [Nat.mul_one]
 apply Array.ext
 ·
  simp [size_madeCells]
 ·
  intro i h1 h2
  simp [madeCells, Value.cells, Nat.mod_one]
theorem y13 {P : Prop} (h : P := by
 first
 | guard_hyp t34q0
   have hle := h.le
   have hcap := h.cap
 | have hz := kbK hc
   have hn : l.length ≤ 4096 := hz.2.1
 obtain ⟨i0, hinf, hz0, hz1, hz2⟩ := info_parts kjF
 have hmk : ∀ W : World, (Instr.makeSlice 47 (.int .i64 (l.length : Int)) (.int .i64 (l.length : Int))).run Tryz.prog W = .ok (.slice (some ⟨W.heap.size, 0, none⟩) l.length l.length) (W.alloc (.cells (uarr (ka6 l 0)) 3)) := fun W => by
  have h := kgT (P := Tryz.prog) 47 3 i0 (.int .i64 0) Tryz.underlying47 hinf hz0 .i64 .i64 l.length l.length (Nat.le_refl _) (by rw [hz2]; omega) (by omega) W
  rw [hz1, klM] at h
  rw [kjR]
  exact h
 first
 | guard_hyp t34q0
   have hgl := h.ed.lt
   have x0 := h.ed.cell 0
   have x1 := h.ed.cell 1
   simp only [gA, gB, gC] at x0 x1
   have HH := hD h
   have HR := hD hr
 | have HA := hD h
   have HC := hD hc
 have HM := hD hmk
 first
 | guard_hyp t34q0
   have HUB := hD (khq (fun s hs => (hr s hs).1) (by omega : l.length ≤ 100000))
   have HE1 := hD h.ed
   have HE2 := hD (h.ed.set_ 1 (.slice (some ⟨w.heap.size, 0, none⟩) l.length l.length))
   have HE := hD (show Blk ((w.setCell ⟨g, 1, none⟩ (.slice (some ⟨w.heap.size, 0, none⟩) l.length l.length)).alloc (.cells (uarr (ka6 l 0)) 3)) g 85 #[.slice (some ⟨gs, 0, none⟩) l.length cap, .slice (some ⟨w.heap.size, 0, none⟩) l.length l.length] from HE2.out.alloc _)
   have HU := hD (show Blk ((w.setCell ⟨g, 1, none⟩ (.slice (some ⟨w.heap.size, 0, none⟩) l.length l.length)).alloc (.cells (uarr (ka6 l 0)) 3)) w.heap.size 3 (uarr (ka6 l 0)) by
    have := Blk.new (w.setCell ⟨g, 1, none⟩ (.slice (some ⟨w.heap.size, 0, none⟩) l.length l.length)) 3 (uarr (ka6 l 0))
    simpa using this)
   have HG := hD (kfg (kgD (p := ⟨g, 1, none⟩) (kaP (Below.refl w.heap.size w) (some g)) (.inl rfl) (.slice (some ⟨w.heap.size, 0, none⟩) l.length l.length)) (.cells (uarr (ka6 l 0)) 3))
   have hfz := HE1.out.frozen 1
   have hx1 : (w.alloc (.cells (uarr (ka6 l 0)) 3)).cell? ⟨g, 1, none⟩ = some V := (World.cell?_alloc_lt w _ _ hgl).trans x1
   have hx0 : (w.alloc (.cells (uarr (ka6 l 0)) 3)).cell? ⟨g, 0, none⟩ = some (.slice (some ⟨gs, 0, none⟩) l.length cap) := (World.cell?_alloc_lt w _ _ hgl).trans x0
   clear h hr hinf hz0 hz1 hz2 x1
   go_enter Tryz.func41, Tryz.ntmps41
 | have HSM := hD (kfE hc)
   have HUB := hD (khq (kfE hc) (by omega : l.length ≤ 100000))
   clear h hc hz hinf hz0 hz1 hz2 hmk
   have hmk := HM.out
   go_enter Tryz.func29, Tryz.ntmps29
 go_wp2_with fail
 first
 | guard_hyp t34q0
   clear hmk hfz hx0 hx1 x0
   go_loopg [3, 5, 20, 27] (l.length + 1) (fun f _ _ i _ wr => OcRel w g gs cap l f i wr)
   case atStart => exact ⟨0, rfl, by omega, by omega, HU, HE, HG⟩
 | clear hmk
   go_loopg [4, 5] (l.length + 1) (fun f i _ wr => UsRel w l w.heap.size f i wr)
   case atStart => exact ⟨0, rfl, by omega, by omega, hD (Blk.new w _ _), hD (kaa w _)⟩
 case round =>
  first
  | guard_hyp t34q0
    clear HU HE HG HE1
    obtain ⟨k, rfl, hk, hkf, HU, HE, HG⟩ := hrel
  | obtain ⟨k, rfl, hk, hkf, HG, HB⟩ := hrel
  obtain ⟨f, rfl⟩ : ∃ f, gk = f + 1 := ⟨gk - 1, by omega⟩
  first
  | guard_hyp t34q0
  | have hgl := HG.out.lt
  by_cases hlt : k < l.length
  ·
   obtain ⟨s, hs⟩ : ∃ s, l[k]? = some s := ⟨l[k], List.getElem?_eq_getElem hlt⟩
   first
   | guard_hyp t34q0
     obtain ⟨As, c, x0, x1, x2, x3, x4, har⟩ := HH.out.st k s hs
     have hgc := fun j => kfT HG.out (p := ⟨gs, j, none⟩) HH.out.gs_lt (fun e => HH.out.ne e.symm)
     replace x0 := (hgc _).trans x0
     replace x1 := (hgc _).trans x1
     replace x2 := (hgc _).trans x2
     replace x3 := (hgc _).trans x3
     replace x4 := (hgc _).trans x4
     have hal := (HR.out s (List.mem_of_getElem? hs)).1
     have HBK := hD (HR.out s (List.mem_of_getElem? hs)).2
     have HUS := hD (kfF hs)
   | obtain ⟨b, ob, As, cs, rfl, hbl, x0, x1, x2, x3, x4, har⟩ := HA.out k s hs
     have hal := HSM.out s (List.mem_of_getElem? hs)
     obtain ⟨o, ho⟩ := kdd ((kbK HC.out).2.2 k s hs)
     have HBK := hD ho.back
     have HU := hD (kfF hs)
   have HAR := hD har
   have hbd := HUB.out k
   have hzl := kb4 l k
   generalize ka6 l k = z at *
   have HBD := hD hbd
   have HZL := hD hzl
   have q0 : (k : Int) < (l.length : Int) := by omega
   have q1 : (0 : Int) ≤ (k : Int) := by omega
   obtain ⟨op, args, num, text, ty⟩ := s
   first
   | guard_hyp t34q0
     dsimp only at x0 x1 x2 x3 x4 hal HBK HUS HAR
     have HB3 := hD (fun o => HU.out.alloc o)
     have HE3 := hD (fun o => HE.out.alloc o)
     have HG3 := hD (fun o => kfg HG.out o)
     have hwz := HG.out.size
     clear hs har hbd hzl hgc HU HE HG
     go_upto_region 4 with (fail)
     obtain ⟨wo, hwo⟩ := xE (wr.alloc (.cells #[.string ⟨op.toArray⟩, .slice As args.length c, .int .i64 num, .string ⟨text.toArray⟩, .int .i64 ty] 77))
     rw [← hwo]
     have HUo : Hid (Blk wo w.heap.size 3 (uarr (bumps z (args.take 0)))) := hD (by rw [hwo]; simpa [bumps] using HB3.out _)
     have HEo : Hid (Blk wo g 85 #[.slice (some ⟨gs, 0, none⟩) l.length cap, .slice (some ⟨w.heap.size, 0, none⟩) l.length l.length]) := hD (by rw [hwo]; exact HE3.out _)
     have HGo : Hid (w.grownBy wo (some g)) := hD (by rw [hwo]; exact HG3.out _)
     have y1 : wo.cell? ⟨wr.heap.size, 1, none⟩ = some (.slice As args.length c) := by rw [hwo, (Blk.new wr 77 _).cell]; rfl
     clear hwo HB3 HE3 HG3 x0 x1 x2 x3 x4
   | dsimp only at x0 x1 x2 x3 x4 hal HBK HU HAR
     have HX1 := hD x1
     have HGz := hD (show Blk wr w.heap.size 3 (uarr (bumps z (args.take 0))) from by simpa [bumps] using HG.out)
     clear hs ho har x0 x1 x2 x3 x4 hbd hzl HG
   go_wp2_with fail
   first
   | guard_hyp t34q0
     clear y1
     go_loopg [5, 27] (args.length + 1) (fun f _ i wi => OiRel w g gs cap l.length z args f i wi)
     case atStart => exact ⟨0, rfl, by omega, by omega, HUo, HEo, HGo⟩
   | go_loopg [5] (args.length + 1) (fun f i wr => UiRel w z args w.heap.size f i wr)
     case atStart => exact ⟨0, rfl, by omega, by omega, HGz, HB⟩
   case round =>
    first
    | guard_hyp t34q0
      clear HUo HEo HGo
      obtain ⟨j, rfl, hj, hjf, HU, HE, HG⟩ := hrel
    | clear HGz HB hgl
      obtain ⟨j, rfl, hj, hjf, HG, HB⟩ := hrel
    obtain ⟨f2, rfl⟩ : ∃ f2, gk = f2 + 1 := ⟨gk - 1, by omega⟩
    first
    | guard_hyp t34q0
      have e1 := HE.out.cell 1
      simp only [gA, gB, gC] at e1
      have hgi := HE.out.lt
      have hui := HU.out.lt
    | have hgl := HG.out.lt
      have y1 := (HB.out.cell (p := ⟨b, ob + k * 5 + 1, none⟩) hbl).trans HX1.out
    by_cases hjl : j < args.length
    ·
     obtain ⟨a, ha⟩ : ∃ a, args[j]? = some a := ⟨args[j], List.getElem?_eq_getElem hjl⟩
     have hbk := HBK.out a (List.mem_of_getElem? ha)
     obtain ⟨m, rfl⟩ := keI hbk.1
     first
     | guard_hyp t34q0
       obtain ⟨ba, oa, rfl, hba', hba, hca⟩ := RdF.int HAR.out ha
       have hm : m < l.length := by omega
     | obtain ⟨ba, oa, rfl, hba, hca⟩ := (HAR.out.below HB.out).form (by omega)
       have y2 := hca j (.int .i64 m) (by rw [List.getElem?_map, ha]; rfl)
     have hzz : (bumps z (args.take j)).length = l.length := (kdJ _ _).trans HZL.out
     have hup := HBD.out.bumps (args.take j) (by omega)
     have hlj : (args.take j).length ≤ 3 := by have := List.length_take_le j args; omega
     have hx := hup.get (by omega) m
     have HSN : Hid (bumps z (args.take (j + 1)) = bump (bumps z (args.take j)) (m : Int)) := hD (by rw [List.take_add_one, ha, Option.toList_some]; exact kkX _ _ _)
     generalize bumps z (args.take j) = zz at *
     first
     | guard_hyp t34q0
       have y3 : wr.cell? ⟨w.heap.size, m, none⟩ = some (.int .i64 (zz.getD m 0)) := by rw [HU.out.cell]; exact kco (by omega)
       have y4 := HU.out.frozen m
       have HGS := hD (HU.out.set_ m (.int .i64 (zz.getD m 0 + 1)))
     | have y3 : wr.cell? ⟨w.heap.size, m, none⟩ = some (.int .i64 (zz.getD m 0)) := by rw [HG.out.cell]; exact kco (by omega)
       have y4 := HG.out.frozen m
       have HGS := hD (HG.out.set_ m (.int .i64 (zz.getD m 0 + 1)))
     rw [uarr_set, ← HSN.out] at HGS
     generalize zz.getD m 0 = u at *
     first
     | guard_hyp t34q0
       have y5 : wr.cell? ⟨ba, oa + j, none⟩ = some (.int .i64 m) := (kfT HG.out (p := ⟨ba, oa + j, none⟩) hba hba'.1).trans hca
     | skip
     have p0 : (j : Int) < (args.length : Int) := by omega
     have p1 : (0 : Int) ≤ (j : Int) := by omega
     have p2 : (m : Int) < (l.length : Int) := by omega
     have p3 : (0 : Int) ≤ (m : Int) := by omega
     have hw := IntWalk.wrap64_in (u + 1) (by omega)
     clear ha hbk hca hup
     go_wp2_with fail
     go_roundg f2
     case measure => omega
     first
     | guard_hyp t34q0
       case rel => exact ⟨j + 1, by go_num, by omega, by omega, HGS, hD (HE.out.far (p := ⟨w.heap.size, m, none⟩) (by show g ≠ w.heap.size; omega) _), hD (kgD HG.out (p := ⟨w.heap.size, m, none⟩) (.inr (Nat.le_refl _)) _)⟩
     | case rel => exact ⟨j + 1, by go_num, by omega, by omega, HGS, hD (HB.out.setCell (p := ⟨w.heap.size, m, none⟩) (Nat.le_refl _) _)⟩
    ·
     have hjs : j = args.length := by omega
     subst hjs
     have p0 : ¬ ((args.length : Int) < (args.length : Int)) := by omega
     first
     | guard_hyp t34q0
       have hgg := HU.out
       rw [List.take_length, ← HUS.out] at hgg
     | have hgg := HG.out
       rw [List.take_length, ← HU.out] at hgg
     have HGG := hD hgg
     clear hgg
     go_wp2_with fail
     go_roundg f
     case measure => omega
     first
     | guard_hyp t34q0
       case rel => exact ⟨k + 1, by go_num, by omega, by omega, HGG, HE, HG⟩
     | case rel => exact ⟨k + 1, by go_num, by omega, by omega, HGG, HB⟩
  ·
   have hkl : k = l.length := by omega
   subst hkl
   have q0 : ¬ ((l.length : Int) < (l.length : Int)) := by omega
   go_wp2_with fail
   first
   | guard_hyp t34q0
     refine bodyPost_end (v := .tuple #[]) (by simp [results, Tryz.results41, go_sem]) rfl ?_
     exact ⟨rfl, HH.out.turn HG.out HE.out, HU.out, HG.out⟩
   | go_ret
     exact ⟨rfl, HG.out, HB.out⟩) : P := h
def bump (z : List Int) (a : Int) : List Int := z.set a.toNat (z.getD a.toNat 0 + 1)
def bumps (z : List Int) (args : List Int) : List Int := args.foldl bump z
def ka6 (l : List St) (k : Nat) : List Int := (l.take k).foldl (fun z s => bumps z s.args) (List.replicate l.length 0)
def kag (l : List St) : List Int := ka6 l l.length
theorem kid (z : List Int) (a : Int) : (bump z a).length = z.length := by unfold bump; simp
theorem kdJ : ∀ (args z : List Int), (bumps z args).length = z.length
 | [], _ => rfl
 | a :: args, z => by unfold bumps; rw [List.foldl_cons]; exact (kdJ args _).trans (kid z a)
theorem kkX (z args : List Int) (a : Int) : bumps z (args ++ [a]) = bump (bumps z args) a := by unfold bumps; rw [List.foldl_append]; rfl
theorem kjR (l : List St) : ka6 l 0 = List.replicate l.length 0 := by unfold ka6; simp
theorem kfF {l : List St} {k : Nat} {s : St} (h : l[k]? = some s) : ka6 l (k + 1) = bumps (ka6 l k) s.args := by
 unfold ka6
 rw [List.take_add_one, h, Option.toList_some, List.foldl_append]
 rfl
theorem kgE (n : Nat) : ∀ (t : List St) (z : List Int), z.length = n → (t.foldl (fun z s => bumps z s.args) z).length = n
 | [], _, h => h
 | s :: t, z, h => by rw [List.foldl_cons]; exact kgE n t _ ((kdJ _ _).trans h)
theorem kb4 (l : List St) (k : Nat) : (ka6 l k).length = l.length := by unfold ka6; exact kgE _ _ _ (by simp)
def Upto (M : Int) (z : List Int) : Prop := ∀ x ∈ z, 0 ≤ x ∧ x ≤ M
theorem Upto.get {M : Int} {z : List Int} (h : Upto M z) (hM : 0 ≤ M) (a : Nat) : 0 ≤ z.getD a 0 ∧ z.getD a 0 ≤ M := by
 rw [List.getD_eq_getElem?_getD]
 cases e : z[a]? with
 | none => simpa using hM
 | some x => exact h x (List.mem_of_getElem? e)
theorem Upto.bump {M : Int} {z : List Int} (h : Upto M z) (hM : 0 ≤ M) (a : Int) : Upto (M + 1) (bump z a) := fun x hx => by
 rcases List.mem_or_eq_of_mem_set hx with hx | rfl
 ·
  have := h x hx; omega
 ·
  have := h.get hM a.toNat; omega
theorem Upto.bumps : ∀ (args : List Int) {M : Int} {z : List Int}, Upto M z → 0 ≤ M → Upto (M + args.length) (bumps z args)
 | [], M, z, h, _ => by simpa [Go.Proofs.YtamhdmkolfmmdaaGreatDoor.bumps] using h
 | a :: args, M, z, h, hM => by
  have := Upto.bumps args (h.bump hM a) (by omega)
  have e : M + 1 + (args.length : Int) = M + ((a :: args).length : Int) := by simp; omega
  rw [e] at this
  exact this
theorem kgn : ∀ (t : List St) (M : Int) (z : List Int), (∀ s ∈ t, s.args.length ≤ 3) → Upto M z → 0 ≤ M → Upto (M + 3 * t.length) (t.foldl (fun z s => Go.Proofs.YtamhdmkolfmmdaaGreatDoor.bumps z s.args) z)
 | [], M, z, _, h, _ => by simpa using h
 | s :: t, M, z, hs, h, hM => by
  rw [List.foldl_cons]
  have h3 := hs s (List.mem_cons_self ..)
  have h1 : Upto (M + 3) (Go.Proofs.YtamhdmkolfmmdaaGreatDoor.bumps z s.args) := fun x hx => by have := h.bumps s.args hM x hx; omega
  have := kgn t (M + 3) _ (fun s h => hs s (List.mem_cons_of_mem _ h)) h1 (by omega)
  have e : M + 3 + 3 * (t.length : Int) = M + 3 * ((s :: t).length : Int) := by simp; omega
  rw [e] at this
  exact this
theorem khq {l : List St} (hs : ∀ s ∈ l, s.args.length ≤ 3) (hl : l.length ≤ 100000) (k : Nat) : Upto 300000 (ka6 l k) := fun x hx => by
 have h0 : Upto 0 (List.replicate l.length (0 : Int)) := fun x hx => by have := List.eq_of_mem_replicate hx; omega
 have := kgn (l.take k) 0 _ (fun s h => hs s (List.mem_of_mem_take h)) h0 (by omega) x hx
 have hlt : (l.take k).length ≤ l.length := by rw [List.length_take]; omega
 omega
def uarr (z : List Int) : Array Value := (z.map (Value.int .i64)).toArray
theorem kco {z : List Int} {a : Nat} (h : a < z.length) : (uarr z)[a]? = some (.int .i64 (z.getD a 0)) := by
 unfold uarr
 rw [gA, List.getElem?_map, List.getElem?_eq_getElem h, List.getD_eq_getElem?_getD, List.getElem?_eq_getElem h]
 rfl
theorem uarr_set (z : List Int) (a : Nat) : (uarr z).setIfInBounds a (.int .i64 (z.getD a 0 + 1)) = uarr (bump z (a : Int)) := by
 unfold uarr bump
 rw [gE, ← List.map_set, Int.toNat_natCast]
end Go.Proofs.YtamhdmkolfmmdaaGreatDoor
