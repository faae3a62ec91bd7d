/- plan.Of in plain Lean: the steps of a tree, and the stack machine that lays them. Rows of expressions: cut at the front, and one of them replaced. Plain laws: the document's check of a plan is that of the program. The walk of optimize.share, where the steps' keys are different. -/
import Derived.Test.YtamhdmkolfmmdaaGreatDoorsam
import Derived.Test.YtamhdmkolfmmdaaGreatDoorsaa
import Derived.Test.YtamhdmkolfmmdaaGreatDoorsan
import Derived.Test.YtamhdmkolfmmdaaGreatDoorsah
import Derived.Test.YtamhdmkolfmmdaaGreatDoorsal
import Derived.Laws.CopyOwn
import Derived.Deep.RegionLaw
import Derived.Deep.Cut
import Derived.Maps.Own
set_option linter.unusedVariables false
set_option linter.unusedSimpArgs false
namespace Go.Proofs.YtamhdmkolfmmdaaGreatDoor
open Go.RowKit
theorem kbO {w : World} {base e size n : Nat} {v : Value} {xs : List Value} (h : w.ownsRow base e size v n xs) (g : Nat) (hg : v.ownBlock = some g) : g < w.heap.size := by
 obtain ⟨_, cur, hc⟩ := kaq h hg
 exact hc.lt
set_option maxRecDepth 100000
set_option maxHeartbeats 4000000
def StepAt (w : World) (gs i : Nat) (k : KeyS) : Prop := ∃ (As : Option Addr) (c : Nat) (args : List Int) (ty : Int), args.length ≤ 3 ∧ k.a = args.getD 0 0 ∧ k.b = args.getD 1 0 ∧ k.c = args.getD 2 0 ∧ gs < w.heap.size ∧
 w.cell? ⟨gs, i * 5, none⟩ = some (.string ⟨k.op.toArray⟩) ∧ w.cell? ⟨gs, i * 5 + 1, none⟩ = some (.slice As args.length c) ∧ w.cell? ⟨gs, i * 5 + 2, none⟩ = some (.int .i64 k.num) ∧ w.cell? ⟨gs, i * 5 + 3, none⟩ = some (.string ⟨k.text.toArray⟩) ∧ w.cell? ⟨gs, i * 5 + 4, none⟩ = some (.int .i64 ty) ∧
 Reads w w.heap.size 1 As args.length (args.map (Value.int .i64))
theorem StepAt.below {w w' : World} {gs i : Nat} {k : KeyS} (h : StepAt w gs i k) (hb : Below w.heap.size w w') : StepAt w' gs i k := by
 obtain ⟨As, c, args, ty, h0, h1, h2, h3, hl, x0, x1, x2, x3, x4, hr⟩ := h
 have hc : ∀ j, w'.cell? ⟨gs, j, none⟩ = w.cell? ⟨gs, j, none⟩ := fun j => hb.cell (p := ⟨gs, j, none⟩) hl
 exact ⟨As, c, args, ty, h0, h1, h2, h3, Nat.lt_of_lt_of_le hl hb.size, (hc _).trans x0, (hc _).trans x1, (hc _).trans x2, (hc _).trans x3, (hc _).trans x4, (hr.below hb).more hb.size⟩
theorem kfS {op text : List UInt8} {num : Int} {args : List Int} {k : KeyS} (h3 : args.length ≤ 3) (ho : k.op = op) (ht : k.text = text) (hn : k.num = num) (ha : k.a = args.getD 0 0) (hb : k.b = args.getD 1 0) (hc : k.c = args.getD 2 0) :
  splice [.string ⟨op.toArray⟩, .string ⟨text.toArray⟩, .int .i64 0, .int .i64 0, .int .i64 0, .int .i64 num] 2 (args.map (Value.int .i64)) = [.string ⟨k.op.toArray⟩, .string ⟨k.text.toArray⟩, .int .i64 k.a, .int .i64 k.b, .int .i64 k.c, .int .i64 k.num] := by
 subst ho ht hn
 rw [ha, hb, hc]
 unfold splice
 match args, h3 with
 | [], _ => rfl
 | [x], _ => rfl
 | [x, y], _ => rfl
 | [x, y, z], _ => rfl
theorem kgB {κ : Type} [DecidableEq κ] {k : κ} : ∀ {l : List (κ × Value)}, (∀ p ∈ l, p.1 ≠ k) → kbj l k = none
 | [], _ => rfl
 | p :: l, h => by
  unfold kbj
  rw [if_neg (h p (List.mem_cons_self ..))]
  exact kgB fun q hq => h q (List.mem_cons_of_mem _ hq)
def ShRel (w : World) (mb : Nat) (ks : List KeyS) (f : Nat) (i : Value) (wr : World) : Prop := ∃ (k : Nat) (l : List (KeyS × Value)), i = .int .i64 k ∧ k ≤ ks.length ∧ ks.length - k < f ∧ Hid (MapIs wr mb encK l) ∧ Hid (∀ p ∈ l, ∃ j, j < k ∧ ks[j]? = some p.1) ∧ Hid (Below w.heap.size w wr) ∧ mb < wr.heap.size
theorem kfJ (g gs cap : Nat) (ks : List KeyS) (hnd : ∀ j k, j < k → k < ks.length → ks[j]? ≠ ks[k]?) (hn : ks.length ≤ 100000) (w : World) (hgl : g < w.heap.size) (hg : w.cell? ⟨g, 0, none⟩ = some (.slice (some ⟨gs, 0, none⟩) ks.length cap))
  (hst : ∀ i k, ks[i]? = some k → StepAt w gs i k) :
  Calls Tryz.prog 66 #[.pointer (some ⟨g, 0, none⟩)] w fun e w' => e = .returned (.bool false) ∧ Below w.heap.size w w' := by
 have HST := hD hst
 have HND := hD hnd
 have hmm : ∀ (W : World), (Instr.makeMap 163 none).run Tryz.prog W = .ok (.map (some W.heap.size)) (W.alloc (.map #[] 0)) := fun W => by
  simp [Instr.makeMap, run_underlying Tryz.underlying163]
 have HMM := hD hmm
 have hg1 : (w.alloc (.map #[] 0)).cell? ⟨g, 0, none⟩ = some (.slice (some ⟨gs, 0, none⟩) ks.length cap) := (World.cell?_alloc_lt w _ _ hgl).trans hg
 clear hst hnd hg
 go_enter Tryz.func66, Tryz.ntmps66
 go_wp2_with fail
 clear hmm hg1
 go_loopg [4, 5, 6, 7, 8, 15] (ks.length + 1) (fun f _ _ _ _ _ i wr => ShRel w w.heap.size ks f i wr)
 case atStart => exact ⟨0, [], rfl, by omega, by omega, hD (MapIs.new w encK 0), hD (fun p hp => by cases hp), hD ((Below.refl _ _).alloc (Nat.le_refl _) _), by simp⟩
 case round =>
  obtain ⟨k, l, rfl, hk, hkf, HMP, HKS, HB, hml⟩ := hrel
  obtain ⟨f, rfl⟩ : ∃ f, gk = f + 1 := ⟨gk - 1, by omega⟩
  by_cases hlt : k < ks.length
  ·
   obtain ⟨s, hs⟩ : ∃ s, ks[k]? = some s := ⟨ks[k], List.getElem?_eq_getElem hlt⟩
   obtain ⟨As, c, args, ty, h0, h1, h2, h3, hl, x0, x1, x2, x3, x4, hr⟩ := (HST.out k s hs).below HB.out
   have hlk : kbj l s = none := kgB fun p hp e => by
    obtain ⟨j, hj, hjs⟩ := HKS.out p hp
    rw [e] at hjs
    exact HND.out j k hj hlt (hjs.trans hs.symm)
   have q0 : (k : Int) < (ks.length : Int) := by omega
   have q1 : (0 : Int) ≤ (k : Int) := by omega
   have HR := hD hr
   have HS := hD hs
   have HLK := hD hlk
   have HSP := hD (kfS (op := s.op) (text := s.text) (num := s.num) (args := args) (k := s) h0 rfl rfl rfl h1 h2 h3)
   clear hs hlk hr h1 h2 h3
   go_upto_region 6 with (fail)
   obtain ⟨w2, hw2⟩ := xE ((wr.alloc (.cells #[.string ⟨s.op.toArray⟩, .slice As args.length c, .int .i64 s.num, .string ⟨s.text.toArray⟩, .int .i64 ty] 77)).alloc (.cells #[.string ⟨s.op.toArray⟩, .string ⟨s.text.toArray⟩, .int .i64 0, .int .i64 0, .int .i64 0, .int .i64 s.num] 166))
   rw [← hw2]
   have hb2 : Below wr.heap.size wr w2 := by rw [hw2]; exact ((Below.refl _ _).alloc (Nat.le_refl _) _).alloc (by simp) _
   have HKB := hD (show Blk w2 (wr.heap.size + 1) 166 #[.string ⟨s.op.toArray⟩, .string ⟨s.text.toArray⟩, .int .i64 0, .int .i64 0, .int .i64 0, .int .i64 s.num] by
    rw [hw2]
    have := Blk.new (wr.alloc (.cells #[.string ⟨s.op.toArray⟩, .slice As args.length c, .int .i64 s.num, .string ⟨s.text.toArray⟩, .int .i64 ty] 77)) 166 #[.string ⟨s.op.toArray⟩, .string ⟨s.text.toArray⟩, .int .i64 0, .int .i64 0, .int .i64 0, .int .i64 s.num]
    simpa using this)
   have HSB := hD (show Blk w2 wr.heap.size 77 #[.string ⟨s.op.toArray⟩, .slice As args.length c, .int .i64 s.num, .string ⟨s.text.toArray⟩, .int .i64 ty] by rw [hw2]; exact (Blk.new _ _ _).alloc _)
   have HB2 := hD hb2
   have HR2 := hD ((HR.out.below hb2).more hb2.size)
   have y1 := HSB.out.cell 1
   simp only [gA, gB, gC] at y1
   have hm2 : w.heap.size < wr.heap.size := hml
   clear hw2 hb2 x0 x1 x2 x3 x4
   go_region_law (first | (refine step_copy_splice rfl (.tmp 28) (.tmp 30) 47 47 rfl 3 Tryz.underlying47 (by kernel_rfl) (some ⟨wr.heap.size + 1, 2, none⟩) As 3 3 args.length c rfl rfl (wr.heap.size + 1) 2 [.string ⟨s.op.toArray⟩, .string ⟨s.text.toArray⟩, .int .i64 0, .int .i64 0, .int .i64 0, .int .i64 s.num] 166 HKB.out (args.map (Value.int .i64)) (by rw [List.length_map]; exact (Nat.min_eq_left h0).symm) (fun hp => ⟨rfl, by obtain ⟨ad, e1, _, e3⟩ := HR2.out.2 (by simpa using hp); exact ⟨ad, e1, e3⟩⟩) (by simp; omega) (fun v hv => by obtain ⟨x, _, rfl⟩ := List.mem_map.1 hv; rfl) wr.heap.size wr HB2.out.drew (by omega) ?_; intro w3 hg3 hb3; have HG3 := hD hg3.out; have HB3 := hD hb3; clear hg3 hb3))
   rw [HSP.out] at HG3
   have HK3 := hD (show Blk w3 (wr.heap.size + 1) 166 #[.string ⟨s.op.toArray⟩, .string ⟨s.text.toArray⟩, .int .i64 s.a, .int .i64 s.b, .int .i64 s.c, .int .i64 s.num] from HG3.out)
   have z0 := HK3.out.cell 0
   have z1 := HK3.out.cell 1
   have z2 := HK3.out.cell 2
   have z3 := HK3.out.cell 3
   have z4 := HK3.out.cell 4
   have z5 := HK3.out.cell 5
   simp only [gA, gB, gC] at z0 z1 z2 z3 z4 z5
   have HM3 := hD (HMP.out.keep (HB3.out.block w.heap.size hml))
   have hlk := HM3.out.lookup (kdG w3) Tryz.underlying163 (fun _ _ => trivial) (z := .int .i64 0) (by kernel_rfl) s trivial true
   rw [HLK.out] at hlk
   have hlk : (Instr.lookup 163 (.map (some w.heap.size)) (.agg #[.string ⟨s.op.toArray⟩, .string ⟨s.text.toArray⟩, .int .i64 s.a, .int .i64 s.b, .int .i64 s.c, .int .i64 s.num]) true).run Tryz.prog w3 = .ok (.tuple #[.int .i64 0, .bool false]) w3 := hlk
   clear HG3 y1
   go_wp2_with (at_mapUpdate; refine kc8 rfl _ _ _ 163 rfl w.heap.size encK l 166 3 (fun _ => True) HM3.out (kdG w3) Tryz.underlying163 (fun _ _ => trivial) s trivial rfl rfl ?_)
   intro w4 hm4 hg4 hz4
   have HM4 := hD hm4
   have hw0 := HB.out.size
   have hw3 := HB3.out.size
   have HB4 := hD ((HB.out.trans (HB3.out.mono hw0)).grown hg4 (by omega) (fun j e => by injection e with e; omega))
   have HKS4 : Hid (∀ p ∈ updL l s (.int .i64 (k : Int)), ∃ j, j < k + 1 ∧ ks[j]? = some p.1) := hD (fun p hp => by
    rcases mem_upd hp with h | h
    ·
     exact ⟨k, by omega, by rw [h]; exact HS.out⟩
    ·
     obtain ⟨j, hj, hjs⟩ := HKS.out p h
     exact ⟨j, by omega, hjs⟩)
   have hz5 : w.heap.size < w4.heap.size := by omega
   clear hm4 hg4 hz4 hlk z0 z1 z2 z3 z4 z5
   go_wp2_with fail
   go_roundg f
   case measure => omega
   case rel => exact ⟨k + 1, _, by go_num, by omega, by omega, HM4, HKS4, HB4, hz5⟩
  ·
   have hkn : k = ks.length := by omega
   subst hkn
   have q0 : ¬ ((ks.length : Int) < (ks.length : Int)) := by omega
   go_wp2_with fail
   go_ret
   exact ⟨rfl, HB.out⟩
end Go.Proofs.YtamhdmkolfmmdaaGreatDoor
