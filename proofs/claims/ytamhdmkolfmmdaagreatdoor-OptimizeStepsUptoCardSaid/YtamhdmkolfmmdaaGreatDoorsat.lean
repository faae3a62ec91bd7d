/- The editor of optimize in memory; the walk of count. The walks of optimize.safe, remove, unused and apply at steps that are numbers. The walk of optimize.apply at an editor whose steps are different numbers (printed by gen_orl.py). The first steps of the fixed example: share and fold at 2, 3, 2 + 3. The walks of slices.Clone of steps and of optimize.newEditor. -/
import Derived.Test.YtamhdmkolfmmdaaGreatDoorsar
import Derived.Test.YtamhdmkolfmmdaaGreatDoorsao
import Derived.Test.YtamhdmkolfmmdaaGreatDoorsal
import Derived.Test.YtamhdmkolfmmdaaGreatDoorsam
import Derived.Test.YtamhdmkolfmmdaaGreatDoorsaa
import Derived.Test.YtamhdmkolfmmdaaGreatDoorsan
import Derived.Test.YtamhdmkolfmmdaaGreatDoorsae
import Derived.Deep.RegionHeld3
import Derived.Lib.SliceRun
set_option linter.unusedVariables false
set_option linter.unusedSimpArgs false
namespace Go.Proofs.YtamhdmkolfmmdaaGreatDoor
open Go.RowKit
set_option maxRecDepth 100000
set_option maxHeartbeats 8000000
def StAt (w : World) (g gs i : Nat) (s : St) : Prop := ∃ (As : Option Addr) (c : Nat),
 w.cell? ⟨gs, i * 5, none⟩ = some (.string ⟨s.op.toArray⟩) ∧ w.cell? ⟨gs, i * 5 + 1, none⟩ = some (.slice As s.args.length c) ∧ w.cell? ⟨gs, i * 5 + 2, none⟩ = some (.int .i64 s.num) ∧ w.cell? ⟨gs, i * 5 + 3, none⟩ = some (.string ⟨s.text.toArray⟩) ∧ w.cell? ⟨gs, i * 5 + 4, none⟩ = some (.int .i64 s.ty) ∧
 RdF w (fun b => b ≠ g ∧ b ≠ gs) 1 As s.args.length (s.args.map (Value.int .i64))
structure EdAt (w : World) (g gs cap : Nat) (l : List St) (V : Value) : Prop where
 ed : Blk w g 85 #[.slice (some ⟨gs, 0, none⟩) l.length cap, V]
 st : ∀ i s, l[i]? = some s → StAt w g gs i s
 blk : ∃ cs, Blk w gs 77 cs ∧ cs.size = cap * 5 ∧ ∀ i v, i < l.length * 5 → cs[i]? = some v → v.oneCell' = true
 le : l.length ≤ cap
 cap : l.length ≤ 100000
theorem StAt.keep {w w' : World} {g gs i : Nat} {s : St} (h : StAt w g gs i s) (hgs : w'.heap[gs]? = w.heap[gs]?) (hk : ∀ b, b ≠ g → b ≠ gs → b < w.heap.size → w'.heap[b]? = w.heap[b]?) (hs : w.heap.size ≤ w'.heap.size) : StAt w' g gs i s := by
 obtain ⟨As, c, x0, x1, x2, x3, x4, hr⟩ := h
 have hc : ∀ j, w'.cell? ⟨gs, j, none⟩ = w.cell? ⟨gs, j, none⟩ := fun j => World.cell?_of_block hgs
 exact ⟨As, c, (hc _).trans x0, (hc _).trans x1, (hc _).trans x2, (hc _).trans x3, (hc _).trans x4, hr.keep (fun b hb hl => hk b hb.1 hb.2 hl) hs (fun _ hb _ => hb)⟩
theorem EdAt.gs_lt {w : World} {g gs cap : Nat} {l : List St} {V : Value} (h : EdAt w g gs cap l V) : gs < w.heap.size := by obtain ⟨cs, hb, _⟩ := h.blk; exact hb.lt
theorem EdAt.ne {w : World} {g gs cap : Nat} {l : List St} {V : Value} (h : EdAt w g gs cap l V) : g ≠ gs := by obtain ⟨cs, hb, _⟩ := h.blk; exact h.ed.ne_ hb (by decide)
theorem EdAt.below {w w' : World} {g gs cap : Nat} {l : List St} {V : Value} (h : EdAt w g gs cap l V) (hb : Below w.heap.size w w') : EdAt w' g gs cap l V :=
 ⟨h.ed.below hb h.ed.lt, fun i s hs => (h.st i s hs).keep (hb.block gs h.gs_lt) (fun b _ _ hl => hb.block b hl) hb.size, by obtain ⟨cs, e1, e2⟩ := h.blk; exact ⟨cs, e1.below hb e1.lt, e2⟩, h.le, h.cap⟩
theorem EdAt.turn {w w' : World} {g gs cap : Nat} {l : List St} {V V' : Value} (h : EdAt w g gs cap l V) (hg : w.grownBy w' (some g)) (he : Blk w' g 85 #[.slice (some ⟨gs, 0, none⟩) l.length cap, V']) : EdAt w' g gs cap l V' := by
 have hn : some gs ≠ some g := fun e => h.ne (by injection e with e; exact e.symm)
 refine ⟨he, fun i s hs => (h.st i s hs).keep (hg.block gs h.gs_lt hn) (fun b hb _ hl => hg.block b hl (fun e => hb (by injection e))) hg.size, ?_, h.le, h.cap⟩
 obtain ⟨cs, e1, e2⟩ := h.blk
 exact ⟨cs, e1.grown hg hn, e2⟩
def OcRel (w : World) (g gs cap : Nat) (l : List St) (f : Nat) (i : Value) (wr : World) : Prop := ∃ k : Nat, i = .int .i64 k ∧ k ≤ l.length ∧ l.length - k < f ∧ Hid (Blk wr w.heap.size 3 (uarr (ka6 l k))) ∧ Hid (Blk wr g 85 #[.slice (some ⟨gs, 0, none⟩) l.length cap, .slice (some ⟨w.heap.size, 0, none⟩) l.length l.length]) ∧ Hid (w.grownBy wr (some g))
def OiRel (w : World) (g gs cap n : Nat) (z args : List Int) (f : Nat) (i : Value) (wr : World) : Prop := ∃ k : Nat, i = .int .i64 k ∧ k ≤ args.length ∧ args.length - k < f ∧ Hid (Blk wr w.heap.size 3 (uarr (bumps z (args.take k)))) ∧ Hid (Blk wr g 85 #[.slice (some ⟨gs, 0, none⟩) n cap, .slice (some ⟨w.heap.size, 0, none⟩) n n]) ∧ Hid (w.grownBy wr (some g))
theorem kfT {w w' : World} {g : Nat} (h : w.grownBy w' (some g)) {p : Addr} (hp : p.block < w.heap.size) (hne : p.block ≠ g) : w'.cell? p = w.cell? p := World.cell?_of_block (h.block _ hp (fun e => hne (by injection e)))
theorem kfg {w w' : World} {r : Option Nat} (h : w.grownBy w' r) (o : Obj) : w.grownBy (w'.alloc o) r := ⟨h.os, h.tape, h.output, Nat.le_trans h.size (by simp), fun i hi hne => (Below.heap_alloc w' o i (Nat.lt_of_lt_of_le hi h.size)).trans (h.block i hi hne)⟩
theorem kgD {w w' : World} {g : Nat} (h : w.grownBy w' (some g)) {p : Addr} (hp : p.block = g ∨ w.heap.size ≤ p.block) (u : Value) : w.grownBy (w'.setCell p u) (some g) := ⟨h.os, h.tape, h.output, Nat.le_trans h.size (by simp), fun i hi hne => (Below.heap_setCell w' p u i (fun e => by rcases hp with hp | hp; exact hne (by rw [e, hp]); omega)).trans (h.block i hi hne)⟩
theorem keP (g gs cap : Nat) (l : List St) (V : Value) (w : World) (h : EdAt w g gs cap l V) (hr : ∀ s ∈ l, s.args.length ≤ 3 ∧ ∀ a ∈ s.args, 0 ≤ a ∧ a < (l.length : Int)) :
  Calls Tryz.prog 41 #[.pointer (some ⟨g, 0, none⟩)] w fun e w' => e = .returned (.tuple #[]) ∧ EdAt w' g gs cap l (.slice (some ⟨w.heap.size, 0, none⟩) l.length l.length) ∧ Blk w' w.heap.size 3 (uarr (kag l)) ∧ w.grownBy w' (some g) := by
 have t34q0 := True.intro
 exact y13
def kaE (n : Int) : St := ⟨[110, 117, 109, 98, 101, 114], [], n, [], 1⟩
def kaI (ns : List Int) : List St := ns.map kaE
theorem kbb (ns : List Int) : (kaI ns).length = ns.length := by unfold kaI; simp
theorem kee {ns : List Int} {i : Nat} {s : St} (h : (kaI ns)[i]? = some s) : ∃ n, ns[i]? = some n ∧ s = kaE n := by
 unfold kaI at h
 rw [List.getElem?_map] at h
 cases hn : ns[i]? with
 | none => rw [hn] at h; cases h
 | some n => rw [hn] at h; exact ⟨n, rfl, by simpa using h.symm⟩
theorem StAt.num {w : World} {g gs i : Nat} {n : Int} (h : StAt w g gs i (kaE n)) : ∃ As c, kcn w gs i As c n ⟨#[]⟩ 1 := by
 obtain ⟨As, c, x0, x1, x2, x3, x4, _⟩ := h
 exact ⟨As, c, x0, x1, x2, x3, x4⟩
theorem safe_num (As : Option Addr) (c : Nat) (n : Int) (hn : n ≤ 1000) (w : World) : Calls Tryz.prog 122 #[.agg #[.string ⟨#[110, 117, 109, 98, 101, 114]⟩, .slice As 0 c, .int .i64 n, .string ⟨#[]⟩, .int .i64 1]] w fun e w' => e = .returned (.bool true) ∧ Below w.heap.size w w' := by
 have q0 : n ≤ 1152921504606846976 := by omega
 go_enter Tryz.func122, Tryz.ntmps122
 go_wp2_with fail
 go_ret
 exact ⟨rfl, (Below.refl _ _).alloc (Nat.le_refl _) _⟩
theorem EdAt.tail {w w1 w2 : World} {g gs cap n : Nat} {s0 : St} {l : List St} {V : Value} (h : EdAt w g gs cap (s0 :: l) V) (hn : n = l.length) (hg1 : w.grownBy w1 (some gs)) (cs' : Array Value) (hb1 : Blk w1 gs 77 cs')
  (hsz : ∀ cs, Blk w gs 77 cs → cs'.size = cs.size ∧ (∀ i, i < n * 5 → cs'[i]? = cs[5 + i]?) ∧ ∀ i v, i < n * 5 → cs'[i]? = some v → v.oneCell' = true) (he : w2 = w1.setCell ⟨g, 0, none⟩ (.slice (some ⟨gs, 0, none⟩) n cap)) : EdAt w2 g gs cap l V ∧ Kept (fun b => b = g ∨ b = gs) w w2 := by
 subst hn he
 obtain ⟨cs, e1, e2, e3⟩ := h.blk
 obtain ⟨z1, z2, z3⟩ := hsz cs e1
 have hne := h.ne
 have hE1 : Blk w1 g 85 #[.slice (some ⟨gs, 0, none⟩) (s0 :: l).length cap, V] := h.ed.grown hg1 (fun e => hne (by injection e))
 have hk : Kept (fun b => b = g ∨ b = gs) w (w1.setCell ⟨g, 0, none⟩ (.slice (some ⟨gs, 0, none⟩) l.length cap)) := (Kept.of_grown hg1 (fun b e => .inr (by injection e with e; exact e.symm))).setCell (p := ⟨g, 0, none⟩) (.inl (.inl rfl)) _
 have hgs : (w1.setCell ⟨g, 0, none⟩ (.slice (some ⟨gs, 0, none⟩) l.length cap)).heap[gs]? = w1.heap[gs]? := Below.heap_setCell w1 ⟨g, 0, none⟩ _ gs (fun e => hne e.symm)
 refine ⟨⟨hE1.set_ 0 _, fun i s hs => ?_, ⟨cs', hb1.far (p := ⟨g, 0, none⟩) (fun e => hne e.symm) _, z1.trans e2, z3⟩, by have := h.le; simp at this; omega, by have := h.cap; simp at this; omega⟩, hk⟩
 obtain ⟨As, c, x0, x1, x2, x3, x4, hr⟩ := h.st (i + 1) s (by simpa using hs)
 have hil := (gH hs).1
 have hc : ∀ j, j < 5 → (w1.setCell ⟨g, 0, none⟩ (.slice (some ⟨gs, 0, none⟩) l.length cap)).cell? ⟨gs, i * 5 + j, none⟩ = w.cell? ⟨gs, (i + 1) * 5 + j, none⟩ := fun j hj => by
  rw [World.cell?_of_block (a := ⟨gs, i * 5 + j, none⟩) hgs, hb1.cell, e1.cell, z2 _ (by omega), show 5 + (i * 5 + j) = (i + 1) * 5 + j by omega]
 exact ⟨As, c, (hc 0 (by omega)).trans x0, (hc 1 (by omega)).trans x1, (hc 2 (by omega)).trans x2, (hc 3 (by omega)).trans x3, (hc 4 (by omega)).trans x4, hr.keep (fun b hb hl => hk.block b hl (fun e => e.elim hb.1 hb.2)) hk.size (fun _ hb _ => hb)⟩
def RmRel (w : World) (n f : Nat) (i : Value) (wr : World) : Prop := ∃ k : Nat, i = .int .i64 k ∧ k ≤ n ∧ n - k < f ∧ Hid (Below w.heap.size w wr)
theorem remove0 (g gs cap : Nat) (s0 : St) (l : List St) (V : Value) (w : World) (h : EdAt w g gs cap (s0 :: l) V) (hl : 1 ≤ l.length) (ha : ∀ s ∈ l, s.args = []) :
  Calls Tryz.prog 116 #[.pointer (some ⟨g, 0, none⟩), .int .i64 0] w fun e w' => e = .returned (.tuple #[]) ∧ EdAt w' g gs cap l V ∧ Kept (fun b => b = g ∨ b = gs) w w' := by
 obtain ⟨cs, e1, e2, e3⟩ := h.blk
 have hle := h.le
 have hcap := h.cap
 rw [List.length_cons] at hle hcap
 have x0 := h.ed.cell 0
 simp only [gA, gB] at x0
 obtain ⟨n, hn⟩ := xE l.length
 rw [List.length_cons, ← hn] at x0
 obtain ⟨m, hm⟩ := xE (n + 1)
 have hnb : n ≤ 100000 := by omega
 have hd := delete0 gs n cap cs w e1 e2 (by omega) (by omega) hnb (fun i v hi hv => e3 i v (by rw [List.length_cons]; omega) hv)
 rw [← hm] at hd x0
 have HD := hD hd
 have HH := hD h
 have HN := hD hn
 have HC := hD e1
 have HA := hD ha
 have hgl := h.ed.lt
 have HNE := hD h.ne
 clear hd h e1 e2 e3 ha hn hm
 go_enter Tryz.func116, Tryz.ntmps116
 go_wp2_with fail
 refine HD.out.mono ?_
 rintro e w1 ⟨rfl, hg1, cs', hb1, hs1, hc1, ho1⟩
 obtain ⟨w2, hw2⟩ := xE (w1.setCell ⟨g, 0, none⟩ (.slice (some ⟨gs, 0, none⟩) n cap))
 have ht := HH.out.tail HN.out hg1 cs' hb1 (fun cs0 h0 => by
  have : cs0 = cs := by have := h0.symm.trans HC.out; injection this with this; injection this
  subst this
  exact ⟨hs1, hc1, ho1⟩) hw2
 have HT := hD ht
 have hE1 : Blk w1 g 85 #[.slice (some ⟨gs, 0, none⟩) (s0 :: l).length cap, V] := HH.out.ed.grown hg1 (fun e => HNE.out (by injection e))
 have y0 := hE1.cell 0
 simp only [gA, gB] at y0
 have y1 := hE1.frozen 0
 have HW2 := hD hw2
 clear hg1 hb1 hs1 hc1 ho1 ht hE1 hw2 HD
 go_upto_region 1 with (fail)
 rw [← HW2.out]
 have z0 := HT.out.1.ed.cell 0
 simp only [gA, gB] at z0
 rw [← HN.out] at z0
 have hgl2 := HT.out.1.gs_lt
 have HN2 := hD HN.out
 clear y0 y1 x0 HW2 HN
 go_wp2_with fail
 clear z0
 go_loopg [5, 6, 7, 26, 33] (n + 1) (fun f _ _ _ i _ wr => RmRel w2 n f i wr)
 case atStart => exact ⟨0, rfl, by omega, by omega, hD (Below.refl _ _)⟩
 case round =>
  obtain ⟨k, rfl, hk, hkf, HB⟩ := hrel
  obtain ⟨f, rfl⟩ : ∃ f, gk = f + 1 := ⟨gk - 1, by omega⟩
  by_cases hlt : k < n
  ·
   obtain ⟨s, hs⟩ : ∃ s, l[k]? = some s := ⟨l[k]'(by have := HN2.out; omega), List.getElem?_eq_getElem _⟩
   have has := HA.out s (List.mem_of_getElem? hs)
   obtain ⟨As, c, x0, x1, x2, x3, x4, _⟩ := HT.out.1.st k s hs
   have hgc := fun j => HB.out.cell (p := ⟨gs, j, none⟩) hgl2
   replace x0 := (hgc _).trans x0
   replace x1 := (hgc _).trans x1
   replace x2 := (hgc _).trans x2
   replace x3 := (hgc _).trans x3
   replace x4 := (hgc _).trans x4
   rw [has] at x1
   obtain ⟨op, args, num, text, ty⟩ := s
   dsimp only [List.length_nil] at x0 x1 x2 x3 x4
   have q0 : (k : Int) < (n : Int) := by omega
   have q1 : (0 : Int) ≤ (k : Int) := by omega
   have HB3 := hD (HB.out.alloc HB.out.size (.cells #[.string ⟨op.toArray⟩, .slice As 0 c, .int .i64 num, .string ⟨text.toArray⟩, .int .i64 ty] 77))
   clear hs has hgc HB
   go_wp2_with fail
   go_loopg [6, 7, 33] 1 (fun f _ _ i wi => i = .int .i64 0 ∧ 0 < f ∧ Hid (Below w2.heap.size w2 wi))
   case atStart => exact ⟨rfl, by omega, HB3⟩
   case round =>
    obtain ⟨rfl, hf0, HBi⟩ := hrel
    clear HB3
    go_wp2_with fail
    go_roundg f
    case measure => omega
    case rel => exact ⟨k + 1, by go_num, by omega, by omega, HBi⟩
  ·
   have hkn : k = n := by omega
   subst hkn
   have q0 : ¬ ((k : Int) < (k : Int)) := by omega
   go_wp2_with fail
   refine bodyPost_end (v := .tuple #[]) (by simp [results, Tryz.results116, go_sem]) rfl ?_
   exact ⟨rfl, HT.out.1.below HB.out, HT.out.2.trans ⟨HB.out.os, HB.out.tape, HB.out.output, HB.out.size, fun i hi _ => HB.out.block i hi⟩⟩
theorem kiq (g gs gu cap : Nat) (n0 : Int) (ns : List Int) (w : World) (h : EdAt w g gs cap (kaI (n0 :: ns)) (.slice (some ⟨gu, 0, none⟩) (ns.length + 1) (ns.length + 1))) (hu : w.cell? ⟨gu, 0, none⟩ = some (.int .i64 0)) (hl : 1 ≤ ns.length) (h0 : n0 ≤ 1000) :
  Calls Tryz.prog 77 #[.pointer (some ⟨g, 0, none⟩), .int .i64 0] w fun e w' => e = .returned (.bool true) ∧ EdAt w' g gs cap (kaI ns) (.slice (some ⟨gu, 0, none⟩) (ns.length + 1) (ns.length + 1)) ∧ Kept (fun b => b = g ∨ b = gs) w w' := by
 have hle := h.le
 have hcap := h.cap
 rw [kbb, List.length_cons] at hle hcap
 obtain ⟨n, hn⟩ := xE ns.length
 obtain ⟨m, hm⟩ := xE (n + 1)
 have x0 := h.ed.cell 0
 have x1 := h.ed.cell 1
 simp only [gA, gB, gC] at x0 x1
 rw [kbb, List.length_cons, ← hn, ← hm] at x0
 rw [← hn, ← hm] at x1
 obtain ⟨As, c, y0, y1, y2, y3, y4, _⟩ := h.st 0 (kaE n0) rfl
 rw [Nat.zero_mul] at y0
 simp only [Nat.zero_mul, Nat.zero_add] at y1 y2 y3 y4
 have y0 : w.cell? ⟨gs, 0, none⟩ = some (.string ⟨#[110, 117, 109, 98, 101, 114]⟩) := y0
 have y1 : w.cell? ⟨gs, 1, none⟩ = some (.slice As 0 c) := y1
 have y2 : w.cell? ⟨gs, 2, none⟩ = some (.int .i64 n0) := y2
 have y3 : w.cell? ⟨gs, 3, none⟩ = some (.string ⟨#[]⟩) := y3
 have y4 : w.cell? ⟨gs, 4, none⟩ = some (.int .i64 1) := y4
 have HH := hD h
 have HN := hD hn
 have HM := hD hm
 have q0 : (0 : Int) < (m : Int) := by omega
 have q1 : ((0 : Int) == (m : Int) - 1) = false := beq_eq_false_iff_ne.2 (by omega)
 have q2 : ¬ ((0 : Int) = (m : Int) - 1) := by omega
 have hw1 := IntWalk.i64_in ((m : Int) - 1) (by omega)
 have HS := hD (safe_num As c n0 h0 w)
 clear h hn hm
 go_enter Tryz.func77, Tryz.ntmps77
 go_wp2_with fail
 refine HS.out.mono ?_
 rintro e w1 ⟨rfl, hb1⟩
 have HE1 := hD (HH.out.below hb1)
 have hk1 : Kept (fun b => b = g ∨ b = gs) w w1 := ⟨hb1.os, hb1.tape, hb1.output, hb1.size, fun i hi _ => hb1.block i hi⟩
 have HK1 := hD hk1
 have HR := hD (remove0 g gs cap (kaE n0) (kaI ns) _ w1 HE1.out (by rw [kbb]; exact hl) (fun s hs => by obtain ⟨i, hi⟩ := List.getElem?_of_mem hs; obtain ⟨k, _, rfl⟩ := kee hi; rfl))
 clear hb1 hk1 HS
 go_wp2_with fail
 refine HR.out.mono ?_
 rintro e w2 ⟨rfl, he2, hk2⟩
 have HE2 := hD he2
 have HK2 := hD (HK1.out.then_ hk2)
 clear he2 hk2 HR
 go_wp2_with fail
 go_ret
 exact ⟨rfl, HE2.out, HK2.out⟩
theorem kjT (g gs cap : Nat) (s0 : St) (V : Value) (w : World) (h : EdAt w g gs cap [s0] V) :
  Calls Tryz.prog 77 #[.pointer (some ⟨g, 0, none⟩), .int .i64 0] w fun e w' => e = .returned (.bool false) ∧ Below w.heap.size w w' := by
 have x0 := h.ed.cell 0
 simp only [gA, gB, List.length_singleton] at x0
 clear h
 go_enter Tryz.func77, Tryz.ntmps77
 go_wp2_with fail
 go_ret
 exact ⟨rfl, Below.refl _ _⟩
theorem z1 {P : Prop} (h : P := by
 have hmf : ∀ (fn : Fn) (first cap : Array Value) (w : World), (Instr.makeFunc fn first cap).run Tryz.prog w = .ok (.func fn first cap) w := fun _ _ _ _ => rfl
 clear h
 go_enter Tryz.func40, Tryz.ntmps40
 go_wp2_with fail
 refine HS.out.mono ?_
 rintro e w1 ⟨rfl, h1⟩
 have H1 := hD h1
 clear h1
 go_wp2_with fail
 go_ret
 exact ⟨rfl, H1.out⟩) : P := h
theorem z16 {P : Prop} (h : P := by
 have HS := hD hS
 have hmf : ∀ (fn : Fn) (first cap : Array Value) (w : World), (Instr.makeFunc fn first cap).run Tryz.prog w = .ok (.func fn first cap) w := fun _ _ _ _ => rfl
 clear h hS
 go_enter Tryz.func40, Tryz.ntmps40
 go_wp2_with fail
 refine HS.out.mono ?_
 rintro e w1 ⟨rfl, h1⟩
 have H1 := hD h1
 clear h1
 go_wp2_with fail
 go_ret
 exact ⟨rfl, H1.out⟩) : P := h
theorem kmb (z : List Int) : bumps z [] = z := rfl
theorem kjS (ns : List Int) (k : Nat) : ka6 (kaI ns) k = List.replicate (kaI ns).length 0 := by
 unfold ka6
 have : ∀ (t : List St) (z : List Int), (∀ s ∈ t, s.args = []) → t.foldl (fun z s => bumps z s.args) z = z := by
  intro t
  induction t with
  | nil => intro z _; rfl
  | cons s t ih => intro z h; rw [List.foldl_cons, h s (List.mem_cons_self ..), kmb]; exact ih z (fun s hs => h s (List.mem_cons_of_mem _ hs))
 exact this _ _ (fun s hs => by
  obtain ⟨i, hi⟩ := List.getElem?_of_mem (List.mem_of_mem_take hs)
  obtain ⟨n, _, rfl⟩ := kee hi
  rfl)
def EdS (w0 w : World) (g gs cap : Nat) (l : List St) : Prop := Kept (fun b => b = g ∨ b = gs) w0 w ∧ ∃ V, EdAt w g gs cap l V
def NumE (w0 w : World) (g gs cap : Nat) (ns : List Int) : Prop := Kept (fun b => b = g ∨ b = gs) w0 w ∧ ∃ gu, EdAt w g gs cap (kaI ns) (.slice (some ⟨gu, 0, none⟩) ns.length ns.length) ∧ Blk w gu 3 (uarr (List.replicate ns.length 0))
theorem NumE.below {w0 w w' : World} {g gs cap : Nat} {ns : List Int} (h : NumE w0 w g gs cap ns) (hb : Below w.heap.size w w') : NumE w0 w' g gs cap ns := by
 obtain ⟨h1, gu, h5, h6⟩ := h
 exact ⟨h1.then_ (Kept.of_below hb), gu, h5.below hb, h6.below hb h6.lt⟩
theorem ken {w0 w : World} {g gs cap : Nat} {ns : List Int} (h : EdS w0 w g gs cap (kaI ns)) : Calls Tryz.prog 41 #[.pointer (some ⟨g, 0, none⟩)] w fun e w' => e = .returned (.tuple #[]) ∧ NumE w0 w' g gs cap ns := by
 obtain ⟨h1, V, h5⟩ := h
 refine (keP g gs cap (kaI ns) V w h5 (fun s hs => ?_)).mono ?_
 ·
  obtain ⟨i, hi⟩ := List.getElem?_of_mem hs
  obtain ⟨n, _, rfl⟩ := kee hi
  exact ⟨by simp [kaE], fun a ha => by cases ha⟩
 ·
  rintro e w' ⟨rfl, he, hu, hg⟩
  rw [kbb] at he
  refine ⟨rfl, h1.then_ (Kept.of_grown hg (fun b e => .inl (by injection e with e; exact e.symm))), _, he, ?_⟩
  have := kjS ns (kaI ns).length
  unfold kag at hu
  rw [this, kbb] at hu
  exact hu
def keyN (n : Int) : KeyS := ⟨[110, 117, 109, 98, 101, 114], [], 0, 0, 0, n⟩
def Diff (ns : List Int) : Prop := ∀ j k, j < k → k < ns.length → ns[j]? ≠ ns[k]?
theorem kkb {w0 w : World} {g gs cap : Nat} {ns : List Int} (h : NumE w0 w g gs cap ns) (hd : Diff ns) : Calls Tryz.prog 66 #[.pointer (some ⟨g, 0, none⟩)] w fun e w' => e = .returned (.bool false) ∧ NumE w0 w' g gs cap ns := by
 have h' := h
 obtain ⟨h1, gu, h5, h6⟩ := h
 have hl : (ns.map keyN).length = ns.length := by simp
 have hx := h5.ed.cell 0
 simp only [gA, gB] at hx
 rw [kbb, ← hl] at hx
 have hcap := h5.cap
 have hle := h5.le
 rw [kbb] at hle hcap
 refine (kfJ g gs cap (ns.map keyN) (fun j k hj hk e => ?_) (by omega) w h5.ed.lt hx (fun i k hk => ?_)).mono ?_
 ·
  rw [List.getElem?_map, List.getElem?_map] at e
  rw [hl] at hk
  refine hd j k hj hk ?_
  rw [List.getElem?_eq_getElem hk, List.getElem?_eq_getElem (by omega)] at e ⊢
  simp only [Option.map_some, Option.some.injEq, keyN, KeyS.mk.injEq, true_and] at e
  rw [e]
 ·
  rw [List.getElem?_map] at hk
  cases hn : ns[i]? with
  | none => rw [hn] at hk; cases hk
  | some n =>
   rw [hn] at hk
   simp only [Option.map_some, Option.some.injEq] at hk
   subst hk
   obtain ⟨As, c, x0, x1, x2, x3, x4, hr⟩ := h5.st i (kaE n) (by unfold kaI; rw [List.getElem?_map, hn]; rfl)
   exact ⟨As, c, [], 1, by simp, rfl, rfl, rfl, h5.gs_lt, x0, x1, x2, x3, x4, hr.reads⟩
 ·
  rintro e w' ⟨rfl, hb⟩
  exact ⟨rfl, h'.below hb⟩
theorem kbx (F : Nat) (hcf : ∀ (p x : Value) (w : World), (callFunc F #[p, x]).run Tryz.prog w = .ok (.enter F #[p, x]) w)
  (hF : ∀ (g gs n cap i : Nat) (As : Option Addr) (cs : Nat) (num ty : Int) (T : ByteArray) (w : World), w.cell? ⟨g, 0, none⟩ = some (.slice (some ⟨gs, 0, none⟩) n cap) → i < n → kcn w gs i As cs num T ty → Calls Tryz.prog F #[.pointer (some ⟨g, 0, none⟩), .int .i64 i] w fun e w' => e = .returned (.bool false) ∧ Below w.heap.size w w')
  {w0 w : World} {g gs cap : Nat} {ns : List Int} (h : NumE w0 w g gs cap ns) : Calls Tryz.prog 67 #[.pointer (some ⟨g, 0, none⟩), .func (.func F) #[.pointer (some ⟨g, 0, none⟩)] #[]] w fun e w' => e = .returned (.bool false) ∧ NumE w0 w' g gs cap ns := by
 have hb : ns.length ≤ 100000 := by
  obtain ⟨_, gu, h5, _⟩ := h
  have := h5.cap
  rw [kbb] at this
  omega
 have hc : ∀ w, NumE w0 w g gs cap ns → w.cell? ⟨g, 0, none⟩ = some (.slice (some ⟨gs, 0, none⟩) ns.length cap) := fun w h => by
  obtain ⟨_, gu, h5, _⟩ := h
  have := h5.ed.cell 0
  simpa [kbb] using this
 refine (kc3 F g gs ns.length cap ns.length (fun w => NumE w0 w g gs cap ns) (fun _ => False) hb (Nat.le_refl _) (fun x w => hcf _ x w) hc (fun i w hi hw => ?_) (fun w hk => by omega) w h).mono ?_
 ·
  have hw' := hw
  obtain ⟨_, gu, h5, _⟩ := hw
  obtain ⟨As, c, hx⟩ := (h5.st i (kaE ns[i]) (by unfold kaI; rw [List.getElem?_map, List.getElem?_eq_getElem hi]; rfl)).num
  refine (hF g gs ns.length cap i As c _ 1 _ w (hc w hw') hi hx).mono ?_
  rintro e w' ⟨rfl, hb⟩
  exact ⟨rfl, hw'.below hb⟩
 ·
  rintro e w' (⟨h, _⟩ | ⟨_, rfl, h⟩)
  ·
   omega
  ·
   exact ⟨rfl, h⟩
theorem kjk {w0 w : World} {g gs cap : Nat} {ns : List Int} (h : NumE w0 w g gs cap ns) (hd : Diff ns) : Calls Tryz.prog 40 #[.pointer (some ⟨g, 0, none⟩), .string ⟨#[115, 104, 97, 114, 101]⟩] w fun e w' => e = .returned (.bool false) ∧ NumE w0 w' g gs cap ns := by
 have HS := hD (kkb h hd)
 exact z1
theorem kk0 {w0 w : World} {g gs cap : Nat} {ns : List Int} (h : NumE w0 w g gs cap ns) : Calls Tryz.prog 40 #[.pointer (some ⟨g, 0, none⟩), .string ⟨#[102, 111, 108, 100]⟩] w fun e w' => e = .returned (.bool false) ∧ NumE w0 w' g gs cap ns := by
 have HS := hD (kbx 68 (fun _ _ _ => by kernel_rfl) (fun g gs n cap i As cs num ty T w hg hi x => kfx g gs n cap i As cs num ty T w hg hi x) h)
 exact z1
theorem khk {w0 w : World} {g gs cap : Nat} {ns : List Int} (h : NumE w0 w g gs cap ns) : Calls Tryz.prog 40 #[.pointer (some ⟨g, 0, none⟩), .string ⟨#[110, 101, 117, 116, 114, 97, 108]⟩] w fun e w' => e = .returned (.bool false) ∧ NumE w0 w' g gs cap ns := by
 have HS := hD (kbx 69 (fun _ _ _ => by kernel_rfl) (fun g gs n cap i As cs num ty T w hg hi x => kiP g gs n cap i As cs num ty T w hg hi x) h)
 exact z1
theorem kif {w0 w : World} {g gs cap : Nat} {ns : List Int} (h : NumE w0 w g gs cap ns) : Calls Tryz.prog 40 #[.pointer (some ⟨g, 0, none⟩), .string ⟨#[110, 101, 103, 97, 116, 101]⟩] w fun e w' => e = .returned (.bool false) ∧ NumE w0 w' g gs cap ns := by
 have HS := hD (kbx 70 (fun _ _ _ => by kernel_rfl) (fun g gs n cap i As cs num ty T w hg hi x => kku g gs n cap i As cs num ty T w hg hi x) h)
 exact z1
theorem kik {w0 w : World} {g gs cap : Nat} {ns : List Int} (h : NumE w0 w g gs cap ns) : Calls Tryz.prog 40 #[.pointer (some ⟨g, 0, none⟩), .string ⟨#[99, 111, 109, 109, 111, 110]⟩] w fun e w' => e = .returned (.bool false) ∧ NumE w0 w' g gs cap ns := by
 have HS := hD (kbx 71 (fun _ _ _ => by kernel_rfl) (fun g gs n cap i As cs num ty T w hg hi x => kkS g gs n cap i As cs num ty T w hg hi x) h)
 exact z1
theorem khl {w0 w : World} {g gs cap : Nat} {ns : List Int} (h : NumE w0 w g gs cap ns) : Calls Tryz.prog 40 #[.pointer (some ⟨g, 0, none⟩), .string ⟨#[109, 97, 116, 99, 104, 101, 115]⟩] w fun e w' => e = .returned (.bool false) ∧ NumE w0 w' g gs cap ns := by
 have HS := hD (kbx 72 (fun _ _ _ => by kernel_rfl) (fun g gs n cap i As cs num ty T w hg hi x => ki2 g gs n cap i As cs num ty T w hg hi x) h)
 exact z1
theorem kf0 {w0 w : World} {g gs cap : Nat} {ns : List Int} (h : NumE w0 w g gs cap ns) : Calls Tryz.prog 40 #[.pointer (some ⟨g, 0, none⟩), .string ⟨#[102, 105, 114, 115, 116, 102, 105, 110, 100]⟩] w fun e w' => e = .returned (.bool false) ∧ NumE w0 w' g gs cap ns := by
 have HS := hD (kbx 73 (fun _ _ _ => by kernel_rfl) (fun g gs n cap i As cs num ty T w hg hi x => kg9 g gs n cap i As cs num ty T w hg hi x) h)
 exact z1
theorem kii {w0 w : World} {g gs cap : Nat} {ns : List Int} (h : NumE w0 w g gs cap ns) : Calls Tryz.prog 40 #[.pointer (some ⟨g, 0, none⟩), .string ⟨#[108, 101, 110, 99, 117, 116]⟩] w fun e w' => e = .returned (.bool false) ∧ NumE w0 w' g gs cap ns := by
 have HS := hD (kbx 74 (fun _ _ _ => by kernel_rfl) (fun g gs n cap i As cs num ty T w hg hi x => kkG g gs n cap i As cs num ty T w hg hi x) h)
 exact z1
theorem kig {w0 w : World} {g gs cap : Nat} {ns : List Int} (h : NumE w0 w g gs cap ns) : Calls Tryz.prog 40 #[.pointer (some ⟨g, 0, none⟩), .string ⟨#[108, 101, 110, 115, 117, 109]⟩] w fun e w' => e = .returned (.bool false) ∧ NumE w0 w' g gs cap ns := by
 have HS := hD (kbx 75 (fun _ _ _ => by kernel_rfl) (fun g gs n cap i As cs num ty T w hg hi x => kkz g gs n cap i As cs num ty T w hg hi x) h)
 exact z1
theorem kih {w0 w : World} {g gs cap : Nat} {ns : List Int} (h : NumE w0 w g gs cap ns) : Calls Tryz.prog 40 #[.pointer (some ⟨g, 0, none⟩), .string ⟨#[108, 101, 110, 114, 101, 112]⟩] w fun e w' => e = .returned (.bool false) ∧ NumE w0 w' g gs cap ns := by
 have HS := hD (kbx 76 (fun _ _ _ => by kernel_rfl) (fun g gs n cap i As cs num ty T w hg hi x => kkD g gs n cap i As cs num ty T w hg hi x) h)
 exact z1
theorem khi {w0 w : World} {g gs cap : Nat} {n : Int} (h : NumE w0 w g gs cap [n]) : Calls Tryz.prog 40 #[.pointer (some ⟨g, 0, none⟩), .string ⟨#[117, 110, 117, 115, 101, 100]⟩] w fun e w' => e = .returned (.bool false) ∧ NumE w0 w' g gs cap [n] := by
 have hS : Calls Tryz.prog 67 #[.pointer (some ⟨g, 0, none⟩), .func (.func 77) #[.pointer (some ⟨g, 0, none⟩)] #[]] w fun e w' => e = .returned (.bool false) ∧ NumE w0 w' g gs cap [n] := by
  refine (kc3 77 g gs 1 cap 1 (fun w => NumE w0 w g gs cap [n]) (fun _ => False) (by omega) (Nat.le_refl _) (fun x w => by kernel_rfl) (fun w h => ?_) (fun i w hi hw => ?_) (fun w hk => by omega) w h).mono ?_
  ·
   obtain ⟨_, gu, h5, _⟩ := h
   have := h5.ed.cell 0
   simpa [kbb] using this
  ·
   have hw' := hw
   obtain ⟨_, gu, h5, _⟩ := hw
   obtain rfl : i = 0 := by omega
   refine (kjT g gs cap (kaE n) _ w h5).mono ?_
   rintro e w' ⟨rfl, hb⟩
   exact ⟨rfl, hw'.below hb⟩
  ·
   rintro e w' (⟨h, _⟩ | ⟨_, rfl, h⟩)
   ·
    omega
   ·
    exact ⟨rfl, h⟩
 exact z16
theorem khh {w0 w : World} {g gs cap : Nat} {n : Int} {ns : List Int} (h : NumE w0 w g gs cap (n :: ns)) (hl : 1 ≤ ns.length) (hn : n ≤ 1000) : Calls Tryz.prog 40 #[.pointer (some ⟨g, 0, none⟩), .string ⟨#[117, 110, 117, 115, 101, 100]⟩] w fun e w' => e = .returned (.bool true) ∧ EdS w0 w' g gs cap (kaI ns) := by
 have hS : Calls Tryz.prog 67 #[.pointer (some ⟨g, 0, none⟩), .func (.func 77) #[.pointer (some ⟨g, 0, none⟩)] #[]] w fun e w' => e = .returned (.bool true) ∧ EdS w0 w' g gs cap (kaI ns) := by
  have hcap : ns.length + 1 ≤ 100000 := by
   obtain ⟨_, gu, h5, _⟩ := h
   have h1 := h5.cap
   rw [kbb, List.length_cons] at h1
   omega
  refine (kc3 77 g gs (ns.length + 1) cap 0 (fun w => NumE w0 w g gs cap (n :: ns)) (fun w => EdS w0 w g gs cap (kaI ns)) hcap (by omega) (fun x w => by kernel_rfl) (fun w h => ?_) (fun i w hi hw => by omega) (fun w hk hw => ?_) w h).mono ?_
  ·
   obtain ⟨_, gu, h5, _⟩ := h
   have := h5.ed.cell 0
   simpa [kbb] using this
  ·
   obtain ⟨h1, gu, h5, h6⟩ := hw
   refine (kiq g gs gu cap n ns w h5 (by rw [h6.cell]; simp [uarr, List.replicate_succ]) hl hn).mono ?_
   rintro e w' ⟨rfl, he, hk⟩
   exact ⟨rfl, h1.then_ hk, _, he⟩
  ·
   rintro e w' (⟨_, rfl, h⟩ | ⟨h, _⟩)
   ·
    exact ⟨rfl, h⟩
   ·
    omega
 exact z16
theorem kfQ (g gs n cap i : Nat) (As : Option Addr) (cs : Nat) (num ty : Int) (T : ByteArray) (w : World) (hg : w.cell? ⟨g, 0, none⟩ = some (.slice (some ⟨gs, 0, none⟩) n cap)) (hi : i < n) (x : kcn w gs i As cs num T ty) (hn : num ≤ 1000) :
  Calls Tryz.prog 111 #[.pointer (some ⟨g, 0, none⟩), .int .i64 i] w fun e w' => e = .returned (.tuple #[.int .i64 num, .bool true]) ∧ Below w.heap.size w w' := by
 obtain ⟨x0, x1, x2, x3, x4⟩ := x
 have q0 : (i : Int) < (n : Int) := by omega
 have q1 : (0 : Int) ≤ (i : Int) := by omega
 have q2 : num ≤ 1152921504606846976 := by omega
 go_enter Tryz.func111, Tryz.ntmps111
 go_wp2_with fail
 go_quiet (fail)
 go_wp2_with fail
 go_ret2
 exact ⟨rfl, kaf ((Below.refl _ _).alloc (Nat.le_refl _) _) _⟩
theorem ke6 (n : Int) (h0 : 0 ≤ n) (h1 : n ≤ 1000) (w : World) : Calls Tryz.prog 182 #[.int .i64 n] w fun e w' => e = .returned (.bool true) ∧ w = w' := by
 have q0 : n ≤ 1152921504606846976 := by omega
 go_enter Tryz.func182, Tryz.ntmps182
 go_wp2_with fail
 go_ret
 exact ⟨rfl, rfl⟩
theorem add_23 (w : World) : Calls Tryz.prog 153 #[.int .i64 2, .int .i64 3] w fun e w' => e = .returned (.tuple #[.int .i64 5, .nilIface]) ∧ w = w' := by
 go_enter Tryz.func153, Tryz.ntmps153
 go_wp2_with fail
 refine (ke6 2 (by omega) (by omega) _).mono ?_
 rintro e _ ⟨rfl, rfl⟩
 go_wp2_with fail
 refine (ke6 3 (by omega) (by omega) _).mono ?_
 rintro e _ ⟨rfl, rfl⟩
 go_wp2_with fail
 go_ret2
 exact ⟨rfl, rfl⟩
theorem kkR (w : World) : Calls Tryz.prog 112 #[.string ⟨#[43]⟩, .int .i64 2, .int .i64 3] w fun e w' => e = .returned (.tuple #[.int .i64 5, .bool true]) ∧ Below w.heap.size w w' := by
 go_enter Tryz.func112, Tryz.ntmps112
 go_wp2_with fail
 refine (add_23 _).mono ?_
 rintro e _ ⟨rfl, rfl⟩
 go_wp2_with fail
 go_quiet (fail)
 go_wp2_with fail
 go_ret2
 exact ⟨rfl, kaf (Below.refl _ _) _⟩
def l23 : List St := [kaE 2, kaE 3, ⟨[43], [0, 1], 0, [], 1⟩]
theorem EdAt.put {w : World} {g gs cap i : Nat} {l : List St} {V : Value} (h : EdAt w g gs cap l V) (hi : i < l.length) (n : Int) :
  EdAt (w.setCells gs (i * 5) [.string ⟨#[110, 117, 109, 98, 101, 114]⟩, .slice none 0 0, .int .i64 n, .string ⟨#[]⟩, .int .i64 1]) g gs cap (l.set i (kaE n)) V := by
 obtain ⟨cs, e1, e2, e3⟩ := h.blk
 obtain ⟨cs', z1, z2, z3, z4⟩ := kaH [.string ⟨#[110, 117, 109, 98, 101, 114]⟩, .slice none 0 0, .int .i64 n, .string ⟨#[]⟩, .int .i64 1] (i * 5) w cs e1
 have hg := kat (g := gs) [.string ⟨#[110, 117, 109, 98, 101, 114]⟩, .slice none 0 0, .int .i64 n, .string ⟨#[]⟩, .int .i64 1] (i * 5) w
 have hne := h.ne
 have hle := h.le
 refine ⟨by rw [List.length_set]; exact h.ed.grown hg (fun e => hne (by injection e)), fun j s hs => ?_, ⟨cs', z1, z2.trans e2, fun j v hj hv => ?_⟩, by rw [List.length_set]; exact hle, by rw [List.length_set]; exact h.cap⟩
 rotate_left
 ·
  rw [List.length_set] at hj
  by_cases hin : j < i * 5 ∨ i * 5 + 5 ≤ j
  ·
   exact e3 j v hj (by rw [← z4 j (by simpa using hin)]; exact hv)
  ·
   have := z3 (j - i * 5) (by simp; omega) (by omega)
   rw [show i * 5 + (j - i * 5) = j by omega, hv] at this
   have hm := List.mem_of_getElem? this.symm
   simp only [List.mem_cons, List.not_mem_nil, or_false] at hm
   rcases hm with rfl | rfl | rfl | rfl | rfl <;> rfl
 by_cases hij : i = j
 ·
  subst hij
  rw [List.getElem?_set_self hi] at hs
  injection hs with hs
  subst hs
  have hc : ∀ k, k < 5 → ((w.setCells gs (i * 5) [.string ⟨#[110, 117, 109, 98, 101, 114]⟩, .slice none 0 0, .int .i64 n, .string ⟨#[]⟩, .int .i64 1]).cell? ⟨gs, i * 5 + k, none⟩) = ([.string ⟨#[110, 117, 109, 98, 101, 114]⟩, .slice none 0 0, .int .i64 n, .string ⟨#[]⟩, .int .i64 1] : List Value)[k]? := fun k hk => by
   rw [z1.cell, z3 k (by simpa using hk) (by omega)]
  exact ⟨none, 0, hc 0 (by omega), hc 1 (by omega), hc 2 (by omega), hc 3 (by omega), hc 4 (by omega), ⟨rfl, fun h => by simp [kaE] at h⟩⟩
 ·
  rw [List.getElem?_set_ne hij] at hs
  obtain ⟨As, c, x0, x1, x2, x3, x4, hr⟩ := h.st j s hs
  have hc : ∀ k, k < 5 → (w.setCells gs (i * 5) [.string ⟨#[110, 117, 109, 98, 101, 114]⟩, .slice none 0 0, .int .i64 n, .string ⟨#[]⟩, .int .i64 1]).cell? ⟨gs, j * 5 + k, none⟩ = w.cell? ⟨gs, j * 5 + k, none⟩ := fun k hk => by
   rw [z1.cell, e1.cell, z4 _ (by simp; omega)]
  exact ⟨As, c, (hc 0 (by omega)).trans x0, (hc 1 (by omega)).trans x1, (hc 2 (by omega)).trans x2, (hc 3 (by omega)).trans x3, (hc 4 (by omega)).trans x4, hr.keep (fun b hb hl => hg.block b hl (fun e => hb.2 (by injection e))) hg.size (fun _ hb _ => hb)⟩
theorem klX (g gs cap : Nat) (V : Value) (w : World) (h : EdAt w g gs cap l23 V) :
  Calls Tryz.prog 68 #[.pointer (some ⟨g, 0, none⟩), .int .i64 2] w fun e w' => e = .returned (.bool true) ∧ EdAt w' g gs cap (kaI [2, 3, 5]) V ∧ Kept (fun b => b = g ∨ b = gs) w w' := by
 have x0 := h.ed.cell 0
 simp only [gA, gB] at x0
 replace x0 : w.cell? ⟨g, 0, none⟩ = some (.slice (some ⟨gs, 0, none⟩) 3 cap) := x0
 obtain ⟨As, c, y0, y1, y2, y3, y4, hr⟩ := h.st 2 ⟨[43], [0, 1], 0, [], 1⟩ rfl
 replace y0 : w.cell? ⟨gs, 10, none⟩ = some (.string ⟨#[43]⟩) := y0
 replace y1 : w.cell? ⟨gs, 11, none⟩ = some (.slice As 2 c) := y1
 replace y2 : w.cell? ⟨gs, 12, none⟩ = some (.int .i64 0) := y2
 replace y3 : w.cell? ⟨gs, 13, none⟩ = some (.string ⟨#[]⟩) := y3
 replace y4 : w.cell? ⟨gs, 14, none⟩ = some (.int .i64 1) := y4
 obtain ⟨ba, oa, rfl, hba, hbl, hca⟩ := hr.form (by simp)
 have a0 : w.cell? ⟨ba, oa, none⟩ = some (.int .i64 0) := hca 0 _ rfl
 have a1 : w.cell? ⟨ba, oa + 1, none⟩ = some (.int .i64 1) := hca 1 _ rfl
 have HH := hD h
 have HA0 := hD a0
 have HA1 := hD a1
 clear h hr hca a0 a1
 go_enter Tryz.func68, Tryz.ntmps68
 go_upto_region 8 with (fail)
 obtain ⟨w1, hw1⟩ := xE (w.alloc (.cells #[.string ⟨#[43]⟩, .slice (some ⟨ba, oa, none⟩) 2 c, .int .i64 0, .string ⟨#[]⟩, .int .i64 1] 77))
 rw [← hw1]
 have hb1 : Below w.heap.size w w1 := by rw [hw1]; exact (Below.refl _ _).alloc (Nat.le_refl _) _
 have hblk : Blk w1 w.heap.size 77 #[.string ⟨#[43]⟩, .slice (some ⟨ba, oa, none⟩) 2 c, .int .i64 0, .string ⟨#[]⟩, .int .i64 1] := by rw [hw1]; exact Blk.new _ _ _
 have HB1 := hD hb1
 have HS1 := hD hblk
 have HE1 := hD (HH.out.below hb1)
 have s1 := hblk.cell 1
 simp only [gA, gB, gC] at s1
 have b0 := (hb1.cell (p := ⟨ba, oa, none⟩) hbl).trans HA0.out
 have c0 : w1.cell? ⟨g, 0, none⟩ = some (.slice (some ⟨gs, 0, none⟩) 3 cap) := (hb1.cell (p := ⟨g, 0, none⟩) HH.out.ed.lt).trans x0
 have HN0 : Hid (Calls Tryz.prog 111 #[.pointer (some ⟨g, 0, none⟩), .int .i64 0] w1 fun e w' => e = .returned (.tuple #[.int .i64 2, .bool true]) ∧ Below w1.heap.size w1 w') := by
  obtain ⟨A0, c0', hx⟩ := (HE1.out.st 0 (kaE 2) rfl).num
  exact hD (kfQ g gs 3 cap 0 A0 c0' 2 1 _ w1 c0 (by omega) hx (by omega))
 have hgl := HH.out.ed.lt
 have hgsl := HH.out.gs_lt
 have hz1 := hb1.size
 have HC0 := hD c0
 have HX0 := hD x0
 have HY0 := hD y0
 have HY1 := hD y1
 have HY2 := hD y2
 have HY3 := hD y3
 have HY4 := hD y4
 clear hw1 hb1 hblk x0 y0 y1 y2 y3 y4 c0
 go_wp2_with fail
 refine HN0.out.mono ?_
 rintro e w2 ⟨rfl, hb2⟩
 have HB2 := hD (HB1.out.trans (hb2.mono hz1))
 have HE2 := hD (HE1.out.below hb2)
 have hS2 := HS1.out.below hb2 HS1.out.lt
 have HS2 := hD hS2
 have s2 := hS2.cell 1
 simp only [gA, gB, gC] at s2
 have b1 := (HB2.out.cell (p := ⟨ba, oa + 1, none⟩) hbl).trans HA1.out
 have c0 : w2.cell? ⟨g, 0, none⟩ = some (.slice (some ⟨gs, 0, none⟩) 3 cap) := (HB2.out.cell (p := ⟨g, 0, none⟩) hgl).trans HX0.out
 have HN1 : Hid (Calls Tryz.prog 111 #[.pointer (some ⟨g, 0, none⟩), .int .i64 1] w2 fun e w' => e = .returned (.tuple #[.int .i64 3, .bool true]) ∧ Below w2.heap.size w2 w') := by
  obtain ⟨A0, c0', hx⟩ := (HE2.out.st 1 (kaE 3) rfl).num
  exact hD (kfQ g gs 3 cap 1 A0 c0' 3 1 _ w2 c0 (by omega) hx (by omega))
 have hz2 := HB2.out.size
 clear hb2 hS2 s1 b0 c0 HN0
 go_wp2_with fail
 refine HN1.out.mono ?_
 rintro e w3 ⟨rfl, hb3⟩
 have HB3 := hD (HB2.out.trans (hb3.mono hz2))
 have HE3 := hD (HE2.out.below hb3)
 have hS3 := HS2.out.below hb3 HS2.out.lt
 have s3 := hS3.cell 0
 simp only [gA, gB] at s3
 have hz3 := HB3.out.size
 clear hb3 hS3 s2 b1 HN1
 go_wp2_with fail
 refine (kkR _).mono ?_
 rintro e w4 ⟨rfl, hb4⟩
 have HB4 := hD (HB3.out.trans (hb4.mono hz3))
 have HE4 := hD (HE3.out.below hb4)
 have hc4 := fun j => HB4.out.cell (p := ⟨gs, j, none⟩) hgsl
 have c0 : w4.cell? ⟨g, 0, none⟩ = some (.slice (some ⟨gs, 0, none⟩) 3 cap) := (HB4.out.cell (p := ⟨g, 0, none⟩) hgl).trans HX0.out
 have y0 := (hc4 _).trans HY0.out
 have y1 := (hc4 _).trans HY1.out
 have y2 := (hc4 _).trans HY2.out
 have y3 := (hc4 _).trans HY3.out
 have y4 := (hc4 _).trans HY4.out
 obtain ⟨f0, f1, f2, f3, f4⟩ : w4.frozen? ⟨gs, 10, none⟩ = false ∧ w4.frozen? ⟨gs, 11, none⟩ = false ∧ w4.frozen? ⟨gs, 12, none⟩ = false ∧ w4.frozen? ⟨gs, 13, none⟩ = false ∧ w4.frozen? ⟨gs, 14, none⟩ = false := by
  obtain ⟨cs, e1, _⟩ := HE4.out.blk
  exact ⟨e1.frozen _, e1.frozen _, e1.frozen _, e1.frozen _, e1.frozen _⟩
 have HP := hD (HE4.out.put (i := 2) (by decide) 5)
 have hk : Kept (fun b => b = g ∨ b = gs) w (w4.setCells gs (2 * 5) [.string ⟨#[110, 117, 109, 98, 101, 114]⟩, .slice none 0 0, .int .i64 5, .string ⟨#[]⟩, .int .i64 1]) := by
  have hk4 : Kept (fun b => b = g ∨ b = gs) w w4 := ⟨HB4.out.os, HB4.out.tape, HB4.out.output, HB4.out.size, fun i hi _ => HB4.out.block i hi⟩
  exact hk4.then_ (Kept.of_grown (kat _ _ _) (fun b e => .inr (by injection e with e; exact e.symm)))
 have HK := hD hk
 clear hb4 hc4 s3 hk
 go_wp2_with fail
 go_ret
 exact ⟨rfl, HP.out, HK.out⟩
theorem y19 {P : Prop} (h : P := by
 obtain ⟨w0, hw0⟩ := xE (w.alloc (.cells #[.slice A l.length c] 26))
 have hb0 : Below w.heap.size w w0 := by rw [hw0]; exact kaa _ _
 obtain ⟨css, hrd, hst⟩ := hp.below hb0
 obtain ⟨b, o, rfl, _, _, _⟩ := hrd.form hl
 have HC := hD (kjj b o l.length c css w0 hn hrd.reads (kfo hst))
 have HST := hD hst
 have HB0 := hD hb0
 have HW0 := hD hw0
 have HR := hD hr
 clear hp hrd hst hb0 hw0 hr
 go_enter Tryz.func37, Tryz.ntmps37
 go_wp2_with fail
 rw [← HW0.out]
 refine HC.out.mono ?_
 rintro e w1 ⟨v1, rfl, ho1, hb1⟩
 obtain ⟨gs, cap, rfl, hgs, hgsl, hed⟩ := ed_new HST.out hl hn hb1 ho1
 have HB1 := hD (HB0.out.trans (hb1.mono HB0.out.size))
 have HE1 := hD (hed (.slice none 0 0))
 have hz1 := HB1.out.size
 have hz0 := HB0.out.size
 have HB2 := hD (HB1.out.alloc hz1 (.cells #[.slice (some ⟨gs, 0, none⟩) l.length cap, .slice none 0 0] 85))
 clear ho1 hb1 hed HC
 go_wp2_with fail
 first
 | guard_hyp t78q0
   go_loopg [4, 15] (l.length + 1) (fun f _ i wr => NxRel w w1.heap.size gs cap l f i wr)
   case atStart => exact ⟨0, [], rfl, by omega, by omega, HE1, hD (EdK.zero _ _ _ _), HB2⟩
 | go_loopg [4, 15] (l.length + 1) (fun f _ i wr => NeRel w w1.heap.size gs cap l f i wr)
   case atStart => exact ⟨0, rfl, by omega, by omega, HE1, HB2⟩
 case round =>
  clear HE1 HB2
  first
  | guard_hyp t78q0
    obtain ⟨k, vs, rfl, hk, hkf, HE, HK, HB⟩ := hrel
  | obtain ⟨k, rfl, hk, hkf, HE, HB⟩ := hrel
  obtain ⟨f, rfl⟩ : ∃ f, gk = f + 1 := ⟨gk - 1, by omega⟩
  by_cases hlt : k < l.length
  ·
   obtain ⟨s, hs⟩ : ∃ s, l[k]? = some s := ⟨l[k], List.getElem?_eq_getElem hlt⟩
   obtain ⟨As, cs, x0, x1, x2, x3, x4, har⟩ := HE.out.st k s hs
   have g0 := HE.out.ed.cell 0
   simp only [gA, gB] at g0
   have hal := (HR.out s (List.mem_of_getElem? hs)).1
   have HAR := hD har.reads
   have HS := hD hs
   have hgl := HE.out.ed.lt
   have hsl := HE.out.gs_lt
   have hzr := HB.out.size
   have q0 : (k : Int) < (l.length : Int) := by omega
   have q1 : (0 : Int) ≤ (k : Int) := by omega
   clear hs har x0 x2 x3 x4
   go_wp2_with fail
   go_region_with (first | (go_at_call 64; refine (kkU As cs s.args wr.drew (by omega) HAR.out.drew).mono ?_; rintro e w6 ⟨A', c', rfl, ho6, hb6⟩; have hW : Below wr.heap.size wr w6 := (Below.refl _ wr).drew.trans hb6; have o0 := (hW.cell (p := ⟨w1.heap.size, 0, none⟩) hgl).trans g0; have o1 := (hW.cell (p := ⟨gs, k * 5 + 1, none⟩) hsl).trans x1; have fz : w6.frozen? ⟨gs, k * 5 + 1, none⟩ = false := by obtain ⟨cs6, e6, _⟩ := (HE.out.below hW).blk; exact e6.frozen _))
   first
   | guard_hyp t78q0
     all_goals
      have HE6 := hD (HE.out.arg HS.out hW A' c' ho6)
      have HK6 := hD (HK.out.step HE.out hlt HS.out hzr hW A' c' ho6)
      have HB6 := hD ((HB.out.trans (hW.mono hzr)).setCell (p := ⟨gs, k * 5 + 1, none⟩) (by show w.heap.size ≤ gs; omega) (.slice A' s.args.length c'))
      clear ho6 hb6 hW o0 o1 fz
      go_wp2_with fail
      go_roundg f
      case measure => omega
      case rel => exact ⟨k + 1, _, by go_num, by omega, by omega, HE6, HK6, HB6⟩
   | all_goals
      have HE6 := hD (HE.out.arg HS.out hW A' c' ho6)
      have HB6 := hD ((HB.out.trans (hW.mono hzr)).setCell (p := ⟨gs, k * 5 + 1, none⟩) (by show w.heap.size ≤ gs; omega) (.slice A' s.args.length c'))
      clear ho6 hb6 hW o0 o1 fz
      go_wp2_with fail
      go_roundg f
      case measure => omega
      case rel => exact ⟨k + 1, by go_num, by omega, by omega, HE6, HB6⟩
  ·
   have hkn : k = l.length := by omega
   subst hkn
   have q0 : ¬ ((l.length : Int) < (l.length : Int)) := by omega
   first
   | guard_hyp t78q0
     have HX := hD (HK.out.edX HE.out (by omega) (by omega))
     have HCT := hD (kjL w.heap.size w1.heap.size gs cap l vs _ wr HX.out HR.out)
   | have HCT := hD (keP w1.heap.size gs cap l _ wr HE.out HR.out)
   go_wp2_with fail
   refine HCT.out.mono ?_
   first
   | guard_hyp t78q0
     rintro e w7 ⟨rfl, gu, he7, hu7, hf7⟩
   | rintro e w7 ⟨rfl, he7, hu7, hg7⟩
   have HE7 := hD he7
   have HU7 := hD hu7
   first
   | guard_hyp t78q0
     have HB7 : Hid (Below w.heap.size w w7) := hD (HB.out.trans hf7.bel)
     clear he7 hu7 hf7
   | have HB7 : Hid (Below w.heap.size w w7) := hD (HB.out.trans ⟨hg7.os, hg7.tape, hg7.output, hg7.size, fun i hi => hg7.block i (Nat.lt_of_lt_of_le hi HB.out.size) (fun e => by injection e with e; omega)⟩)
     clear he7 hu7 hg7
   go_wp2_with fail
   go_ret
   first
   | guard_hyp t78q0
     exact ⟨_, gs, cap, gu, vs, rfl, HE7.out, HU7.out, HB7.out⟩
   | exact ⟨_, gs, cap, _, rfl, HE7.out, HU7.out, HB7.out, by omega, by omega⟩) : P := h
theorem own_zero (w : World) (e : TypeId) (size : Nat) : (w.alloc (.cells #[] e)).ownsRow w.heap.size e size (.slice (some ⟨w.heap.size, 0, none⟩) 0 0) 0 [] :=
 ⟨by simp, .inr ⟨w.heap.size, 0, #[], rfl, Nat.le_refl _, heap_alloc_new w _, Nat.le_refl _, by unfold maxLen; omega, by simp, by simp⟩⟩
theorem kjj (b o n c : Nat) (css : List Value) (w : World) (hn : n ≤ 100000) (h : Reads w w.heap.size 5 (some ⟨b, o, none⟩) n css) (h1 : ∀ u ∈ css, u.oneCell' = true) :
  Calls Tryz.prog 63 #[.slice (some ⟨b, o, none⟩) n c] w fun e w' => ∃ v', e = .returned v' ∧ w'.ownsRow w.heap.size 77 5 v' n css ∧ Below w.heap.size w w' := by
 obtain ⟨i0, hinf, hz0, hz1, hz2⟩ := info_parts kcs
 have HR := hD ((h.below (kaa w (.cells #[] 77))))
 have H1 := hD h1
 have HO := hD (own_zero w 77 5)
 have heq : ∀ W : World, (binOp .eql 24 (.slice (some ⟨b, o, none⟩) n c) (.slice none 0 0)).run Tryz.prog W = .ok (.bool false) W := fun W => Lib.run_eql_slice_nil W 24 77 (some ⟨b, o, none⟩) n c 0 0 Tryz.underlying24
 clear h h1
 go_enter Tryz.func63, Tryz.ntmps63
 go_wp2_with (at_builtin; refine kam _ rfl (.tmp 5) (.tmp 6) 24 rfl w.heap.size 77 i0 (.agg #[.string ⟨#[]⟩, .slice none 0 0, .int .i64 0, .string ⟨#[]⟩, .int .i64 0]) 5 72 Tryz.underlying24 hinf hz0 hz1 hz2 rfl (by decide) _ 0 [] rfl HO.out _ _ n c css rfl HR.out H1.out (by unfold maxLen; omega) (by omega) (by simp) ?_)
 intro v2 w2 ho2 hg2 _
 have HO2 := hD ho2
 have HB2 := hD (kmc (kaa w (.cells #[] 77)) (by simp) (Nat.le_refl _) HO.out hg2)
 clear ho2 hg2
 go_wp2_with fail
 go_ret
 exact ⟨_, rfl, by simpa using HO2.out, HB2.out⟩
theorem kkU (As : Option Addr) (c : Nat) (zs : List Int) (w : World) (hn : zs.length ≤ 100000) (h : Reads w w.heap.size 1 As zs.length (zs.map (Value.int .i64))) :
  Calls Tryz.prog 64 #[.slice As zs.length c] w fun e w' => ∃ A' c', e = .returned (.slice A' zs.length c') ∧ w'.ownsRow w.heap.size 3 1 (.slice A' zs.length c') zs.length (zs.map (Value.int .i64)) ∧ Below w.heap.size w w' := by
 rcases Nat.eq_zero_or_pos zs.length with h0 | h0
 ·
  have hz : zs = [] := List.eq_nil_of_length_eq_zero h0
  subst hz
  cases As with
  | none =>
   refine (Tryz.slices_Clone_int_nil 0 c w).mono ?_
   rintro e w' ⟨rfl, rfl⟩
   exact ⟨none, 0, rfl, ⟨rfl, .inl ⟨rfl, rfl⟩⟩, Below.refl _ _⟩
  | some a =>
   refine (Tryz.slices_Clone_int_zero a c w).mono ?_
   rintro e w' ⟨v', rfl, ho, _, hb⟩
   obtain ⟨A', c', rfl⟩ := kak ho
   exact ⟨A', c', rfl, ho, hb⟩
 ·
  obtain ⟨b, o, rfl, _, hc⟩ := h.form h0
  refine (Tryz.slices_Clone_int b o zs.length c zs w (Nat.le_refl _) (by omega) (fun j hj => ?_)).mono ?_
  ·
   exact hc j _ (by rw [List.getElem?_map, List.getElem?_eq_getElem hj, List.getD_eq_getElem?_getD, List.getElem?_eq_getElem hj]; rfl)
  ·
   rintro e w' ⟨v', rfl, ho, _, hb⟩
   rw [List.take_length] at ho
   obtain ⟨A', c', rfl⟩ := kak ho
   exact ⟨A', c', rfl, ho, hb⟩
theorem kfo {w : World} {F : Nat → Prop} : ∀ {l : List St} {cs : List Value}, StVs w F l cs → ∀ u ∈ cs, u.oneCell' = true
 | [], cs, h, u, hu => by
  have h : cs = [] := h
  rw [h] at hu
  cases hu
 | s :: l, cs, h, u, hu => by
  obtain ⟨a, b, rfl, ⟨A, c, rfl, _⟩, h3⟩ := h
  rcases List.mem_append.1 hu with hu | hu
  ·
   simp only [List.mem_cons, List.not_mem_nil, or_false] at hu
   rcases hu with rfl | rfl | rfl | rfl | rfl <;> rfl
  ·
   exact kfo h3 u hu
theorem ed_new {w w1 : World} {l : List St} {css : List Value} {v : Value} (hp : StVs w (fun i => i < w.heap.size) l css) (hl : 0 < l.length) (hn : l.length ≤ 100000) (hb : Below w.heap.size w w1) (ho : w1.ownsRow w.heap.size 77 5 v l.length css) :
  ∃ gs cap, v = .slice (some ⟨gs, 0, none⟩) l.length cap ∧ w.heap.size ≤ gs ∧ gs < w1.heap.size ∧ ∀ V, EdAt (w1.alloc (.cells #[v, V] 85)) w1.heap.size gs cap l V := by
 obtain ⟨gs, cap, cur, rfl, hnc, hbg, hB, hsz, ht, _⟩ := ked ho hl
 refine ⟨gs, cap, rfl, hbg, hB.lt, fun V => ⟨Blk.new _ _ _, fun i s hs => ?_, ⟨cur, hB.alloc _, hsz, fun i v hi hv => ?_⟩, hnc, hn⟩⟩
 ·
  obtain ⟨cs, ⟨A, c, rfl, hr⟩, hg⟩ := hp.get i s hs
  have hil := (gH hs).1
  have hc : ∀ (j : Nat) u, ([.string ⟨s.op.toArray⟩, .slice A s.args.length c, .int .i64 s.num, .string ⟨s.text.toArray⟩, .int .i64 s.ty] : List Value)[j]? = some u → (w1.alloc (.cells #[.slice (some ⟨gs, 0, none⟩) l.length cap, V] 85)).cell? ⟨gs, i * 5 + j, none⟩ = some u := fun j u hj => by
   rw [(hB.alloc _).cell]
   have h := hg j u hj
   have hj5 := (gH hj).1
   rw [← ht, List.getElem?_take] at h
   split at h
   ·
    simpa using h
   ·
    cases h
  exact ⟨A, c, hc 0 _ rfl, hc 1 _ rfl, hc 2 _ rfl, hc 3 _ rfl, hc 4 _ rfl, hr.keep (fun b hb' hl => (Below.heap_alloc w1 _ b (Nat.lt_of_lt_of_le hl hb.size)).trans (hb.block b hl)) (Nat.le_trans hb.size (by simp)) (fun b hb' _ => ⟨by have : b < w.heap.size := hb'; have := hb.size; omega, by have : b < w.heap.size := hb'; omega⟩)⟩
 ·
  have hm : cur.toList[i]? = some v := by rw [Array.getElem?_toList]; exact hv
  have : css[i]? = some v := by rw [← ht, List.getElem?_take, if_pos hi]; exact hm
  exact kfo hp v (List.mem_of_getElem? this)
theorem EdAt.arg {w w1 : World} {g gs cap i : Nat} {l : List St} {V : Value} {s : St} (h : EdAt w g gs cap l V) (hs : l[i]? = some s) (hb : Below w.heap.size w w1) (A' : Option Addr) (c' : Nat) (ho : w1.ownsRow w.heap.size 3 1 (.slice A' s.args.length c') s.args.length (s.args.map (Value.int .i64))) :
  EdAt (w1.setCell ⟨gs, i * 5 + 1, none⟩ (.slice A' s.args.length c')) g gs cap l V := by
 have h1 := h.below hb
 obtain ⟨cs, e1, e2, e3⟩ := h1.blk
 have hne := h.ne
 have hgl := h.ed.lt
 have hgsl := h.gs_lt
 have hle := h.le
 have hil := (gH hs).1
 have hk : ∀ b, b ≠ gs → (w1.setCell ⟨gs, i * 5 + 1, none⟩ (.slice A' s.args.length c')).heap[b]? = w1.heap[b]? := fun b hbn => Below.heap_setCell w1 ⟨gs, i * 5 + 1, none⟩ _ b hbn
 have hB := e1.set_ (i * 5 + 1) (.slice A' s.args.length c')
 refine ⟨h1.ed.far (p := ⟨gs, i * 5 + 1, none⟩) hne _, fun j t ht => ?_, ⟨_, hB, by rw [Array.size_setIfInBounds]; exact e2, fun j v hj hv => ?_⟩, hle, h.cap⟩
 ·
  obtain ⟨As, c, x0, x1, x2, x3, x4, hr⟩ := h1.st j t ht
  have hc : ∀ k, j * 5 + k ≠ i * 5 + 1 → (w1.setCell ⟨gs, i * 5 + 1, none⟩ (.slice A' s.args.length c')).cell? ⟨gs, j * 5 + k, none⟩ = w1.cell? ⟨gs, j * 5 + k, none⟩ := fun k hk => by
   rw [hB.cell, e1.cell, Array.getElem?_setIfInBounds_ne (fun e => hk e.symm)]
  have hr' := hr.keep (w' := w1.setCell ⟨gs, i * 5 + 1, none⟩ (.slice A' s.args.length c')) (fun b hb _ => hk b hb.2) (by simp) (fun _ hb _ => hb)
  by_cases hij : i = j
  ·
   subst hij
   obtain rfl : t = s := by rw [hs] at ht; injection ht with ht; exact ht.symm
   refine ⟨A', c', (hc 0 (by omega)).trans x0, ?_, (hc 2 (by omega)).trans x2, (hc 3 (by omega)).trans x3, (hc 4 (by omega)).trans x4, ?_⟩
   ·
    rw [hB.cell, Array.getElem?_setIfInBounds_self_of_lt (by omega)]
   ·
    refine ⟨by simp, fun h0 => ?_⟩
    obtain ⟨q, c2, cur, hv, hnc, hbg, hB2, hsz, htk, _⟩ := ked ho h0
    injection hv with hA _ hc2
    subst hA
    have hqs : q ≠ gs := by omega
    refine ⟨q, 0, rfl, ⟨by omega, hqs⟩, by simpa using hB2.lt, fun k u hu => ?_⟩
    rw [World.cell?_of_block (a := ⟨q, 0 + k, none⟩) (hk q hqs), Nat.zero_add, hB2.cell, ← Array.getElem?_toList]
    rw [← htk, List.getElem?_take] at hu
    split at hu
    ·
     exact hu
    ·
     cases hu
  ·
   exact ⟨As, c, (hc 0 (by omega)).trans x0, (hc 1 (by omega)).trans x1, (hc 2 (by omega)).trans x2, (hc 3 (by omega)).trans x3, (hc 4 (by omega)).trans x4, hr'⟩
 ·
  by_cases hij : j = i * 5 + 1
  ·
   subst hij
   rw [Array.getElem?_setIfInBounds_self_of_lt (by omega)] at hv
   injection hv with hv
   rw [← hv]
   rfl
  ·
   rw [Array.getElem?_setIfInBounds_ne (fun e => hij e.symm)] at hv
   exact e3 j v hj hv
def NeRel (w : World) (g gs cap : Nat) (l : List St) (f : Nat) (i : Value) (wr : World) : Prop := ∃ k : Nat, i = .int .i64 k ∧ k ≤ l.length ∧ l.length - k < f ∧ Hid (EdAt wr g gs cap l (.slice none 0 0)) ∧ Hid (Below w.heap.size w wr)
theorem kg2 (A : Option Addr) (c : Nat) (l : List St) (w : World) (hp : PlAt w (fun i => i < w.heap.size) A l) (hl : 0 < l.length) (hn : l.length ≤ 100000) (hr : ∀ s ∈ l, s.args.length ≤ 3 ∧ ∀ a ∈ s.args, 0 ≤ a ∧ a < (l.length : Int)) :
  Calls Tryz.prog 37 #[.agg #[.slice A l.length c]] w fun e w' => ∃ g gs cap gu, e = .returned (.pointer (some ⟨g, 0, none⟩)) ∧ EdAt w' g gs cap l (.slice (some ⟨gu, 0, none⟩) l.length l.length) ∧ Blk w' gu 3 (uarr (kag l)) ∧ Below w.heap.size w w' ∧ w.heap.size ≤ g ∧ w.heap.size ≤ gs := by
 exact y19
end Go.Proofs.YtamhdmkolfmmdaaGreatDoor
