/- The editor of optimize in memory; the walk of count. The walks of optimize.safe, remove, unused and apply at steps that are numbers. -/
import Derived.Test.YtniefnjcimempaarRzD
import Derived.Test.YtniefnjcimempaarRzE
import Derived.Test.YtniefnjcimempaarRz0
import Derived.Test.YtniefnjcimempaarRk
namespace Go.Proofs.Ytniefnjcimempaa
open Go.RowKit
def StAt (w : World) (g gs i : Nat) (s : St) : Prop := ∃ (As : Option Addr) (c : Nat),
  w.cell? ⟨gs, i * 5, none⟩ = some (.string ⟨s.op.toArray⟩) ∧ w.cell? ⟨gs, i * 5 + 1, none⟩ = some (.slice As s.args.length c) ∧ w.cell? ⟨gs, i * 5 + 2, none⟩ = some (.int .i64 s.num) ∧ w.cell? ⟨gs, i * 5 + 3, none⟩ = some (.string ⟨s.text.toArray⟩) ∧ w.cell? ⟨gs, i * 5 + 4, none⟩ = some (.int .i64 s.ty) ∧
  RdF w (fun b => b ≠ g ∧ b ≠ gs) 1 As s.args.length (s.args.map (Value.int .i64))
structure EdAt (w : World) (g gs cap : Nat) (l : List St) (V : Value) : Prop where
  ed : Blk w g 83 #[.slice (some ⟨gs, 0, none⟩) l.length cap, V]
  st : ∀ i s, l[i]? = some s → StAt w g gs i s
  blk : ∃ cs, Blk w gs 25 cs ∧ cs.size = cap * 5 ∧ ∀ i v, i < l.length * 5 → cs[i]? = some v → v.oneCell' = true
  le : l.length ≤ cap
  cap : l.length ≤ 100000
theorem StAt.keep {w w' : World} {g gs i : Nat} {s : St} (h : StAt w g gs i s) (hgs : w'.heap[gs]? = w.heap[gs]?) (hk : ∀ b, b ≠ g → b ≠ gs → b < w.heap.size → w'.heap[b]? = w.heap[b]?) (hs : w.heap.size ≤ w'.heap.size) : StAt w' g gs i s := by
  obtain ⟨As, c, x0, x1, x2, x3, x4, hr⟩ := h
  have hc : ∀ j, w'.cell? ⟨gs, j, none⟩ = w.cell? ⟨gs, j, none⟩ := fun j => World.cell?_of_block hgs
  exact ⟨As, c, (hc _).trans x0, (hc _).trans x1, (hc _).trans x2, (hc _).trans x3, (hc _).trans x4, hr.keep (fun b hb hl => hk b hb.1 hb.2 hl) hs (fun _ hb _ => hb)⟩
theorem EdAt.gs_lt {w : World} {g gs cap : Nat} {l : List St} {V : Value} (h : EdAt w g gs cap l V) : gs < w.heap.size := by obtain ⟨cs, hb, _⟩ := h.blk; exact hb.lt
theorem EdAt.ne {w : World} {g gs cap : Nat} {l : List St} {V : Value} (h : EdAt w g gs cap l V) : g ≠ gs := by obtain ⟨cs, hb, _⟩ := h.blk; exact h.ed.ne_ hb (by decide)
theorem EdAt.below {w w' : World} {g gs cap : Nat} {l : List St} {V : Value} (h : EdAt w g gs cap l V) (hb : Below w.heap.size w w') : EdAt w' g gs cap l V :=
  ⟨h.ed.below hb h.ed.lt, fun i s hs => (h.st i s hs).keep (hb.block gs h.gs_lt) (fun b _ _ hl => hb.block b hl) hb.size, by obtain ⟨cs, e1, e2⟩ := h.blk; exact ⟨cs, e1.below hb e1.lt, e2⟩, h.le, h.cap⟩
theorem EdAt.turn {w w' : World} {g gs cap : Nat} {l : List St} {V V' : Value} (h : EdAt w g gs cap l V) (hg : w.grownBy w' (some g)) (he : Blk w' g 83 #[.slice (some ⟨gs, 0, none⟩) l.length cap, V']) : EdAt w' g gs cap l V' := by
  have hn : some gs ≠ some g := fun e => h.ne (by injection e with e; exact e.symm)
  refine ⟨he, fun i s hs => (h.st i s hs).keep (hg.block gs h.gs_lt hn) (fun b hb _ hl => hg.block b hl (fun e => hb (by injection e))) hg.size, ?_, h.le, h.cap⟩
  obtain ⟨cs, e1, e2⟩ := h.blk
  exact ⟨cs, e1.grown hg hn, e2⟩
def OcRel (w : World) (g gs cap : Nat) (l : List St) (f : Nat) (i : Value) (wr : World) : Prop := ∃ k : Nat, i = .int .i64 k ∧ k ≤ l.length ∧ l.length - k < f ∧ Hid (Blk wr w.heap.size 3 (uarr (usesK l k))) ∧ Hid (Blk wr g 83 #[.slice (some ⟨gs, 0, none⟩) l.length cap, .slice (some ⟨w.heap.size, 0, none⟩) l.length l.length]) ∧ Hid (w.grownBy wr (some g))
def OiRel (w : World) (g gs cap n : Nat) (z args : List Int) (f : Nat) (i : Value) (wr : World) : Prop := ∃ k : Nat, i = .int .i64 k ∧ k ≤ args.length ∧ args.length - k < f ∧ Hid (Blk wr w.heap.size 3 (uarr (bumps z (args.take k)))) ∧ Hid (Blk wr g 83 #[.slice (some ⟨gs, 0, none⟩) n cap, .slice (some ⟨w.heap.size, 0, none⟩) n n]) ∧ Hid (w.grownBy wr (some g))
theorem grown_cell {w w' : World} {g : Nat} (h : w.grownBy w' (some g)) {p : Addr} (hp : p.block < w.heap.size) (hne : p.block ≠ g) : w'.cell? p = w.cell? p := World.cell?_of_block (h.block _ hp (fun e => hne (by injection e)))
theorem grown_alloc {w w' : World} {r : Option Nat} (h : w.grownBy w' r) (o : Obj) : w.grownBy (w'.alloc o) r := ⟨h.os, h.tape, h.output, Nat.le_trans h.size (by simp), fun i hi hne => (Below.heap_alloc w' o i (Nat.lt_of_lt_of_le hi h.size)).trans (h.block i hi hne)⟩
theorem grown_set {w w' : World} {g : Nat} (h : w.grownBy w' (some g)) {p : Addr} (hp : p.block = g ∨ w.heap.size ≤ p.block) (u : Value) : w.grownBy (w'.setCell p u) (some g) := ⟨h.os, h.tape, h.output, Nat.le_trans h.size (by simp), fun i hi hne => (Below.heap_setCell w' p u i (fun e => by rcases hp with hp | hp; exact hne (by rw [e, hp]); omega)).trans (h.block i hi hne)⟩
set_option maxRecDepth 100000 in
set_option maxHeartbeats 8000000 in
theorem count_any (g gs cap : Nat) (l : List St) (V : Value) (w : World) (h : EdAt w g gs cap l V) (hr : ∀ s ∈ l, s.args.length ≤ 3 ∧ ∀ a ∈ s.args, 0 ≤ a ∧ a < (l.length : Int)) :
    Calls Try.prog 37 #[.pointer (some ⟨g, 0, none⟩)] w fun e w' => e = .returned (.tuple #[]) ∧ EdAt w' g gs cap l (.slice (some ⟨w.heap.size, 0, none⟩) l.length l.length) ∧ Blk w' w.heap.size 3 (uarr (usesR l)) ∧ w.grownBy w' (some g) := by
  have hle := h.le
  have hcap := h.cap
  obtain ⟨i0, hinf, hz0, hz1, hz2⟩ := info_parts infoInt
  have hmk : ∀ W : World, (Instr.makeSlice 23 (.int .i64 (l.length : Int)) (.int .i64 (l.length : Int))).run Try.prog W = .ok (.slice (some ⟨W.heap.size, 0, none⟩) l.length l.length) (W.alloc (.cells (uarr (usesK l 0)) 3)) := fun W => by
    have h := run_make_rowN (P := Try.prog) 23 3 i0 (.int .i64 0) Try.underlying23 hinf hz0 .i64 .i64 l.length l.length (Nat.le_refl _) (by rw [hz2]; omega) (by omega) W
    rw [hz1, made_ints] at h
    rw [usesK_zero]
    exact h
  have hgl := h.ed.lt
  have x0 := h.ed.cell 0
  have x1 := h.ed.cell 1
  simp only [List.getElem?_toArray, List.getElem?_cons_zero, List.getElem?_cons_succ] at x0 x1
  have HH := Lib.hid h
  have HR := Lib.hid hr
  have HM := Lib.hid hmk
  have HUB := Lib.hid (usesK_bd (fun s hs => (hr s hs).1) (by omega : l.length ≤ 100000))
  have HE1 := Lib.hid h.ed
  have HE2 := Lib.hid (h.ed.set_ 1 (.slice (some ⟨w.heap.size, 0, none⟩) l.length l.length))
  have HE := Lib.hid (show Blk ((w.setCell ⟨g, 1, none⟩ (.slice (some ⟨w.heap.size, 0, none⟩) l.length l.length)).alloc (.cells (uarr (usesK l 0)) 3)) g 83 #[.slice (some ⟨gs, 0, none⟩) l.length cap, .slice (some ⟨w.heap.size, 0, none⟩) l.length l.length] from HE2.out.alloc _)
  have HU := Lib.hid (show Blk ((w.setCell ⟨g, 1, none⟩ (.slice (some ⟨w.heap.size, 0, none⟩) l.length l.length)).alloc (.cells (uarr (usesK l 0)) 3)) w.heap.size 3 (uarr (usesK l 0)) by
    have := Blk.new (w.setCell ⟨g, 1, none⟩ (.slice (some ⟨w.heap.size, 0, none⟩) l.length l.length)) 3 (uarr (usesK l 0))
    simpa using this)
  have HG := Lib.hid (grown_alloc (grown_set (p := ⟨g, 1, none⟩) (only_of_below (Below.refl w.heap.size w) (some g)) (.inl rfl) (.slice (some ⟨w.heap.size, 0, none⟩) l.length l.length)) (.cells (uarr (usesK l 0)) 3))
  have hfz := HE1.out.frozen 1
  have hx1 : (w.alloc (.cells (uarr (usesK l 0)) 3)).cell? ⟨g, 1, none⟩ = some V := (World.cell?_alloc_lt w _ _ hgl).trans x1
  have hx0 : (w.alloc (.cells (uarr (usesK l 0)) 3)).cell? ⟨g, 0, none⟩ = some (.slice (some ⟨gs, 0, none⟩) l.length cap) := (World.cell?_alloc_lt w _ _ hgl).trans x0
  clear h hr hinf hz0 hz1 hz2 x1
  go_enter Try.func37, Try.ntmps37
  go_wp2_with fail
  clear hmk hfz hx0 hx1 x0
  go_loopg [3, 5, 20, 27] (l.length + 1) (fun f _ _ i _ wr => OcRel w g gs cap l f i wr)
  case atStart => exact ⟨0, rfl, by omega, by omega, HU, HE, HG⟩
  case round =>
    clear HU HE HG HE1
    obtain ⟨k, rfl, hk, hkf, HU, HE, HG⟩ := hrel
    obtain ⟨f, rfl⟩ : ∃ f, gk = f + 1 := ⟨gk - 1, by omega⟩
    by_cases hlt : k < l.length
    · obtain ⟨s, hs⟩ : ∃ s, l[k]? = some s := ⟨l[k], List.getElem?_eq_getElem hlt⟩
      obtain ⟨As, c, x0, x1, x2, x3, x4, har⟩ := HH.out.st k s hs
      have hgc := fun j => grown_cell HG.out (p := ⟨gs, j, none⟩) HH.out.gs_lt (fun e => HH.out.ne e.symm)
      replace x0 := (hgc _).trans x0
      replace x1 := (hgc _).trans x1
      replace x2 := (hgc _).trans x2
      replace x3 := (hgc _).trans x3
      replace x4 := (hgc _).trans x4
      have hal := (HR.out s (List.mem_of_getElem? hs)).1
      have HBK := Lib.hid (HR.out s (List.mem_of_getElem? hs)).2
      have HUS := Lib.hid (usesK_succ hs)
      have HAR := Lib.hid har
      have hbd := HUB.out k
      have hzl := usesK_len l k
      generalize usesK l k = z at *
      have HBD := Lib.hid hbd
      have HZL := Lib.hid hzl
      have q0 : (k : Int) < (l.length : Int) := by omega
      have q1 : (0 : Int) ≤ (k : Int) := by omega
      obtain ⟨op, args, num, text, ty⟩ := s
      dsimp only at x0 x1 x2 x3 x4 hal HBK HUS HAR
      have HB3 := Lib.hid (fun o => HU.out.alloc o)
      have HE3 := Lib.hid (fun o => HE.out.alloc o)
      have HG3 := Lib.hid (fun o => grown_alloc HG.out o)
      have hwz := HG.out.size
      clear hs har hbd hzl hgc HU HE HG
      go_upto_region 4 with (fail)
      obtain ⟨wo, hwo⟩ : ∃ wo, wo = wr.alloc (.cells #[.string ⟨op.toArray⟩, .slice As args.length c, .int .i64 num, .string ⟨text.toArray⟩, .int .i64 ty] 25) := ⟨_, rfl⟩
      rw [← hwo]
      have HUo : Hid (Blk wo w.heap.size 3 (uarr (bumps z (args.take 0)))) := Lib.hid (by rw [hwo]; simpa [bumps] using HB3.out _)
      have HEo : Hid (Blk wo g 83 #[.slice (some ⟨gs, 0, none⟩) l.length cap, .slice (some ⟨w.heap.size, 0, none⟩) l.length l.length]) := Lib.hid (by rw [hwo]; exact HE3.out _)
      have HGo : Hid (w.grownBy wo (some g)) := Lib.hid (by rw [hwo]; exact HG3.out _)
      have y1 : wo.cell? ⟨wr.heap.size, 1, none⟩ = some (.slice As args.length c) := by rw [hwo, (Blk.new wr 25 _).cell]; rfl
      clear hwo HB3 HE3 HG3 x0 x1 x2 x3 x4
      go_wp2_with fail
      clear y1
      go_loopg [5, 27] (args.length + 1) (fun f _ i wi => OiRel w g gs cap l.length z args f i wi)
      case atStart => exact ⟨0, rfl, by omega, by omega, HUo, HEo, HGo⟩
      case round =>
        clear HUo HEo HGo
        obtain ⟨j, rfl, hj, hjf, HU, HE, HG⟩ := hrel
        obtain ⟨f2, rfl⟩ : ∃ f2, gk = f2 + 1 := ⟨gk - 1, by omega⟩
        have e1 := HE.out.cell 1
        simp only [List.getElem?_toArray, List.getElem?_cons_zero, List.getElem?_cons_succ] at e1
        have hgi := HE.out.lt
        have hui := HU.out.lt
        by_cases hjl : j < args.length
        · obtain ⟨a, ha⟩ : ∃ a, args[j]? = some a := ⟨args[j], List.getElem?_eq_getElem hjl⟩
          have hbk := HBK.out a (List.mem_of_getElem? ha)
          obtain ⟨m, rfl⟩ := natInt hbk.1
          obtain ⟨ba, oa, rfl, hba', hba, hca⟩ := RdF.int HAR.out ha
          have hm : m < l.length := by omega
          have hzz : (bumps z (args.take j)).length = l.length := (bumps_len _ _).trans HZL.out
          have hup := HBD.out.bumps (args.take j) (by omega)
          have hlj : (args.take j).length ≤ 3 := by have := List.length_take_le j args; omega
          have hx := hup.get (by omega) m
          have HSN : Hid (bumps z (args.take (j + 1)) = bump (bumps z (args.take j)) (m : Int)) := Lib.hid (by rw [List.take_add_one, ha, Option.toList_some]; exact bumps_snoc _ _ _)
          generalize bumps z (args.take j) = zz at *
          have y3 : wr.cell? ⟨w.heap.size, m, none⟩ = some (.int .i64 (zz.getD m 0)) := by rw [HU.out.cell]; exact uarr_get (by omega)
          have y4 := HU.out.frozen m
          have HGS := Lib.hid (HU.out.set_ m (.int .i64 (zz.getD m 0 + 1)))
          rw [uarr_set, ← HSN.out] at HGS
          generalize zz.getD m 0 = u at *
          have y5 : wr.cell? ⟨ba, oa + j, none⟩ = some (.int .i64 m) := (grown_cell HG.out (p := ⟨ba, oa + j, none⟩) hba hba'.1).trans hca
          have p0 : (j : Int) < (args.length : Int) := by omega
          have p1 : (0 : Int) ≤ (j : Int) := by omega
          have p2 : (m : Int) < (l.length : Int) := by omega
          have p3 : (0 : Int) ≤ (m : Int) := by omega
          have hw := IntWalk.wrap64_in (u + 1) (by omega)
          clear ha hbk hca hup
          go_wp2_with fail
          go_roundg f2
          case measure => omega
          case rel => exact ⟨j + 1, by go_num, by omega, by omega, HGS, Lib.hid (HE.out.far (p := ⟨w.heap.size, m, none⟩) (by show g ≠ w.heap.size; omega) _), Lib.hid (grown_set HG.out (p := ⟨w.heap.size, m, none⟩) (.inr (Nat.le_refl _)) _)⟩
        · have hjs : j = args.length := by omega
          subst hjs
          have p0 : ¬ ((args.length : Int) < (args.length : Int)) := by omega
          have hgg := HU.out
          rw [List.take_length, ← HUS.out] at hgg
          have HGG := Lib.hid hgg
          clear hgg
          go_wp2_with fail
          go_roundg f
          case measure => omega
          case rel => exact ⟨k + 1, by go_num, by omega, by omega, HGG, HE, HG⟩
    · have hkl : k = l.length := by omega
      subst hkl
      have q0 : ¬ ((l.length : Int) < (l.length : Int)) := by omega
      go_wp2_with fail
      refine bodyPost_end (v := .tuple #[]) (by simp [results, Try.results37, go_sem]) rfl ?_
      exact ⟨rfl, HH.out.turn HG.out HE.out, HU.out, HG.out⟩
end Go.Proofs.Ytniefnjcimempaa
namespace Go.Proofs.Ytniefnjcimempaa
open Go.RowKit
def numSt (n : Int) : St := ⟨[110, 117, 109, 98, 101, 114], [], n, [], 1⟩
def numsL (ns : List Int) : List St := ns.map numSt
theorem numsL_len (ns : List Int) : (numsL ns).length = ns.length := by unfold numsL; simp
theorem numsL_at {ns : List Int} {i : Nat} {s : St} (h : (numsL ns)[i]? = some s) : ∃ n, ns[i]? = some n ∧ s = numSt n := by
  unfold numsL at h
  rw [List.getElem?_map] at h
  cases hn : ns[i]? with
  | none => rw [hn] at h; cases h
  | some n => rw [hn] at h; exact ⟨n, rfl, by simpa using h.symm⟩
theorem StAt.num {w : World} {g gs i : Nat} {n : Int} (h : StAt w g gs i (numSt n)) : ∃ As c, NumAt w gs i As c n ⟨#[]⟩ 1 := by
  obtain ⟨As, c, x0, x1, x2, x3, x4, _⟩ := h
  exact ⟨As, c, x0, x1, x2, x3, x4⟩
set_option maxRecDepth 100000 in
theorem safe_num (As : Option Addr) (c : Nat) (n : Int) (hn : n ≤ 1000) (w : World) : Calls Try.prog 86 #[.agg #[.string ⟨#[110, 117, 109, 98, 101, 114]⟩, .slice As 0 c, .int .i64 n, .string ⟨#[]⟩, .int .i64 1]] w fun e w' => e = .returned (.bool true) ∧ Below w.heap.size w w' := by
  have q0 : n ≤ 1152921504606846976 := by omega
  go_enter Try.func86, Try.ntmps86
  go_wp2_with fail
  go_ret
  exact ⟨rfl, (Below.refl _ _).alloc (Nat.le_refl _) _⟩
theorem EdAt.tail {w w1 w2 : World} {g gs cap n : Nat} {s0 : St} {l : List St} {V : Value} (h : EdAt w g gs cap (s0 :: l) V) (hn : n = l.length) (hg1 : w.grownBy w1 (some gs)) (cs' : Array Value) (hb1 : Blk w1 gs 25 cs')
    (hsz : ∀ cs, Blk w gs 25 cs → cs'.size = cs.size ∧ (∀ i, i < n * 5 → cs'[i]? = cs[5 + i]?) ∧ ∀ i v, i < n * 5 → cs'[i]? = some v → v.oneCell' = true) (he : w2 = w1.setCell ⟨g, 0, none⟩ (.slice (some ⟨gs, 0, none⟩) n cap)) : EdAt w2 g gs cap l V ∧ Kept (fun b => b = g ∨ b = gs) w w2 := by
  subst hn he
  obtain ⟨cs, e1, e2, e3⟩ := h.blk
  obtain ⟨z1, z2, z3⟩ := hsz cs e1
  have hne := h.ne
  have hE1 : Blk w1 g 83 #[.slice (some ⟨gs, 0, none⟩) (s0 :: l).length cap, V] := h.ed.grown hg1 (fun e => hne (by injection e))
  have hk : Kept (fun b => b = g ∨ b = gs) w (w1.setCell ⟨g, 0, none⟩ (.slice (some ⟨gs, 0, none⟩) l.length cap)) := (Kept.of_grown hg1 (fun b e => .inr (by injection e with e; exact e.symm))).setCell (p := ⟨g, 0, none⟩) (.inl (.inl rfl)) _
  have hgs : (w1.setCell ⟨g, 0, none⟩ (.slice (some ⟨gs, 0, none⟩) l.length cap)).heap[gs]? = w1.heap[gs]? := Below.heap_setCell w1 ⟨g, 0, none⟩ _ gs (fun e => hne e.symm)
  refine ⟨⟨hE1.set_ 0 _, fun i s hs => ?_, ⟨cs', hb1.far (p := ⟨g, 0, none⟩) (fun e => hne e.symm) _, z1.trans e2, z3⟩, by have := h.le; simp at this; omega, by have := h.cap; simp at this; omega⟩, hk⟩
  obtain ⟨As, c, x0, x1, x2, x3, x4, hr⟩ := h.st (i + 1) s (by simpa using hs)
  have hil := (List.getElem?_eq_some_iff.1 hs).1
  have hc : ∀ j, j < 5 → (w1.setCell ⟨g, 0, none⟩ (.slice (some ⟨gs, 0, none⟩) l.length cap)).cell? ⟨gs, i * 5 + j, none⟩ = w.cell? ⟨gs, (i + 1) * 5 + j, none⟩ := fun j hj => by
    rw [World.cell?_of_block (a := ⟨gs, i * 5 + j, none⟩) hgs, hb1.cell, e1.cell, z2 _ (by omega), show 5 + (i * 5 + j) = (i + 1) * 5 + j by omega]
  exact ⟨As, c, (hc 0 (by omega)).trans x0, (hc 1 (by omega)).trans x1, (hc 2 (by omega)).trans x2, (hc 3 (by omega)).trans x3, (hc 4 (by omega)).trans x4, hr.keep (fun b hb hl => hk.block b hl (fun e => e.elim hb.1 hb.2)) hk.size (fun _ hb _ => hb)⟩
def RmRel (w : World) (n f : Nat) (i : Value) (wr : World) : Prop := ∃ k : Nat, i = .int .i64 k ∧ k ≤ n ∧ n - k < f ∧ Hid (Below w.heap.size w wr)
set_option maxRecDepth 100000 in
set_option maxHeartbeats 4000000 in
theorem remove0 (g gs cap : Nat) (s0 : St) (l : List St) (V : Value) (w : World) (h : EdAt w g gs cap (s0 :: l) V) (hl : 1 ≤ l.length) (ha : ∀ s ∈ l, s.args = []) :
    Calls Try.prog 80 #[.pointer (some ⟨g, 0, none⟩), .int .i64 0] w fun e w' => e = .returned (.tuple #[]) ∧ EdAt w' g gs cap l V ∧ Kept (fun b => b = g ∨ b = gs) w w' := by
  obtain ⟨cs, e1, e2, e3⟩ := h.blk
  have hle := h.le
  have hcap := h.cap
  rw [List.length_cons] at hle hcap
  have x0 := h.ed.cell 0
  simp only [List.getElem?_toArray, List.getElem?_cons_zero] at x0
  obtain ⟨n, hn⟩ : ∃ n, n = l.length := ⟨_, rfl⟩
  rw [List.length_cons, ← hn] at x0
  obtain ⟨m, hm⟩ : ∃ m, m = n + 1 := ⟨_, rfl⟩
  have hnb : n ≤ 100000 := by omega
  have hd := delete0 gs n cap cs w e1 e2 (by omega) (by omega) hnb (fun i v hi hv => e3 i v (by rw [List.length_cons]; omega) hv)
  rw [← hm] at hd x0
  have HD := Lib.hid hd
  have HH := Lib.hid h
  have HN := Lib.hid hn
  have HC := Lib.hid e1
  have HA := Lib.hid ha
  have hgl := h.ed.lt
  have HNE := Lib.hid h.ne
  clear hd h e1 e2 e3 ha hn hm
  go_enter Try.func80, Try.ntmps80
  go_wp2_with fail
  refine HD.out.mono ?_
  rintro e w1 ⟨rfl, hg1, cs', hb1, hs1, hc1, ho1⟩
  obtain ⟨w2, hw2⟩ : ∃ w2, w2 = w1.setCell ⟨g, 0, none⟩ (.slice (some ⟨gs, 0, none⟩) n cap) := ⟨_, rfl⟩
  have ht := HH.out.tail HN.out hg1 cs' hb1 (fun cs0 h0 => by
    have : cs0 = cs := by have := h0.symm.trans HC.out; injection this with this; injection this
    subst this
    exact ⟨hs1, hc1, ho1⟩) hw2
  have HT := Lib.hid ht
  have hE1 : Blk w1 g 83 #[.slice (some ⟨gs, 0, none⟩) (s0 :: l).length cap, V] := HH.out.ed.grown hg1 (fun e => HNE.out (by injection e))
  have y0 := hE1.cell 0
  simp only [List.getElem?_toArray, List.getElem?_cons_zero] at y0
  have y1 := hE1.frozen 0
  have HW2 := Lib.hid hw2
  clear hg1 hb1 hs1 hc1 ho1 ht hE1 hw2 HD
  go_upto_region 1 with (fail)
  rw [← HW2.out]
  have z0 := HT.out.1.ed.cell 0
  simp only [List.getElem?_toArray, List.getElem?_cons_zero] at z0
  rw [← HN.out] at z0
  have hgl2 := HT.out.1.gs_lt
  have HN2 := Lib.hid HN.out
  clear y0 y1 x0 HW2 HN
  go_wp2_with fail
  clear z0
  go_loopg [5, 6, 7, 26, 33] (n + 1) (fun f _ _ _ i _ wr => RmRel w2 n f i wr)
  case atStart => exact ⟨0, rfl, by omega, by omega, Lib.hid (Below.refl _ _)⟩
  case round =>
    obtain ⟨k, rfl, hk, hkf, HB⟩ := hrel
    obtain ⟨f, rfl⟩ : ∃ f, gk = f + 1 := ⟨gk - 1, by omega⟩
    by_cases hlt : k < n
    · obtain ⟨s, hs⟩ : ∃ s, l[k]? = some s := ⟨l[k]'(by have := HN2.out; omega), List.getElem?_eq_getElem _⟩
      have has := HA.out s (List.mem_of_getElem? hs)
      obtain ⟨As, c, x0, x1, x2, x3, x4, _⟩ := HT.out.1.st k s hs
      have hgc := fun j => HB.out.cell (p := ⟨gs, j, none⟩) hgl2
      replace x0 := (hgc _).trans x0
      replace x1 := (hgc _).trans x1
      replace x2 := (hgc _).trans x2
      replace x3 := (hgc _).trans x3
      replace x4 := (hgc _).trans x4
      rw [has] at x1
      obtain ⟨op, args, num, text, ty⟩ := s
      dsimp only [List.length_nil] at x0 x1 x2 x3 x4
      have q0 : (k : Int) < (n : Int) := by omega
      have q1 : (0 : Int) ≤ (k : Int) := by omega
      have HB3 := Lib.hid (HB.out.alloc HB.out.size (.cells #[.string ⟨op.toArray⟩, .slice As 0 c, .int .i64 num, .string ⟨text.toArray⟩, .int .i64 ty] 25))
      clear hs has hgc HB
      go_wp2_with fail
      go_loopg [6, 7, 33] 1 (fun f _ _ i wi => i = .int .i64 0 ∧ 0 < f ∧ Hid (Below w2.heap.size w2 wi))
      case atStart => exact ⟨rfl, by omega, HB3⟩
      case round =>
        obtain ⟨rfl, hf0, HBi⟩ := hrel
        clear HB3
        go_wp2_with fail
        go_roundg f
        case measure => omega
        case rel => exact ⟨k + 1, by go_num, by omega, by omega, HBi⟩
    · have hkn : k = n := by omega
      subst hkn
      have q0 : ¬ ((k : Int) < (k : Int)) := by omega
      go_wp2_with fail
      refine bodyPost_end (v := .tuple #[]) (by simp [results, Try.results80, go_sem]) rfl ?_
      exact ⟨rfl, HT.out.1.below HB.out, HT.out.2.trans ⟨HB.out.os, HB.out.tape, HB.out.output, HB.out.size, fun i hi _ => HB.out.block i hi⟩⟩
set_option maxRecDepth 100000 in
set_option maxHeartbeats 4000000 in
theorem unused_more (g gs gu cap : Nat) (n0 : Int) (ns : List Int) (w : World) (h : EdAt w g gs cap (numsL (n0 :: ns)) (.slice (some ⟨gu, 0, none⟩) (ns.length + 1) (ns.length + 1))) (hu : w.cell? ⟨gu, 0, none⟩ = some (.int .i64 0)) (hl : 1 ≤ ns.length) (h0 : n0 ≤ 1000) :
    Calls Try.prog 66 #[.pointer (some ⟨g, 0, none⟩), .int .i64 0] w fun e w' => e = .returned (.bool true) ∧ EdAt w' g gs cap (numsL ns) (.slice (some ⟨gu, 0, none⟩) (ns.length + 1) (ns.length + 1)) ∧ Kept (fun b => b = g ∨ b = gs) w w' := by
  have hle := h.le
  have hcap := h.cap
  rw [numsL_len, List.length_cons] at hle hcap
  obtain ⟨n, hn⟩ : ∃ n, n = ns.length := ⟨_, rfl⟩
  obtain ⟨m, hm⟩ : ∃ m, m = n + 1 := ⟨_, rfl⟩
  have x0 := h.ed.cell 0
  have x1 := h.ed.cell 1
  simp only [List.getElem?_toArray, List.getElem?_cons_zero, List.getElem?_cons_succ] at x0 x1
  rw [numsL_len, List.length_cons, ← hn, ← hm] at x0
  rw [← hn, ← hm] at x1
  obtain ⟨As, c, y0, y1, y2, y3, y4, _⟩ := h.st 0 (numSt n0) rfl
  rw [Nat.zero_mul] at y0
  simp only [Nat.zero_mul, Nat.zero_add] at y1 y2 y3 y4
  have y0 : w.cell? ⟨gs, 0, none⟩ = some (.string ⟨#[110, 117, 109, 98, 101, 114]⟩) := y0
  have y1 : w.cell? ⟨gs, 1, none⟩ = some (.slice As 0 c) := y1
  have y2 : w.cell? ⟨gs, 2, none⟩ = some (.int .i64 n0) := y2
  have y3 : w.cell? ⟨gs, 3, none⟩ = some (.string ⟨#[]⟩) := y3
  have y4 : w.cell? ⟨gs, 4, none⟩ = some (.int .i64 1) := y4
  have HH := Lib.hid h
  have HN := Lib.hid hn
  have HM := Lib.hid hm
  have q0 : (0 : Int) < (m : Int) := by omega
  have q1 : ((0 : Int) == (m : Int) - 1) = false := beq_eq_false_iff_ne.2 (by omega)
  have q2 : ¬ ((0 : Int) = (m : Int) - 1) := by omega
  have hw1 := IntWalk.i64_in ((m : Int) - 1) (by omega)
  have HS := Lib.hid (safe_num As c n0 h0 w)
  clear h hn hm
  go_enter Try.func66, Try.ntmps66
  go_wp2_with fail
  refine HS.out.mono ?_
  rintro e w1 ⟨rfl, hb1⟩
  have HE1 := Lib.hid (HH.out.below hb1)
  have hk1 : Kept (fun b => b = g ∨ b = gs) w w1 := ⟨hb1.os, hb1.tape, hb1.output, hb1.size, fun i hi _ => hb1.block i hi⟩
  have HK1 := Lib.hid hk1
  have HR := Lib.hid (remove0 g gs cap (numSt n0) (numsL ns) _ w1 HE1.out (by rw [numsL_len]; exact hl) (fun s hs => by obtain ⟨i, hi⟩ := List.getElem?_of_mem hs; obtain ⟨k, _, rfl⟩ := numsL_at hi; rfl))
  clear hb1 hk1 HS
  go_wp2_with fail
  refine HR.out.mono ?_
  rintro e w2 ⟨rfl, he2, hk2⟩
  have HE2 := Lib.hid he2
  have HK2 := Lib.hid (HK1.out.then_ hk2)
  clear he2 hk2 HR
  go_wp2_with fail
  go_ret
  exact ⟨rfl, HE2.out, HK2.out⟩
set_option maxRecDepth 100000 in
theorem unused_one (g gs cap : Nat) (s0 : St) (V : Value) (w : World) (h : EdAt w g gs cap [s0] V) :
    Calls Try.prog 66 #[.pointer (some ⟨g, 0, none⟩), .int .i64 0] w fun e w' => e = .returned (.bool false) ∧ Below w.heap.size w w' := by
  have x0 := h.ed.cell 0
  simp only [List.getElem?_toArray, List.getElem?_cons_zero, List.length_singleton] at x0
  clear h
  go_enter Try.func66, Try.ntmps66
  go_wp2_with fail
  go_ret
  exact ⟨rfl, Below.refl _ _⟩
end Go.Proofs.Ytniefnjcimempaa
