/- The walk of optimize's once. The walks of optimize's rules unused and common at any step. A step laid over a step of the editor. The walk of optimize's rule common at any step; a fresh row of arguments laid over a step. -/
import Derived.Test.YtamhdmkolfmmdaaGreatDoorsav
import Derived.Test.YtamhdmkolfmmdaaGreatDoorsaa
set_option linter.unusedVariables false
set_option linter.unusedSimpArgs false
namespace Go.Proofs.YtamhdmkolfmmdaaGreatDoor
open Go.RowKit
set_option maxRecDepth 100000
set_option maxHeartbeats 4000000
theorem z22 {P : Prop} (h : P := by
 go_enter Tryz.func117, Tryz.ntmps117
 go_wp2_with fail
 go_quiet (fail)
 go_wp2_with fail
 go_ret2
 exact ⟨rfl, kaf (Below.refl _ _) _⟩) : P := h
theorem kcq (g gs gu cap i j : Nat) (l : List St) (us : List Int) (s t : St) (w : World) (h : EdAt w g gs cap l (.slice (some ⟨gu, 0, none⟩) l.length l.length)) (hu : Blk w gu 3 (uarr us)) (hul : us.length = l.length) (hs : l[i]? = some s) (hj : s.args[0]? = some (j : Int)) (ht : l[j]? = some t) (op : List UInt8) :
  Calls Tryz.prog 117 #[.pointer (some ⟨g, 0, none⟩), .int .i64 i, .string ⟨op.toArray⟩] w fun e w' => e = .returned (.tuple #[.int .i64 j, .bool (decide (t.op = op ∧ us.getD j 0 = 1))]) ∧ Below w.heap.size w w' := by
 have hil := (gH hs).1
 have hjl := (gH ht).1
 have hal := (gH hj).1
 have x0 := h.ed.cell 0
 have x1 := h.ed.cell 1
 simp only [gA, gB, gC] at x0 x1
 obtain ⟨As, c, _, y1, _, _, _, hr⟩ := h.st i s hs
 obtain ⟨At, ct, z0, _, _, _, _, _⟩ := h.st j t ht
 obtain ⟨ba, oa, rfl, _, hba, hca⟩ := RdF.int hr hj
 have y5 : w.cell? ⟨ba, oa, none⟩ = some (.int .i64 j) := by simpa using hca
 have y6 : w.cell? ⟨gu, j, none⟩ = some (.int .i64 (us.getD j 0)) := by rw [hu.cell]; exact kco (by omega)
 obtain ⟨u, hue⟩ := xE (us.getD j 0)
 obtain ⟨m, hm⟩ := xE l.length
 obtain ⟨na, hna⟩ := xE s.args.length
 obtain ⟨top, htop⟩ := xE t.op
 rw [← hue] at y6 ⊢
 rw [← htop] at z0 ⊢
 rw [← hm] at x0 x1 hil hjl
 rw [← hna] at y1 hal
 have q0 : (i : Int) < (m : Int) := by omega
 have q1 : (0 : Int) ≤ (i : Int) := by omega
 have q2 : (j : Int) < (m : Int) := by omega
 have q3 : (0 : Int) ≤ (j : Int) := by omega
 have q4 : (0 : Int) < (na : Int) := by omega
 have q5 : 0 < na := by omega
 clear h hu hul hs hj ht hr hca hue hm hna htop
 by_cases h0 : top = op
 ·
  subst h0
  by_cases h1 : u = 1
  ·
   subst h1
   have hR := hD (show decide (top = top ∧ (1 : Int) = 1) = true by simp)
   rw [hR.out]
   exact z22
  ·
   have hR := hD (show decide (top = top ∧ u = 1) = false by simp [h1])
   rw [hR.out]
   have h2 : (u == 1) = false := beq_eq_false_iff_ne.2 h1
   exact z22
 ·
  have hR := hD (show decide (top = op ∧ u = 1) = false by simp [h0])
  rw [hR.out]
  have h2 : (top == op) = false := beq_eq_false_iff_ne.2 h0
  exact z22
theorem kad {l : List St} {i : Nat} {s : St} (h : l[i]? = some s) : Oz.at_ l (i : Int) = s := by unfold Oz.at_; rw [Int.toNat_natCast, h]; rfl
theorem kjU (base g gs gu cap i : Nat) (l : List St) (vs : List Value) (s : St) (w : World) (h : EdX w base g gs cap l vs (.slice (some ⟨gu, 0, none⟩) l.length l.length)) (hu : Blk w gu 3 (uarr (kag l))) (hs : l[i]? = some s) (hb : ∀ s ∈ l, s.args.length ≤ 3 ∧ ∀ a ∈ s.args, 0 ≤ a ∧ a ≤ 100000) :
  Calls Tryz.prog 77 #[.pointer (some ⟨g, 0, none⟩), .int .i64 i] w (RepEnd base g gs cap l vs (.slice (some ⟨gu, 0, none⟩) l.length l.length) (Oz.unusedR l i) w) := by
 have hil := (gH hs).1
 have hcap := h.cap
 have hbase : base ≤ w.heap.size := Nat.le_trans h.hg (Nat.le_of_lt h.ed.lt)
 have x0 := h.ed.cell 0
 have x1 := h.ed.cell 1
 simp only [gA, gB, gC] at x0 x1
 obtain ⟨v, hv, ⟨y0, y1, y2, y3, y4⟩, ho⟩ := h.at_ hs
 obtain ⟨A, c, rfl⟩ := kak ho
 have hul : (kag l).length = l.length := kb4 l _
 have y6 : w.cell? ⟨gu, i, none⟩ = some (.int .i64 ((kag l).getD i 0)) := by rw [hu.cell]; exact kco (by omega)
 obtain ⟨R, hR⟩ := xE (Oz.unusedR l i)
 rw [← hR]
 unfold Oz.unusedR at hR
 rw [kad hs] at hR
 obtain ⟨u, hue⟩ := xE ((kag l).getD i 0)
 rw [← hue] at y6 hR
 obtain ⟨n, hn⟩ := xE l.length
 rw [← hn] at hil hcap hR h x0 x1 ⊢
 have HH := hD h
 have HN := hD hn
 have HBB := hD hb
 have hw := IntWalk.i64_in ((n : Int) - 1) (by omega)
 have q0 : (i : Int) < (n : Int) := by omega
 have q1 : (0 : Int) ≤ (i : Int) := by omega
 have hgl := h.ed.lt
 have HSF := hD (khz s A s.args.length c w)
 by_cases hlast : i + 1 = n
 ·
  have HRN : Hid (R = none) := hD (by rw [hR, if_pos (.inl hlast)])
  have e0 : ((i : Int) == (n : Int) - 1) = true := by rw [beq_iff_eq]; omega
  clear h hu hs hb hv ho hue hn hR hlast HSF
  go_enter Tryz.func77, Tryz.ntmps77
  go_wp2_with fail
  go_ret
  unfold RepEnd
  rw [HRN.out]
  exact ⟨rfl, Below.refl _ _⟩
 have e0 : ((i : Int) == (n : Int) - 1) = false := beq_eq_false_iff_ne.2 (by omega)
 by_cases hu0 : 0 < u
 ·
  have HRN : Hid (R = none) := hD (by rw [hR, if_pos (.inr (.inl hu0))])
  clear h hu hs hb hv ho hue hn hR hlast HSF
  go_enter Tryz.func77, Tryz.ntmps77
  go_wp2_with fail
  go_ret
  unfold RepEnd
  rw [HRN.out]
  exact ⟨rfl, Below.refl _ _⟩
 cases hsf : Oz.safeR s with
 | false =>
  have HRN : Hid (R = none) := hD (by rw [hR, if_pos (.inr (.inr hsf))])
  rw [hsf] at HSF
  clear h hu hs hb hv ho hue hn hR hlast
  go_enter Tryz.func77, Tryz.ntmps77
  go_wp2_with fail
  refine HSF.out.mono ?_
  rintro e w1 ⟨rfl, hb1⟩
  have HB1 := hD hb1
  clear hb1
  go_wp2_with fail
  go_ret
  unfold RepEnd
  rw [HRN.out]
  exact ⟨rfl, HB1.out⟩
 | true =>
  have HRN : Hid (R = some (Oz.removeR l i)) := hD (by rw [hR, if_neg (by rw [hsf]; simp only [not_or]; exact ⟨hlast, hu0, by simp⟩)])
  rw [hsf] at HSF
  have HI : Hid (i + 1 < l.length) := hD (by omega)
  clear h hu hs hb hv ho hue hn hR hlast
  go_enter Tryz.func77, Tryz.ntmps77
  go_wp2_with fail
  refine HSF.out.mono ?_
  rintro e w1 ⟨rfl, hb1⟩
  have HF1 := hD ((FrX.refl base w).below hb1 hbase)
  have HRM := hD (kde base g gs cap i l vs (.slice (some ⟨gu, 0, none⟩) n n) w1 (HH.out.below hb1) HI.out HBB.out)
  clear hb1 HSF
  go_wp2_with fail
  refine HRM.out.mono ?_
  rintro e w2 ⟨rfl, he2, hf2⟩
  have HE2 := hD he2
  have HF2 := hD (HF1.out.trans hf2)
  clear he2 hf2 HRM
  go_wp2_with fail
  go_ret
  unfold RepEnd
  rw [HRN.out]
  exact ⟨rfl, ⟨_, HE2.out⟩, HF2.out⟩
theorem FrX.setCells {base gs : Nat} {w : World} {cs : Array Value} (hb : Blk w gs 77 cs) (hg : base ≤ gs) (hB : base ≤ w.heap.size) (o : Nat) (xs : List Value) : FrX base w (w.setCells gs o xs) := FrX.grown (kat xs o w) hB hg hb (by decide)
theorem EdX.put {w : World} {base g gs cap i : Nat} {l : List St} {vs : List Value} {V : Value} (h : EdX w base g gs cap l vs V) (hi : i < l.length) (s' : St) (v' : Value) (ho : w.ownsRow base 3 1 v' s'.args.length (s'.args.map (Value.int .i64)))
  (hd : ∀ j v, j ≠ i → vs[j]? = some v → v'.ownBlock = none ∨ v.ownBlock ≠ v'.ownBlock) :
  EdX (w.setCells gs (i * 5) [.string ⟨s'.op.toArray⟩, v', .int .i64 s'.num, .string ⟨s'.text.toArray⟩, .int .i64 s'.ty]) base g gs cap (l.set i s') (vs.set i v') V ∧ FrX base w (w.setCells gs (i * 5) [.string ⟨s'.op.toArray⟩, v', .int .i64 s'.num, .string ⟨s'.text.toArray⟩, .int .i64 s'.ty]) := by
 obtain ⟨cs, e1, e2, e3⟩ := h.blk
 obtain ⟨A, c, rfl⟩ := kak ho
 obtain ⟨cs', z1, z2, z3, z4⟩ := kaH [.string ⟨s'.op.toArray⟩, .slice A s'.args.length c, .int .i64 s'.num, .string ⟨s'.text.toArray⟩, .int .i64 s'.ty] (i * 5) w cs e1
 have hg := kat (g := gs) [.string ⟨s'.op.toArray⟩, .slice A s'.args.length c, .int .i64 s'.num, .string ⟨s'.text.toArray⟩, .int .i64 s'.ty] (i * 5) w
 have hne := h.ne
 have hle := h.le
 have hvl := h.len
 have hiv : i < vs.length := by omega
 have hvne : (Value.slice A s'.args.length c).ownBlock ≠ some gs := kan ho e1 (by decide)
 refine ⟨⟨by rw [List.length_set]; exact h.ed.grown hg (fun e => hne (by injection e)), ⟨cs', z1, z2.trans e2, fun q v hq hv => ?_⟩, by rw [List.length_set, List.length_set]; exact hvl, fun j s v hs hv => ?_, fun j s v hs hv => ?_, fun a b v v' hab hv hv' => ?_, by rw [List.length_set]; exact hle, by rw [List.length_set]; exact h.cap, h.hg, h.hgs⟩, FrX.setCells e1 h.hgs (Nat.le_trans h.hgs (Nat.le_of_lt e1.lt)) _ _⟩
 ·
  rw [List.length_set] at hq
  by_cases hin : q < i * 5 ∨ i * 5 + 5 ≤ q
  ·
   exact e3 q v hq (by rw [← z4 q (by simpa using hin)]; exact hv)
  ·
   have := z3 (q - i * 5) (by simp; omega) (by omega)
   rw [show i * 5 + (q - i * 5) = q by omega, hv] at this
   have hm := List.mem_of_getElem? this.symm
   simp only [List.mem_cons, List.not_mem_nil, or_false] at hm
   rcases hm with rfl | rfl | rfl | rfl | rfl <;> rfl
 ·
  by_cases hij : i = j
  ·
   subst hij
   rw [List.getElem?_set_self hi] at hs
   rw [List.getElem?_set_self hiv] at hv
   injection hs with hs
   injection hv with hv
   subst hs hv
   have hc : ∀ k, k < 5 → (w.setCells gs (i * 5) [.string ⟨s'.op.toArray⟩, .slice A s'.args.length c, .int .i64 s'.num, .string ⟨s'.text.toArray⟩, .int .i64 s'.ty]).cell? ⟨gs, i * 5 + k, none⟩ = ([.string ⟨s'.op.toArray⟩, .slice A s'.args.length c, .int .i64 s'.num, .string ⟨s'.text.toArray⟩, .int .i64 s'.ty] : List Value)[k]? := fun k hk => by
    rw [z1.cell, z3 k (by simpa using hk) (by omega)]
   exact ⟨hc 0 (by omega), hc 1 (by omega), hc 2 (by omega), hc 3 (by omega), hc 4 (by omega)⟩
  ·
   rw [List.getElem?_set_ne hij] at hs hv
   obtain ⟨x0, x1, x2, x3, x4⟩ := h.cells j s v hs hv
   have hc : ∀ k, k < 5 → (w.setCells gs (i * 5) [.string ⟨s'.op.toArray⟩, .slice A s'.args.length c, .int .i64 s'.num, .string ⟨s'.text.toArray⟩, .int .i64 s'.ty]).cell? ⟨gs, j * 5 + k, none⟩ = w.cell? ⟨gs, j * 5 + k, none⟩ := fun k hk => by
    rw [z1.cell, e1.cell, z4 _ (by simp; omega)]
   exact ⟨(hc 0 (by omega)).trans x0, (hc 1 (by omega)).trans x1, (hc 2 (by omega)).trans x2, (hc 3 (by omega)).trans x3, (hc 4 (by omega)).trans x4⟩
 ·
  by_cases hij : i = j
  ·
   subst hij
   rw [List.getElem?_set_self hi] at hs
   rw [List.getElem?_set_self hiv] at hv
   injection hs with hs
   injection hv with hv
   subst hs hv
   exact kaA ho (fun b hb => hg.block b (kbO ho b hb) (fun e => hvne (by rw [hb]; exact e)))
  ·
   rw [List.getElem?_set_ne hij] at hs hv
   have ho' := h.own j s v hs hv
   exact kaA ho' (fun b hb => hg.block b (kbO ho' b hb) (fun e => (h.apart hs hv hb).2 (by injection e)))
 ·
  by_cases hia : i = a
  ·
   subst hia
   rw [List.getElem?_set_self hiv] at hv
   injection hv with hv
   subst hv
   rw [List.getElem?_set_ne hab] at hv'
   rcases hd b v' (fun e => hab e.symm) hv' with h0 | h0
   ·
    exact .inl h0
   ·
    exact .inr (fun e => h0 e.symm)
  ·
   rw [List.getElem?_set_ne hia] at hv
   by_cases hib : i = b
   ·
    subst hib
    rw [List.getElem?_set_self hiv] at hv'
    injection hv' with hv'
    subst hv'
    rcases hd a v (fun e => hia e.symm) hv with h0 | h0
    ·
     cases hvb : v.ownBlock with
     | none => exact .inl rfl
     | some q => exact .inr (fun e => by rw [h0] at e; cases e)
    ·
     exact .inr h0
   ·
    rw [List.getElem?_set_ne hib] at hv'
    exact h.dis a b v v' hab hv hv'
def kax (base g : Nat) (V : Value) (r : Option (List St)) (w : World) (e : Ending) (w' : World) : Prop := e = .returned (.bool r.isSome) ∧ match r with
 | none => Below w.heap.size w w'
 | some l' => (∃ gs' cap' vs', EdX w' base g gs' cap' l' vs' V) ∧ FrX base w w'
theorem RepEnd.ru {base g gs cap : Nat} {l : List St} {vs : List Value} {V : Value} {r : Option (List St)} {w w' : World} {e : Ending} (h : RepEnd base g gs cap l vs V r w e w') : kax base g V r w e w' := by
 unfold RepEnd at h
 unfold kax
 refine ⟨h.1, ?_⟩
 cases r with
 | none => exact h.2
 | some l' => exact ⟨⟨gs, cap, h.2.1⟩, h.2.2⟩
theorem EdX.base_le {w : World} {base g gs cap : Nat} {l : List St} {vs : List Value} {V : Value} (h : EdX w base g gs cap l vs V) : base ≤ w.heap.size := Nat.le_trans h.hg (Nat.le_of_lt h.ed.lt)
theorem kd1 (w : World) (zs : List Int) (hn : zs.length ≤ 100) : (w.alloc (.cells (zs.map (Value.int .i64)).toArray 3)).ownsRow w.heap.size 3 1 (.slice (some ⟨w.heap.size, 0, none⟩) zs.length zs.length) zs.length (zs.map (Value.int .i64)) :=
 ⟨by simp, .inr ⟨w.heap.size, zs.length, (zs.map (Value.int .i64)).toArray, rfl, Nat.le_refl _, heap_alloc_new w _, Nat.le_refl _, by unfold maxLen; omega, by simp, by
  rw [Nat.mul_one, List.take_of_length_le (by simp)]⟩⟩
theorem EdX.putFresh {w w1 : World} {base g gs cap i : Nat} {l : List St} {vs : List Value} {V : Value} (h : EdX w base g gs cap l vs V) (hb : Below w.heap.size w w1) (hi : i < l.length) (s' : St) (v' : Value) (ho : w1.ownsRow w.heap.size 3 1 v' s'.args.length (s'.args.map (Value.int .i64))) :
  EdX (w1.setCells gs (i * 5) [.string ⟨s'.op.toArray⟩, v', .int .i64 s'.num, .string ⟨s'.text.toArray⟩, .int .i64 s'.ty]) base g gs cap (l.set i s') (vs.set i v') V ∧ FrX base w (w1.setCells gs (i * 5) [.string ⟨s'.op.toArray⟩, v', .int .i64 s'.num, .string ⟨s'.text.toArray⟩, .int .i64 s'.ty]) := by
 have hbase : base ≤ w.heap.size := Nat.le_trans h.hg (Nat.le_of_lt h.ed.lt)
 have hp := (h.below hb).put hi s' v' (ho.mono hbase) (fun j v hj hv => by
  cases hvo : v'.ownBlock with
  | none => exact .inl rfl
  | some q =>
   refine .inr (fun e => ?_)
   have hq := kaq ho hvo
   cases hs : l[j]? with
   | none =>
    have := (gH hv).1
    rw [h.len] at this
    rw [List.getElem?_eq_getElem this] at hs
    cases hs
   | some s =>
    have := kbO (h.own j s v hs hv) q (e ▸ rfl)
    omega)
 exact ⟨hp.1, ((FrX.refl base w).below hb hbase).trans hp.2⟩
theorem kd0 {g : Nat} (x : Obj) : ∀ (vs : List Value) (o : Nat) (w : World), g < w.heap.size → (w.alloc x).setCells g o vs = (w.setCells g o vs).alloc x
 | [], _, _, _ => rfl
 | v :: vs, o, w, h => by
  unfold World.setCells
  rw [World.setCell_alloc_past x g o v h]
  exact kd0 x vs (o + 1) _ (by simpa using h)
theorem EdX.putNew {w : World} {base g gs cap i : Nat} {l : List St} {vs : List Value} {V : Value} (h : EdX w base g gs cap l vs V) (hi : i < l.length) (s' : St) (hn : s'.args.length ≤ 100) :
  EdX ((w.setCells gs (i * 5) [.string ⟨s'.op.toArray⟩, .slice (some ⟨w.heap.size, 0, none⟩) s'.args.length s'.args.length, .int .i64 s'.num, .string ⟨s'.text.toArray⟩, .int .i64 s'.ty]).alloc (.cells (s'.args.map (Value.int .i64)).toArray 3)) base g gs cap (l.set i s') (vs.set i (.slice (some ⟨w.heap.size, 0, none⟩) s'.args.length s'.args.length)) V ∧ FrX base w ((w.setCells gs (i * 5) [.string ⟨s'.op.toArray⟩, .slice (some ⟨w.heap.size, 0, none⟩) s'.args.length s'.args.length, .int .i64 s'.num, .string ⟨s'.text.toArray⟩, .int .i64 s'.ty]).alloc (.cells (s'.args.map (Value.int .i64)).toArray 3)) := by
 rw [← kd0 _ _ _ _ h.gs_lt]
 exact h.putFresh (kaa w _) hi s' _ (kd1 w s'.args hn)
theorem kkT (base g gs cap i : Nat) (l : List St) (vs : List Value) (V : Value) (s : St) (w : World) (h : EdX w base g gs cap l vs V) (hs : l[i]? = some s) (hb : s.op = Oz.oCommon → 2 ≤ s.args.length) :
  Calls Tryz.prog 71 #[.pointer (some ⟨g, 0, none⟩), .int .i64 i] w (RepEnd base g gs cap l vs V (Oz.commonR l i) w) := by
 have hil := (gH hs).1
 have hbase : base ≤ w.heap.size := Nat.le_trans h.hg (Nat.le_of_lt h.ed.lt)
 have x0 := h.ed.cell 0
 simp only [gA, gB, gC] at x0
 obtain ⟨v, hv, ⟨y0, y1, y2, y3, y4⟩, ho⟩ := h.at_ hs
 obtain ⟨A, c, rfl⟩ := kak ho
 obtain ⟨R, hR⟩ := xE (Oz.commonR l i)
 rw [← hR]
 unfold Oz.commonR at hR
 rw [kad hs] at hR
 obtain ⟨n, hn⟩ := xE l.length
 have q0 : (i : Int) < (n : Int) := by omega
 have q1 : (0 : Int) ≤ (i : Int) := by omega
 have hin : i < n := by omega
 rw [← hn] at x0
 have hgl := h.ed.lt
 have hgsl := h.gs_lt
 have HH := hD h
 by_cases hop : s.op = Oz.oCommon
 ·
  have hal := hb hop
  obtain ⟨a, ha⟩ : ∃ a, s.args[0]? = some a := ⟨_, List.getElem?_eq_getElem (by omega)⟩
  obtain ⟨b, hb2⟩ : ∃ b, s.args[1]? = some b := ⟨_, List.getElem?_eq_getElem (by omega)⟩
  have ea : Oz.arg s 0 = a := by unfold Oz.arg; rw [List.getD_eq_getElem?_getD, ha]; rfl
  have eb : Oz.arg s 1 = b := by unfold Oz.arg; rw [List.getD_eq_getElem?_getD, hb2]; rfl
  obtain ⟨q, c', hvq, _, hbq, hql, hc⟩ := ka8 ho (by omega)
  injection hvq with hA hkk hcc
  clear hkk
  subst hA hcc
  have z0 : w.cell? ⟨q, 0, none⟩ = some (.int .i64 a) := hc 0 _ (by rw [List.getElem?_map, ha]; rfl)
  have z1 : w.cell? ⟨q, 1, none⟩ = some (.int .i64 b) := hc 1 _ (by rw [List.getElem?_map, hb2]; rfl)
  obtain ⟨k, hk⟩ := xE s.args.length
  have p0 : (0 : Int) < (k : Int) := by omega
  have p1 : (1 : Int) < (k : Int) := by omega
  have p2 : 0 < k := by omega
  have p3 : 1 < k := by omega
  rw [← hk] at y1
  obtain ⟨num, hnum⟩ := xE s.num
  obtain ⟨text, htext⟩ := xE s.text
  obtain ⟨ty, hty⟩ := xE s.ty
  dsimp only at hR
  rw [hop, ea, eb] at hR
  rw [hop] at y0
  rw [← hnum] at y2
  rw [← htext] at y3
  rw [← hty] at y4
  unfold Oz.oCommon at y0
  clear h hs hb hv ho hn hc ha hb2 hk hnum htext hty ea eb hal
  by_cases hab : a = b
  ·
   subst hab
   have HRN : Hid (R = some (l.set i (Oz.mk Oz.oLen [a] 0 [] 1))) := hD (by rw [hR, if_pos ⟨rfl, rfl⟩])
   clear hR hop
   go_enter Tryz.func71, Tryz.ntmps71
   go_wp2_with fail
   go_quiet (fail)
   go_wp2_with fail
   obtain ⟨w1, hw1⟩ := xE ((w.alloc (.cells #[.string ⟨#[99, 111, 109, 109, 111, 110]⟩, .slice (some ⟨q, 0, none⟩) k c, .int .i64 num, .string ⟨text.toArray⟩, .int .i64 ty] 77)).drewN nq)
   rw [← hw1]
   have hb1 : Below w.heap.size w w1 := by rw [hw1]; exact kaf (kaa _ _) _
   have hblk : Blk w1 w.heap.size 77 #[.string ⟨#[99, 111, 109, 109, 111, 110]⟩, .slice (some ⟨q, 0, none⟩) k c, .int .i64 num, .string ⟨text.toArray⟩, .int .i64 ty] := by rw [hw1]; exact (Blk.new _ _ _).drewN _
   have t1 := hblk.cell 1
   simp only [gA, gB, gC] at t1
   have HE1 := hD (HH.out.below hb1)
   have c0 := (hb1.cell (p := ⟨g, 0, none⟩) hgl).trans x0
   have d0 := (hb1.cell (p := ⟨gs, _, none⟩) hgsl).trans y0
   have d1 := (hb1.cell (p := ⟨gs, _, none⟩) hgsl).trans y1
   have d2 := (hb1.cell (p := ⟨gs, _, none⟩) hgsl).trans y2
   have d3 := (hb1.cell (p := ⟨gs, _, none⟩) hgsl).trans y3
   have d4 := (hb1.cell (p := ⟨gs, _, none⟩) hgsl).trans y4
   have e0 := (hb1.cell (p := ⟨q, 0, none⟩) hql).trans z0
   obtain ⟨f0, f1, f2, f3, f4⟩ : w1.frozen? ⟨gs, i * 5, none⟩ = false ∧ w1.frozen? ⟨gs, i * 5 + 1, none⟩ = false ∧ w1.frozen? ⟨gs, i * 5 + 2, none⟩ = false ∧ w1.frozen? ⟨gs, i * 5 + 3, none⟩ = false ∧ w1.frozen? ⟨gs, i * 5 + 4, none⟩ = false := by
    obtain ⟨cs, e1, _⟩ := HE1.out.blk
    exact ⟨e1.frozen _, e1.frozen _, e1.frozen _, e1.frozen _, e1.frozen _⟩
   have hsz1 := hb1.size
   have hg1 := HE1.out.gs_lt
   have hg2 := HE1.out.ed.lt
   have hg3 := hblk.lt
   have hg4 : q < w1.heap.size := by omega
   have HB1 := hD hb1
   clear hw1 hb1 hblk x0 y0 y1 y2 y3 y4 z0 z1
   have hp := HE1.out.putNew (i := i) hil (Oz.mk Oz.oLen [a] 0 [] 1) (by show 1 ≤ 100; decide)
   have HP := hD hp.1
   have HF := hD (((FrX.refl base w).below HB1.out hbase).trans hp.2)
   clear hp
   go_region
   go_wp2_with fail
   go_ret
   unfold RepEnd
   rw [HRN.out]
   exact ⟨rfl, ⟨_, HP.out.below ((Below.refl _ _).drew)⟩, HF.out.below ((Below.refl _ _).drew) HP.out.base_le⟩
  ·
   have HRN : Hid (R = none) := hD (by rw [hR, if_neg (fun h => hab h.2)])
   have e1 : (a == b) = false := beq_eq_false_iff_ne.2 hab
   clear hR hop
   go_enter Tryz.func71, Tryz.ntmps71
   go_wp2_with fail
   go_quiet (fail)
   go_wp2_with fail
   go_ret
   unfold RepEnd
   rw [HRN.out]
   exact ⟨rfl, kaf ((kaa _ _)) _⟩
 ·
  have HRN : Hid (R = none) := hD (by rw [hR, if_neg (fun h => hop h.1)])
  have e1 : (s.op == [99, 111, 109, 109, 111, 110]) = false := beq_eq_false_iff_ne.2 hop
  clear h hs hb hv ho hn hR hop
  go_enter Tryz.func71, Tryz.ntmps71
  go_wp2_with fail
  go_quiet (fail)
  go_wp2_with fail
  go_ret
  unfold RepEnd
  rw [HRN.out]
  exact ⟨rfl, kaf ((kaa _ _)) _⟩
end Go.Proofs.YtamhdmkolfmmdaaGreatDoor
