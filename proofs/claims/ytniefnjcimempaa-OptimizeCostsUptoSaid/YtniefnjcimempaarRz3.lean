/- The walk of optimize's insert: one more step before a step of the editor. The walk of optimize's insert (printed by gen_ozz.py). -/
import Derived.Test.YtniefnjcimempaarRz0
import Derived.Test.YtniefnjcimempaarRz2
import Derived.Test.YtniefnjcimempaarRz1
namespace Go.Proofs.Ytniefnjcimempaa
open Go.RowKit
theorem ins_get {α : Type} (l : List α) (i : Nat) (x : α) (hi : i ≤ l.length) (q : Nat) : (l.take i ++ x :: l.drop i)[q]? = if q < i then l[q]? else if q = i then some x else l[q - 1]? := by
  have hl : (l.take i).length = i := by rw [List.length_take]; omega
  by_cases h : q < i
  · rw [if_pos h, List.getElem?_append_left (by omega), List.getElem?_take, if_pos h]
  · rw [if_neg h, List.getElem?_append_right (by omega), hl]
    by_cases h2 : q = i
    · subst h2
      rw [if_pos rfl, Nat.sub_self, List.getElem?_cons_zero]
    · rw [if_neg h2]
      obtain ⟨m, hm⟩ : ∃ m, q - i = m + 1 := ⟨q - i - 1, by omega⟩
      rw [hm, List.getElem?_cons_succ, List.getElem?_drop]
      congr 1
      omega
set_option maxHeartbeats 4000000 in
theorem EdX.ins {w w1 w2 : World} {base g gs cap i n gs' cap' : Nat} {l : List St} {vs : List Value} {V : Value} (h : EdX w base g gs cap l vs V) (hn : n = l.length) (hi : i < n) (hcap : n + 1 ≤ 100000) (s' : St) (v' : Value) (ho : w.ownsRow base 3 1 v' s'.args.length (s'.args.map (Value.int .i64)))
    (hd : ∀ (j : Nat) (v : Value), vs[j]? = some v → v'.ownBlock = none ∨ v.ownBlock ≠ v'.ownBlock) (hv1 : v'.oneCell' = true) (hg1 : w.grownBy w1 (some gs)) (hgs' : gs' = gs ∨ w.heap.size ≤ gs') (cs' : Array Value) (hb1 : Blk w1 gs' 25 cs') (hsz : cs'.size = cap' * 5) (hc' : n + 1 ≤ cap')
    (hcs : ∀ cs, Blk w gs 25 cs → (∀ q, q < i * 5 → cs'[q]? = cs[q]?) ∧ (∀ q, q < 5 → cs'[i * 5 + q]? = #[Value.string ⟨s'.op.toArray⟩, v', .int .i64 s'.num, .string ⟨s'.text.toArray⟩, .int .i64 s'.ty][q]?) ∧ (∀ q, i * 5 ≤ q → q < n * 5 → cs'[5 + q]? = cs[q]?))
    (he : w2 = w1.setCell ⟨g, 0, none⟩ (.slice (some ⟨gs', 0, none⟩) (n + 1) cap')) : EdX w2 base g gs' cap' (l.take i ++ s' :: l.drop i) (vs.take i ++ v' :: vs.drop i) V ∧ FrX base w w2 := by
  subst he
  subst hn
  obtain ⟨cs, e1, e2, e3⟩ := h.blk
  obtain ⟨z1, z2, z3⟩ := hcs cs e1
  have hne := h.ne
  have hgl := h.ed.lt
  have hbase := h.base_le
  have hne' : g ≠ gs' := by
    rcases hgs' with rfl | h0
    · exact hne
    · omega
  have hvl := h.len
  have hE1 : Blk w1 g 83 #[.slice (some ⟨gs, 0, none⟩) l.length cap, V] := h.ed.grown hg1 (fun e => hne (by injection e))
  have hlen : (l.take i ++ s' :: l.drop i).length = l.length + 1 := by simp; omega
  have hlenv : (vs.take i ++ v' :: vs.drop i).length = l.length + 1 := by simp; omega
  have hgs : (w1.setCell ⟨g, 0, none⟩ (.slice (some ⟨gs', 0, none⟩) (l.length + 1) cap')).heap[gs']? = w1.heap[gs']? := Below.heap_setCell w1 ⟨g, 0, none⟩ _ gs' (fun e => hne' e.symm)
  have hgetv : ∀ j v, (vs.take i ++ v' :: vs.drop i)[j]? = some v → (∃ j', vs[j']? = some v ∧ (j < i ∧ j' = j ∨ i < j ∧ j = j' + 1)) ∨ (j = i ∧ v = v') := fun j v hv => by
    rw [ins_get vs i v' (by omega)] at hv
    by_cases h1 : j < i
    · rw [if_pos h1] at hv
      exact .inl ⟨j, hv, .inl ⟨h1, rfl⟩⟩
    · rw [if_neg h1] at hv
      by_cases h2 : j = i
      · rw [if_pos h2] at hv
        injection hv with hv
        exact .inr ⟨h2, hv.symm⟩
      · rw [if_neg h2] at hv
        exact .inl ⟨j - 1, hv, .inr ⟨by omega, by omega⟩⟩
  have hidx : ∀ j s v, (l.take i ++ s' :: l.drop i)[j]? = some s → (vs.take i ++ v' :: vs.drop i)[j]? = some v → (∃ j', l[j']? = some s ∧ vs[j']? = some v ∧ (j < i ∧ j' = j ∨ i < j ∧ j = j' + 1)) ∨ (j = i ∧ s = s' ∧ v = v') := fun j s v hs hv => by
    rw [ins_get l i s' (by omega)] at hs
    rw [ins_get vs i v' (by omega)] at hv
    by_cases h1 : j < i
    · rw [if_pos h1] at hs hv
      exact .inl ⟨j, hs, hv, .inl ⟨h1, rfl⟩⟩
    · rw [if_neg h1] at hs hv
      by_cases h2 : j = i
      · rw [if_pos h2] at hs hv
        injection hs with hs
        injection hv with hv
        exact .inr ⟨h2, hs.symm, hv.symm⟩
      · rw [if_neg h2] at hs hv
        exact .inl ⟨j - 1, hs, hv, .inr ⟨by omega, by omega⟩⟩
  have hkeep : ∀ b, b < w.heap.size → b ≠ g → b ≠ gs → (w1.setCell ⟨g, 0, none⟩ (.slice (some ⟨gs', 0, none⟩) (l.length + 1) cap')).heap[b]? = w.heap[b]? := fun b hb h1 h2 =>
    (Below.heap_setCell w1 ⟨g, 0, none⟩ _ b h1).trans (hg1.block b hb (fun e => h2 (by injection e)))
  refine ⟨⟨by rw [hlen]; exact hE1.set_ 0 _, ⟨cs', hb1.far (p := ⟨g, 0, none⟩) (fun e => hne' e.symm) _, hsz, fun q v hq hv => ?_⟩, by rw [hlen, hlenv], fun j s v hs hv => ?_, fun j s v hs hv => ?_, fun a b v v2 hab hv hv2 => ?_, by rw [hlen]; omega, by rw [hlen]; omega, h.hg, by rcases hgs' with rfl | h0; exact h.hgs; omega⟩, ?_⟩
  · rw [hlen] at hq
    by_cases h1 : q < i * 5
    · exact e3 q v (by omega) (by rw [← z1 q h1]; exact hv)
    · by_cases h2 : q < i * 5 + 5
      · rw [show q = i * 5 + (q - i * 5) by omega, z2 (q - i * 5) (by omega)] at hv
        have hm := List.mem_of_getElem? (by rw [List.getElem?_toArray] at hv; exact hv)
        simp only [List.mem_cons, List.not_mem_nil, or_false] at hm
        rcases hm with rfl | rfl | rfl | rfl | rfl
        · rfl
        · exact hv1
        · rfl
        · rfl
        · rfl
      · exact e3 (q - 5) v (by omega) (by rw [← z3 (q - 5) (by omega) (by omega), show 5 + (q - 5) = q by omega]; exact hv)
  · rcases hidx j s v hs hv with ⟨j', hs', hv', hc⟩ | ⟨rfl, rfl, rfl⟩
    · obtain ⟨x0, x1, x2, x3, x4⟩ := h.cells j' s v hs' hv'
      have hjl := (List.getElem?_eq_some_iff.1 hs').1
      have hcc : ∀ k, k < 5 → (w1.setCell ⟨g, 0, none⟩ (.slice (some ⟨gs', 0, none⟩) (l.length + 1) cap')).cell? ⟨gs', j * 5 + k, none⟩ = w.cell? ⟨gs, j' * 5 + k, none⟩ := fun k hk => by
        rw [World.cell?_of_block (a := ⟨gs', j * 5 + k, none⟩) hgs, hb1.cell, e1.cell]
        rcases hc with ⟨h1, rfl⟩ | ⟨h1, rfl⟩
        · exact z1 _ (by omega)
        · rw [show (j' + 1) * 5 + k = 5 + (j' * 5 + k) by omega]
          exact z3 _ (by omega) (by omega)
      exact ⟨(hcc 0 (by omega)).trans x0, (hcc 1 (by omega)).trans x1, (hcc 2 (by omega)).trans x2, (hcc 3 (by omega)).trans x3, (hcc 4 (by omega)).trans x4⟩
    · have hcc : ∀ k, k < 5 → (w1.setCell ⟨g, 0, none⟩ (.slice (some ⟨gs', 0, none⟩) (l.length + 1) cap')).cell? ⟨gs', j * 5 + k, none⟩ = #[Value.string ⟨s.op.toArray⟩, v, .int .i64 s.num, .string ⟨s.text.toArray⟩, .int .i64 s.ty][k]? := fun k hk => by
        rw [World.cell?_of_block (a := ⟨gs', j * 5 + k, none⟩) hgs, hb1.cell]
        exact z2 k hk
      exact ⟨hcc 0 (by omega), hcc 1 (by omega), hcc 2 (by omega), hcc 3 (by omega), hcc 4 (by omega)⟩
  · rcases hidx j s v hs hv with ⟨j', hs', hv', _⟩ | ⟨rfl, rfl, rfl⟩
    · refine own_same (h.own j' s v hs' hv') (fun b hb => ?_)
      obtain ⟨hq1, hq2⟩ := h.apart hs' hv' hb
      exact hkeep b (own_lt (h.own j' s v hs' hv') b hb) hq1 hq2
    · refine own_same ho (fun b hb => hkeep b (own_lt ho b hb) (fun e => ?_) (fun e => ?_))
      · exact own_blk_ne ho h.ed (by decide) (by rw [hb, e])
      · exact own_blk_ne ho e1 (by decide) (by rw [hb, e])
  · rcases hgetv a v hv with ⟨a', ha, hca⟩ | ⟨h1, rfl⟩
    · rcases hgetv b v2 hv2 with ⟨b', hb, hcb⟩ | ⟨h2, rfl⟩
      · exact h.dis a' b' v v2 (by omega) ha hb
      · rcases hd a' v ha with h0 | h0
        · cases hvo : v.ownBlock with
          | none => exact .inl rfl
          | some x => exact .inr (by rw [h0]; intro e; cases e)
        · exact .inr h0
    · rcases hgetv b v2 hv2 with ⟨b', hb, hcb⟩ | ⟨h2, rfl⟩
      · rcases hd b' v2 hb with h0 | h0
        · exact .inl h0
        · exact .inr (fun e => h0 e.symm)
      · omega
  · exact (FrX.grown hg1 hbase h.hgs e1 (by decide)).setCell (p := ⟨g, 0, none⟩) h.hg hE1 (by decide) _
theorem insert_at (gs vb n i cap : Nat) (cs vals : Array Value) (w : World) (hB : Blk w gs 25 cs) (hsz : cs.size = cap * 5) (hV : Blk w vb 25 vals) (hvs : vals.size = 5) (hne : vb ≠ gs) (hi : i < n) (hnc : n ≤ cap) (hnb : n ≤ 100000) (h1 : ∀ q v, q < n * 5 → cs[q]? = some v → v.oneCell' = true) (h1v : ∀ v ∈ vals.toList, v.oneCell' = true) :
    Calls Try.prog 97 #[.slice (some ⟨gs, 0, none⟩) n cap, .int .i64 i, .slice (some ⟨vb, 0, none⟩) 1 1] w (InsEnd gs n i cs vals w) := by
  by_cases h : n + 1 ≤ cap
  · exact insert_room gs vb n i cap cs vals w hB hsz hV hvs hne hi h hnb h1 h1v
  · obtain rfl : cap = n := by omega
    exact insert_grow gs vb cap i cs vals w hB hsz hV hvs hi hnb h1 h1v
end Go.Proofs.Ytniefnjcimempaa
namespace Go.Proofs.Ytniefnjcimempaa
open Go.RowKit
def fIn (i : Nat) (a : Int) : Int := if (i : Int) ≤ a then a + 1 else a
def InoRel (base g gs cap : Nat) (f0 : Int → Int) (i d : Nat) (l1 : List St) (vs : List Value) (V : Value) (w : World) (b0 : Nat) (K0 : Array Value) (vP : Value) (xs : List Int) (f : Nat) (c : Value) (wr : World) : Prop := ∃ p : Nat, c = .int .i64 p ∧ p ≤ d ∧ d - p < f ∧ Hid (EdX wr base g gs cap (mapFrom f0 i p l1) vs V) ∧ Hid (FrX base w wr) ∧ Hid (Blk wr b0 25 K0) ∧ Hid (wr.ownsRow base 3 1 vP xs.length (xs.map (Value.int .i64)))
def IniRel (base g gs cap : Nat) (f0 : Int → Int) (i p : Nat) (l1 : List St) (s : St) (vs : List Value) (V : Value) (w : World) (b1 : Nat) (K1 : Array Value) (b0 : Nat) (K0 : Array Value) (vP : Value) (xs : List Int) (f : Nat) (c : Value) (wr : World) : Prop := ∃ k : Nat, c = .int .i64 k ∧ k ≤ s.args.length ∧ s.args.length - k < f ∧ Hid (Blk wr b1 25 K1) ∧ Hid (EdX wr base g gs cap ((mapFrom f0 i p l1).set (i + p) { s with args := argsTo f0 s.args k }) vs V) ∧ Hid (FrX base w wr) ∧ Hid (Blk wr b0 25 K0) ∧ Hid (wr.ownsRow base 3 1 vP xs.length (xs.map (Value.int .i64)))
theorem insertR_eq {l : List St} {i d : Nat} {s : St} (h : i + d = l.length) : (mapFrom (fIn i) i d l).take i ++ s :: (mapFrom (fIn i) i d l).drop i = Oz.insertR l i s := by
  rw [mapFrom_all h]
  have hl : (l.take i).length = i := by rw [List.length_take]; omega
  have h1 : (l.take i ++ (l.drop i).map (Oz.mapA (fIn i))).take i = l.take i := by rw [List.take_append_of_le_length (by omega), List.take_of_length_le (by omega)]
  have h2 : (l.take i ++ (l.drop i).map (Oz.mapA (fIn i))).drop i = (l.drop i).map (Oz.mapA (fIn i)) := by rw [List.drop_append_of_le_length (by omega), List.drop_of_length_le (by omega), List.nil_append]
  rw [h1, h2]
  rfl
set_option maxRecDepth 100000 in
set_option maxHeartbeats 8000000 in
theorem insert_any (base g gs cap i : Nat) (l : List St) (vs : List Value) (V : Value) (w : World) (h : EdX w base g gs cap l vs V) (hi : i < l.length) (hl1 : l.length + 1 ≤ 100000) (hb : ∀ s ∈ l, s.args.length ≤ 3 ∧ ∀ a ∈ s.args, 0 ≤ a ∧ a ≤ 100000) (op : List UInt8) (xs : List Int) (num : Int) (text : List UInt8) (ty : Int) (vP : Value)
    (hov : w.ownsRow base 3 1 vP xs.length (xs.map (Value.int .i64))) (hd : ∀ (j : Nat) (v : Value), vs[j]? = some v → vP.ownBlock = none ∨ v.ownBlock ≠ vP.ownBlock) :
    Calls Try.prog 84 #[.pointer (some ⟨g, 0, none⟩), .int .i64 i, .agg #[.string ⟨op.toArray⟩, vP, .int .i64 num, .string ⟨text.toArray⟩, .int .i64 ty]] w fun e w' => e = .returned (.tuple #[]) ∧ (∃ gs' cap', EdX w' base g gs' cap' (Oz.insertR l i (Oz.mk op xs num text ty)) (vs.take i ++ vP :: vs.drop i) V) ∧ FrX base w w' := by
  obtain ⟨AP, cP, rfl⟩ := own_form hov
  have hle := h.le
  have hcap := h.cap
  have hbase := h.base_le
  obtain ⟨n, hn⟩ : ∃ n, n = l.length := ⟨_, rfl⟩
  have hin : i < n := by omega
  have HI := Lib.hid hin
  have HN := Lib.hid hn
  have HL1 := Lib.hid hl1
  have HBB := Lib.hid hb
  have HD := Lib.hid hd
  have HOV := Lib.hid hov
  have HH := Lib.hid h
  have hgl := h.ed.lt
  have hncap : n ≤ cap := by omega
  have hnb : n ≤ 100000 := by omega
  clear h hb hd hov hn hl1 hi hle hcap
  go_enter Try.func84, Try.ntmps84
  go_upto_region 1 with (fail)
  obtain ⟨w2, hw2⟩ : ∃ w2, w2 = w.alloc (.cells #[.string ⟨op.toArray⟩, .slice AP xs.length cP, .int .i64 num, .string ⟨text.toArray⟩, .int .i64 ty] 25) := ⟨_, rfl⟩
  rw [← hw2]
  have hb2 : Below w.heap.size w w2 := by rw [hw2]; exact below_alloc _ _
  have HK : Hid (Blk w2 w.heap.size 25 #[.string ⟨op.toArray⟩, .slice AP xs.length cP, .int .i64 num, .string ⟨text.toArray⟩, .int .i64 ty]) := Lib.hid (by rw [hw2]; exact Blk.new _ _ _)
  have HT := Lib.hid (HH.out.below hb2)
  have HF := Lib.hid ((FrX.refl base w).below hb2 hbase)
  have HOW := Lib.hid (own_below HOV.out hb2)
  have z0 := HT.out.ed.cell 0
  simp only [List.getElem?_toArray, List.getElem?_cons_zero] at z0
  rw [← HN.out] at z0
  obtain ⟨d, hd⟩ : ∃ d, d = n - i := ⟨_, rfl⟩
  have qd : n - i = d := hd.symm
  have qe : ¬ (cap = i) := by omega
  have qf : (i : Int) ≤ (n : Int) := by omega
  have qg : (0 : Int) ≤ (i : Int) := by omega
  have qh : (n : Int) ≤ (cap : Int) := by omega
  have HDN : Hid (i + d = n) := Lib.hid (by have := HI.out; omega)
  have hdb : d ≤ 100000 := by omega
  have HT0 : Hid (EdX w2 base g gs cap (mapFrom (fIn i) i 0 l) vs V) := Lib.hid (by rw [mapFrom_zero]; exact HT.out)
  clear hw2 hb2 hd HT
  go_wp2_with fail
  clear z0
  go_loopg [7, 8, 9, 17, 24] (d + 1) (fun f _ _ _ c _ wr => InoRel base g gs cap (fIn i) i d l vs V w w.heap.size #[.string ⟨op.toArray⟩, .slice AP xs.length cP, .int .i64 num, .string ⟨text.toArray⟩, .int .i64 ty] (.slice AP xs.length cP) xs f c wr)
  case atStart => exact ⟨0, rfl, by omega, by omega, HT0, HF, HK, HOW⟩
  case round =>
    clear HT0 HF HK HOW
    obtain ⟨p, rfl, hp, hpf, HE, HF, HB0, HOW⟩ := hrel
    obtain ⟨f, rfl⟩ : ∃ f, gk = f + 1 := ⟨gk - 1, by omega⟩
    by_cases hlt : p < d
    · obtain ⟨s, hs⟩ : ∃ s, l[i + p]? = some s := ⟨l[i + p]'(by have := HN.out; have := HDN.out; omega), List.getElem?_eq_getElem _⟩
      have hs' : (mapFrom (fIn i) i p l)[i + p]? = some s := mapFrom_get.trans hs
      have hsb := HBB.out s (List.mem_of_getElem? hs)
      obtain ⟨v, hv, ⟨x0, x1, x2, x3, x4⟩, ho⟩ := HE.out.at_ hs'
      obtain ⟨A, c, rfl⟩ := own_form ho
      rw [show (i + p) * 5 = i * 5 + p * 5 by omega] at x0 x1 x2 x3 x4
      have HMS := Lib.hid (mapFrom_succ (f := fIn i) hs)
      have HS := Lib.hid hs
      have HV := Lib.hid hv
      have HSB := Lib.hid hsb.2
      have hal := hsb.1
      have q0 : (p : Int) < (d : Int) := by omega
      have q1 : (0 : Int) ≤ (p : Int) := by omega
      have HLEN := Lib.hid (show i + p < (mapFrom (fIn i) i p l).length from (List.getElem?_eq_some_iff.1 hs').1)
      have HE3 := Lib.hid (fun o => HE.out.below (below_alloc wr o))
      have HF3 := Lib.hid (fun o => HF.out.below (below_alloc wr o) (Nat.le_trans HE.out.hg (Nat.le_of_lt HE.out.ed.lt)))
      have HB3 := Lib.hid (fun o => HB0.out.below (below_alloc wr o) HB0.out.lt)
      have HO3 := Lib.hid (fun o => own_below HOW.out (below_alloc wr o))
      have HSET : Hid ((mapFrom (fIn i) i p l).set (i + p) { s with args := argsTo (fIn i) s.args 0 } = mapFrom (fIn i) i p l) := Lib.hid (by
        rw [argsTo_zero]
        apply List.ext_getElem?
        intro q
        by_cases hq : i + p = q
        · subst hq
          rw [List.getElem?_set_self (List.getElem?_eq_some_iff.1 hs').1, hs']
        · rw [List.getElem?_set_ne hq])
      clear hs hs' hv hsb ho HE HF HB0 HOW
      go_upto_region 4 with (fail)
      obtain ⟨wo, hwo⟩ : ∃ wo, wo = wr.alloc (.cells #[.string ⟨s.op.toArray⟩, .slice A s.args.length c, .int .i64 s.num, .string ⟨s.text.toArray⟩, .int .i64 s.ty] 25) := ⟨_, rfl⟩
      rw [← hwo]
      have hkb : Blk wo wr.heap.size 25 #[.string ⟨s.op.toArray⟩, .slice A s.args.length c, .int .i64 s.num, .string ⟨s.text.toArray⟩, .int .i64 s.ty] := by rw [hwo]; exact Blk.new _ _ _
      have y1 := hkb.cell 1
      simp only [List.getElem?_toArray, List.getElem?_cons_zero, List.getElem?_cons_succ] at y1
      have HKB := Lib.hid hkb
      have HEo : Hid (EdX wo base g gs cap ((mapFrom (fIn i) i p l).set (i + p) { s with args := argsTo (fIn i) s.args 0 }) vs V) := Lib.hid (by rw [HSET.out, hwo]; exact HE3.out _)
      have HFo : Hid (FrX base w wo) := Lib.hid (by rw [hwo]; exact HF3.out _)
      have HBo : Hid (Blk wo w.heap.size 25 #[.string ⟨op.toArray⟩, .slice AP xs.length cP, .int .i64 num, .string ⟨text.toArray⟩, .int .i64 ty]) := Lib.hid (by rw [hwo]; exact HB3.out _)
      have HOo : Hid (wo.ownsRow base 3 1 (.slice AP xs.length cP) xs.length (xs.map (Value.int .i64))) := Lib.hid (by rw [hwo]; exact HO3.out _)
      clear hwo hkb HE3 HF3 HB3 HO3 HSET x0 x1 x2 x3 x4
      go_wp2_with fail
      clear y1
      go_loopg [8, 9, 24] (s.args.length + 1) (fun f _ _ c' wi => IniRel base g gs cap (fIn i) i p l s vs V w wr.heap.size #[.string ⟨s.op.toArray⟩, .slice A s.args.length c, .int .i64 s.num, .string ⟨s.text.toArray⟩, .int .i64 s.ty] w.heap.size #[.string ⟨op.toArray⟩, .slice AP xs.length cP, .int .i64 num, .string ⟨text.toArray⟩, .int .i64 ty] (.slice AP xs.length cP) xs f c' wi)
      case atStart => exact ⟨0, rfl, by omega, by omega, HKB, HEo, HFo, HBo, HOo⟩
      case round =>
        clear HKB HEo HFo HBo HOo
        obtain ⟨k, rfl, hk, hkf, HK0, HE, HF, HB0, HOW⟩ := hrel
        obtain ⟨f2, rfl⟩ : ∃ f2, gk = f2 + 1 := ⟨gk - 1, by omega⟩
        by_cases hkl : k < s.args.length
        · obtain ⟨a, ha⟩ : ∃ a, s.args[k]? = some a := ⟨s.args[k], List.getElem?_eq_getElem hkl⟩
          have hab := HSB.out a (List.mem_of_getElem? ha)
          obtain ⟨q, c2, hv2, hca, hfz, hbq, hset⟩ := HE.out.setArg (i := i + p) (k := k) (List.getElem?_set_self HLEN.out) HV.out (show k < (argsTo (fIn i) s.args k).length by rw [argsTo_len]; exact hkl) (a + 1)
          injection hv2 with hA hlen hcc
          clear hlen
          subst hA hcc
          have y5 := hca a (argsTo_get.trans ha)
          have k1 := HK0.out.cell 1
          simp only [List.getElem?_toArray, List.getElem?_cons_zero, List.getElem?_cons_succ] at k1
          have p0 : (k : Int) < (s.args.length : Int) := by omega
          have p1 : (0 : Int) ≤ (k : Int) := by omega
          have hbl : ∃ cur, Blk wr q 3 cur := (own_lo (HE.out.own (i + p) _ _ (List.getElem?_set_self HLEN.out) HV.out) rfl).2
          by_cases hia : (i : Int) ≤ a
          · have hfa : fIn i a = a + 1 := if_pos hia
            have HES : Hid (EdX (wr.setCell ⟨q, k, none⟩ (.int .i64 (a + 1))) base g gs cap ((mapFrom (fIn i) i p l).set (i + p) { s with args := argsTo (fIn i) s.args (k + 1) }) vs V) := Lib.hid (by
              have h := hset
              rw [List.set_set] at h
              rw [argsTo_succ ha, hfa]
              exact h)
            obtain ⟨cur, hB⟩ := hbl
            have HFS := Lib.hid (HF.out.setCell (p := ⟨q, k, none⟩) hbq hB (by decide) (.int .i64 (a + 1)))
            have HKS := Lib.hid (HK0.out.far (p := ⟨q, k, none⟩) (HK0.out.ne_ hB (by decide)) (.int .i64 (a + 1)))
            have HBS := Lib.hid (HB0.out.far (p := ⟨q, k, none⟩) (HB0.out.ne_ hB (by decide)) (.int .i64 (a + 1)))
            have HOS : Hid ((wr.setCell ⟨q, k, none⟩ (.int .i64 (a + 1))).ownsRow base 3 1 (.slice AP xs.length cP) xs.length (xs.map (Value.int .i64))) := Lib.hid (own_same HOW.out (fun b hb => Below.heap_setCell wr ⟨q, k, none⟩ _ b (fun e => by
              rcases HD.out _ _ HV.out with h0 | h0
              · rw [hb] at h0; cases h0
              · exact h0 (by rw [hb, e]; rfl))))
            have hw := IntWalk.i64_in (a + 1) (by omega)
            clear ha hab hca hset hB hfa
            go_wp2_with fail
            go_roundg f2
            case measure => omega
            case rel => exact ⟨k + 1, by go_num, by omega, by omega, HKS, HES, HFS, HBS, HOS⟩
          · have hfa : fIn i a = a := if_neg hia
            have HES : Hid (EdX wr base g gs cap ((mapFrom (fIn i) i p l).set (i + p) { s with args := argsTo (fIn i) s.args (k + 1) }) vs V) := Lib.hid (by rw [argsTo_skip ha hfa]; exact HE.out)
            clear ha hab hca hset hbl hfa
            go_wp2_with fail
            go_roundg f2
            case measure => omega
            case rel => exact ⟨k + 1, by go_num, by omega, by omega, HK0, HES, HF, HB0, HOW⟩
        · have hkk : k = s.args.length := by omega
          subst hkk
          have p0 : ¬ ((s.args.length : Int) < (s.args.length : Int)) := by omega
          have HEE : Hid (EdX wr base g gs cap (mapFrom (fIn i) i (p + 1) l) vs V) := Lib.hid (by
            have h := HE.out
            rw [argsTo_all] at h
            rw [HMS.out]
            exact h)
          go_wp2_with fail
          go_roundg f
          case measure => omega
          case rel => exact ⟨p + 1, by go_num, by omega, by omega, HEE, HF, HB0, HOW⟩
    · have hpd : p = d := by omega
      subst hpd
      have q0 : ¬ ((p : Int) < (p : Int)) := by omega
      clear hlt hpf hp
      go_upto_region 11 with (fail)
      obtain ⟨m, hm⟩ : ∃ m, m = mapFrom (fIn i) i p l := ⟨_, rfl⟩
      rw [← hm] at HE
      have hml : m.length = n := by rw [hm, mapFrom_len]; exact HN.out.symm
      have hir : m.take i ++ Oz.mk op xs num text ty :: m.drop i = Oz.insertR l i (Oz.mk op xs num text ty) := by rw [hm]; exact insertR_eq (by rw [← HN.out]; exact HDN.out)
      obtain ⟨W, hW⟩ : ∃ W, W = (wr.alloc (.cells #[.string ⟨op.toArray⟩, .slice AP xs.length cP, .int .i64 num, .string ⟨text.toArray⟩, .int .i64 ty] 25)).drew := ⟨_, rfl⟩
      have hbW : Below wr.heap.size wr W := by rw [hW]; exact (below_alloc _ _).drew
      have hVW : Blk W wr.heap.size 25 #[.string ⟨op.toArray⟩, .slice AP xs.length cP, .int .i64 num, .string ⟨text.toArray⟩, .int .i64 ty] := by rw [hW]; exact (Blk.new _ _ _).drew
      have HEW := Lib.hid (HE.out.below hbW)
      have HFW := Lib.hid (HF.out.below hbW HE.out.base_le)
      have HOV2 := Lib.hid (own_below HOW.out hbW)
      obtain ⟨cs, e1, e2, e3⟩ := HEW.out.blk
      rw [hml] at e3
      have HCS := Lib.hid e1
      have hgne : wr.heap.size ≠ gs := fun e => by have := HE.out.gs_lt; omega
      have hic := insert_at gs wr.heap.size n i cap cs _ W e1 e2 hVW rfl hgne HI.out hncap hnb (fun q v hq hv => e3 q v hq hv) (by simp [Value.oneCell'])
      have HML := Lib.hid hml
      have HIN2 : Hid (Calls Try.prog 97 #[.slice (some ⟨gs, 0, none⟩) n cap, .int .i64 i, .slice (some ⟨wr.heap.size, 0, none⟩) 1 1] W fun e w5 => ∃ gs' cap', e = .returned (.slice (some ⟨gs', 0, none⟩) (n + 1) cap') ∧ w5.cell? ⟨g, 0, none⟩ = some (.slice (some ⟨gs, 0, none⟩) n cap) ∧ w5.frozen? ⟨g, 0, none⟩ = false ∧ EdX (w5.setCell ⟨g, 0, none⟩ (.slice (some ⟨gs', 0, none⟩) (n + 1) cap')) base g gs' cap' (Oz.insertR l i (Oz.mk op xs num text ty)) (vs.take i ++ .slice AP xs.length cP :: vs.drop i) V ∧ FrX base w (w5.setCell ⟨g, 0, none⟩ (.slice (some ⟨gs', 0, none⟩) (n + 1) cap'))) := Lib.hid (by
        refine hic.mono ?_
        rintro e w5 ⟨gs', cap', cs', rfl, hg, hgs', hb5, hs5, hc5, h1, h2, h3⟩
        have hE5 : Blk w5 g 83 #[.slice (some ⟨gs, 0, none⟩) m.length cap, V] := HEW.out.ed.grown hg (fun e => HEW.out.ne (by injection e))
        rw [HML.out] at hE5
        have hins := HEW.out.ins (n := n) HML.out.symm HI.out (by have := HL1.out; have := HN.out; omega) (Oz.mk op xs num text ty) (.slice AP xs.length cP) HOV2.out HD.out rfl hg hgs' cs' hb5 hs5 hc5 (fun cs0 h0 => by
          have : cs0 = cs := by have := h0.symm.trans HCS.out; injection this with this; injection this
          subst this
          exact ⟨h1, h2, h3⟩) rfl
        rw [hir] at hins
        have k0 := hE5.cell 0
        simp only [List.getElem?_toArray, List.getElem?_cons_zero] at k0
        exact ⟨gs', cap', by rw [Int.toNat_natCast], k0, hE5.frozen 0, hins.1, HFW.out.trans hins.2⟩)
      rw [hW] at HIN2
      have c0 := HE.out.ed.cell 0
      simp only [List.getElem?_toArray, List.getElem?_cons_zero] at c0
      rw [hml] at c0
      obtain ⟨t0, t1, t2, t3, t4⟩ : wr.cell? ⟨w.heap.size, 0, none⟩ = some (.string ⟨op.toArray⟩) ∧ wr.cell? ⟨w.heap.size, 1, none⟩ = some (.slice AP xs.length cP) ∧ wr.cell? ⟨w.heap.size, 2, none⟩ = some (.int .i64 num) ∧ wr.cell? ⟨w.heap.size, 3, none⟩ = some (.string ⟨text.toArray⟩) ∧ wr.cell? ⟨w.heap.size, 4, none⟩ = some (.int .i64 ty) := ⟨HB0.out.cell 0, HB0.out.cell 1, HB0.out.cell 2, HB0.out.cell 3, HB0.out.cell 4⟩
      have l1 := HE.out.ed.lt
      have l2 := HB0.out.lt
      clear hic e1 e2 e3 hm hml hir hW hbW hVW hgne HEW HFW HOV2 HCS HML W
      go_region_with (go_at_call 97; refine HIN2.out.mono ?_; rintro e w5 ⟨gs', cap', rfl, k0, k1, he5, hf5⟩; have HE5 := Lib.hid he5; have HF5 := Lib.hid hf5; clear he5 hf5)
      all_goals (go_wp2_with fail
                 refine bodyPost_end (v := .tuple #[]) (by simp [results, Try.results84, go_sem]) rfl ?_
                 exact ⟨rfl, ⟨_, _, HE5.out⟩, HF5.out⟩)
end Go.Proofs.Ytniefnjcimempaa
