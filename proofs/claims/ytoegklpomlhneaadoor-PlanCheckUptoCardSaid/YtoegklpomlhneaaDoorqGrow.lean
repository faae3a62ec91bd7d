/- The walk of plan.grow. -/
import Derived.Test.YtoegklpomlhneaaDoorqRl
import Derived.Test.YtoegklpomlhneaaDoorqRp
import Derived.Deep.RegionHeld3
import Derived.Deep.CutRange
import Derived.Deep.Cut
namespace Go.Proofs.YtoegklpomlhneaaDoor
open Go.RowKit
theorem pl_call (s : ByteArray) (A : Option Addr) (n c : Nat) (w : World) : Calls Tryd.prog 74 #[.string s, .slice A n c] w fun e w' => e = .returned (.agg #[.int .i64 4, .string s, .int .i64 0, .slice A n c]) ∧ Below w.heap.size w w' := by
  go_enter Tryd.func74, Tryd.ntmps74
  go_wp2_with fail
  exact bodyPost_ret (v := .agg #[.int .i64 4, .string s, .int .i64 0, .slice A n c]) (by simp [results, Tryd.results74, go_sem]) rfl ⟨rfl, (Below.refl _ _).alloc (Nat.le_refl _) _⟩
def GrEnd (w : World) (τ : Tx) (e : Ending) (w' : World) : Prop := ∃ cs, e = .returned (.agg cs.toArray) ∧ NodeV w' (fun i => w.heap.size ≤ i ∧ i < w'.heap.size) τ cs ∧ Below w.heap.size w w'
theorem grEnd_mk {w wz : World} {τ : Tx} {a b c d : Value} (hb : Below w.heap.size w wz) (hn : NodeV wz (fun i => w.heap.size < i ∧ i < wz.heap.size) τ [a, b, c, d]) :
    GrEnd w τ (.returned (.agg #[a, b, c, d])) ((((wz.setCell ⟨w.heap.size, 0, none⟩ a).setCell ⟨w.heap.size, 1, none⟩ b).setCell ⟨w.heap.size, 2, none⟩ c).setCell ⟨w.heap.size, 3, none⟩ d) := by
  refine ⟨[a, b, c, d], rfl, hn.keep (fun i hi _ => four_old (by have := hi.1; omega)) (fun i hi _ => ⟨by have := hi.1; omega, by simp; exact hi.2⟩), four_set hb (Nat.le_refl _)⟩
set_option maxRecDepth 100000 in
theorem grow_leaf (A : Option Addr) (c : Nat) (l : List St) (i : Nat) (s : St) (w : World) (hs : l[i]? = some s) (hP : PlAt w (fun i => i < w.heap.size) A l) (hn : l.length ≤ 100000) (hk : s.op = nNumber ∨ s.op = nString ∨ s.op = nRef) :
    Calls Tryd.prog 45 #[.slice A l.length c, .int .i64 i] w (GrEnd w (nodeR s [])) := by
  have hil := (List.getElem?_eq_some_iff.1 hs).1
  obtain ⟨b, ob, As, cs, rfl, hbF, hbl, x0, x1, x2, x3, x4, har⟩ := hP.step hs
  obtain ⟨op, args, num, text, ty⟩ := s
  dsimp only at x0 x1 x2 x3 x4 hk
  have q0 : (i : Int) < (l.length : Int) := by omega
  have q1 : (0 : Int) ≤ (i : Int) := by omega
  have hb2 : Below w.heap.size w ((w.alloc (.cells #[.int .i64 0, .string ⟨#[]⟩, .int .i64 0, .slice none 0 0] 59)).alloc (.cells #[.string ⟨op.toArray⟩, .slice As args.length cs, .int .i64 num, .string ⟨text.toArray⟩, .int .i64 ty] 99)) := ((Below.refl _ _).alloc (Nat.le_refl _) _).alloc (by simp) _
  have HB2 := Lib.hid hb2
  clear hP har hs hb2
  rcases hk with rfl | rfl | rfl
  · unfold nNumber at *
    go_enter Tryd.func45, Tryd.ntmps45
    go_wp2_with fail
    exact bodyPost_ret (v := .agg #[.int .i64 1, .string ⟨#[]⟩, .int .i64 num, .slice none 0 0]) (by simp [results, Tryd.results45, go_sem]) rfl ⟨[.int .i64 1, .string ⟨#[]⟩, .int .i64 num, .slice none 0 0], rfl, NodeV.leaf _ _ 1 [] num, ((Below.refl _ _).alloc (Nat.le_refl _) _).alloc (by simp) _⟩
  · unfold nString at *
    go_enter Tryd.func45, Tryd.ntmps45
    go_wp2_with fail
    exact bodyPost_ret (v := .agg #[.int .i64 2, .string ⟨text.toArray⟩, .int .i64 0, .slice none 0 0]) (by simp [results, Tryd.results45, go_sem]) rfl ⟨[.int .i64 2, .string ⟨text.toArray⟩, .int .i64 0, .slice none 0 0], rfl, NodeV.leaf _ _ 2 text 0, ((Below.refl _ _).alloc (Nat.le_refl _) _).alloc (by simp) _⟩
  · unfold nRef at *
    go_enter Tryd.func45, Tryd.ntmps45
    go_wp2_with fail
    exact bodyPost_ret (v := .agg #[.int .i64 3, .string ⟨text.toArray⟩, .int .i64 0, .slice none 0 0]) (by simp [results, Tryd.results45, go_sem]) rfl ⟨[.int .i64 3, .string ⟨text.toArray⟩, .int .i64 0, .slice none 0 0], rfl, NodeV.leaf _ _ 3 text 0, ((Below.refl _ _).alloc (Nat.le_refl _) _).alloc (by simp) _⟩
/-- A call whose arguments are a row's. -/
theorem row_node {wr wk : World} {base n c : Nat} {A : Option Addr} {css : List Value} {τs : List Tx} (ho : wr.ownsRow base 59 4 (.slice A n c) n css) (hn : NodeVs wr (offB base wr (.slice A n c)) τs css) (hl : n = τs.length) (hb : Below wr.heap.size wr wk) (nm : List UInt8) :
    NodeV wk (fun i => base ≤ i ∧ i < wk.heap.size) (.node 4 nm 0 τs) [.int .i64 4, .string ⟨nm.toArray⟩, .int .i64 0, .slice A n c] := by
  have hn' : NodeVs wk (fun i => base ≤ i ∧ i < wk.heap.size) τs css := NodeVs.keep (fun i hi _ => hb.block i hi.2.1) (fun i hi _ => ⟨hi.1, Nat.lt_of_lt_of_le hi.2.1 hb.size⟩) hn
  by_cases h0 : n = 0
  · subst h0
    have : τs = [] := List.eq_nil_of_length_eq_zero hl.symm
    subst this
    exact NodeV.call (l := []) 4 nm 0 rfl (by unfold LxAts; trivial) rfl
  · obtain ⟨g, c', cur, hv, hnc, hbg, hB, hsz, ht, _⟩ := own_full ho (by omega)
    injection hv with hA _ hc
    subst hA hc
    exact node_calls (F := fun i => base ≤ i ∧ i < wk.heap.size) (css := css) (hB.below hb hB.lt) ⟨hbg, Nat.lt_of_lt_of_le hB.lt hb.size⟩ hn' (fun j u hj => by
      rw [← ht, List.getElem?_take] at hj
      split at hj
      · simpa using hj
      · cases hj) hl nm
/-- The tree of a step from the trees of its arguments: what grow makes of them. -/
def GrRel (w : World) (l : List St) (args : List Int) (stC : Array Value) (f : Nat) (i v : Value) (wr : World) : Prop := ∃ (k : Nat) (css : List Value), i = .int .i64 k ∧ k ≤ args.length ∧ args.length - k < f ∧
  Hid (wr.ownsRow (w.heap.size + 1) 59 4 v k css) ∧ Hid (NodeVs wr (offB (w.heap.size + 1) wr v) ((args.take k).map fun a => growR l a.toNat) css) ∧
  Hid (Blk wr w.heap.size 59 #[.int .i64 0, .string ⟨#[]⟩, .int .i64 0, .slice none 0 0]) ∧ Hid (Blk wr (w.heap.size + 1) 99 stC) ∧ Hid (Below w.heap.size w wr)
theorem infoExpr : (Tryd.prog.info? 59).map (fun i => (i.zero, i.size, i.bytes)) = some (some (.agg #[.int .i64 0, .string ⟨#[]⟩, .int .i64 0, .slice none 0 0]), 4, 56) := by kernel_rfl
set_option maxRecDepth 100000 in
set_option maxHeartbeats 8000000 in
theorem grow_call (A : Option Addr) (c : Nat) (l : List St) (i : Nat) (s : St) (w : World) (hs : l[i]? = some s) (hP : PlAt w (fun i => i < w.heap.size) A l) (hn : l.length ≤ 100000) (hsm : s.args.length ≤ 100000) (hk : ¬ (s.op = nNumber ∨ s.op = nString ∨ s.op = nRef))
    (hback : ∀ a ∈ s.args, 0 ≤ a ∧ a < (i : Int)) (ih : ∀ (j : Nat) (wj : World), j < i → PlAt wj (fun i => i < wj.heap.size) A l → Calls Tryd.prog 45 #[.slice A l.length c, .int .i64 j] wj (GrEnd wj (growR l j))) (o : OpI) (hf : Fine l i s o) :
    Calls Tryd.prog 45 #[.slice A l.length c, .int .i64 i] w (GrEnd w (nodeR s (s.args.map fun a => growR l a.toNat))) := by
  have hil := (List.getElem?_eq_some_iff.1 hs).1
  obtain ⟨b, ob, As, cs, rfl, hbF, hbl, x0, x1, x2, x3, x4, har⟩ := hP.step hs
  obtain ⟨op, args, num, text, ty⟩ := s
  dsimp only at x0 x1 x2 x3 x4 hk hsm hback har
  have q0 : (i : Int) < (l.length : Int) := by omega
  have q1 : (0 : Int) ≤ (i : Int) := by omega
  have z1 : (op == [110, 117, 109, 98, 101, 114]) = false := by simpa [nNumber] using fun h => hk (.inl h)
  have z2 : (op == [115, 116, 114, 105, 110, 103]) = false := by simpa [nString] using fun h => hk (.inr (.inl h))
  have z3 : (op == [114, 101, 102]) = false := by simpa [nRef] using fun h => hk (.inr (.inr h))
  have HP := Lib.hid hP
  have HAR := Lib.hid har
  have HBK := Lib.hid hback
  have HIH := Lib.hid ih
  have HF := Lib.hid hf
  have HK := Lib.hid hk
  have HB2 := Lib.hid (show Below w.heap.size w ((w.alloc (.cells #[.int .i64 0, .string ⟨#[]⟩, .int .i64 0, .slice none 0 0] 59)).alloc (.cells #[.string ⟨op.toArray⟩, .slice As args.length cs, .int .i64 num, .string ⟨text.toArray⟩, .int .i64 ty] 99)) from ((Below.refl _ _).alloc (Nat.le_refl _) _).alloc (by simp) _)
  have HX0 := Lib.hid ((Blk.new w 59 #[.int .i64 0, .string ⟨#[]⟩, .int .i64 0, .slice none 0 0]).alloc (.cells #[.string ⟨op.toArray⟩, .slice As args.length cs, .int .i64 num, .string ⟨text.toArray⟩, .int .i64 ty] 99))
  have HX1 := Lib.hid (show Blk ((w.alloc (.cells #[.int .i64 0, .string ⟨#[]⟩, .int .i64 0, .slice none 0 0] 59)).alloc (.cells #[.string ⟨op.toArray⟩, .slice As args.length cs, .int .i64 num, .string ⟨text.toArray⟩, .int .i64 ty] 99)) (w.heap.size + 1) 99 _ by
    have := Blk.new (w.alloc (.cells #[.int .i64 0, .string ⟨#[]⟩, .int .i64 0, .slice none 0 0] 59)) 99 #[.string ⟨op.toArray⟩, .slice As args.length cs, .int .i64 num, .string ⟨text.toArray⟩, .int .i64 ty]
    simpa using this)
  clear hP har hs hback ih hf hk
  go_enter Tryd.func45, Tryd.ntmps45
  go_wp2_with fail
  go_loopg [34, 6, 8] (args.length + 1) (fun f i v _ wr => GrRel w l args #[.string ⟨op.toArray⟩, .slice As args.length cs, .int .i64 num, .string ⟨text.toArray⟩, .int .i64 ty] f i v wr)
  case atStart => exact ⟨0, [], rfl, by omega, by omega, Lib.hid ⟨rfl, .inl ⟨rfl, rfl⟩⟩, Lib.hid rfl, HX0, HX1, HB2⟩
  case round =>
    obtain ⟨k, css, rfl, hk, hkf, HOW, HNS, HR0, HR1, HBW⟩ := hrel
    obtain ⟨f, rfl⟩ : ∃ f, gk = f + 1 := ⟨gk - 1, by omega⟩
    by_cases hlt : k < args.length
    · obtain ⟨a, ha⟩ : ∃ a, args[k]? = some a := ⟨args[k], List.getElem?_eq_getElem hlt⟩
      have hbk := HBK.out a (List.mem_of_getElem? ha)
      obtain ⟨m, rfl⟩ := natInt hbk.1
      obtain ⟨ba, oa, rfl, hba', hba, hca⟩ := RdF.int HAR.out ha
      have y1 := (HBW.out.cell (p := ⟨ba, oa + k, none⟩) hba').trans hca
      have hPr : PlAt wr (fun i => i < wr.heap.size) (some ⟨b, ob, none⟩) l := HP.out.keep (fun i (hi : i < _) _ => HBW.out.block i hi) HBW.out.size (fun _ hi _ => Nat.lt_of_lt_of_le hi HBW.out.size)
      have hg := HIH.out m wr (by omega) hPr
      have htk : (args.take (k + 1)).map (fun a => growR l a.toNat) = (args.take k).map (fun a => growR l a.toNat) ++ [growR l m] := by rw [List.take_add_one, ha]; simp
      have HG := Lib.hid hg
      have HTK := Lib.hid htk
      have p0 : (k : Int) < (args.length : Int) := by omega
      have p1 : (0 : Int) ≤ (k : Int) := by omega
      clear ha hbk hca hPr hg htk
      go_wp2_with fail
      refine HG.out.mono ?_
      rintro e w4 ⟨cs1, rfl, hn1, hb4⟩
      obtain ⟨k1, t1, m1, A1, n1, c1, rfl⟩ := hn1.form
      have ho4 := (own_below HOW.out hb4).alloc (.cells #[.int .i64 k1, .string t1, .int .i64 m1, .slice A1 n1 c1] 59)
      have hrr := reads4 w4 (.int .i64 k1) (.string t1) (.int .i64 m1) (.slice A1 n1 c1) 59
      have hone : ∀ u ∈ ([.int .i64 k1, .string t1, .int .i64 m1, .slice A1 n1 c1] : List Value), u.oneCell' = true := by simp [Value.oneCell']
      have hz4 := hb4.size
      have hww := HBW.out.size
      have hl1 := HR1.out.lt
      have HN4 := Lib.hid hn1
      have HB4 := Lib.hid hb4
      clear hn1 hb4
      obtain ⟨i0, hinf, hz0, hz1', hz2'⟩ := info_parts infoExpr
      go_wp2_with (at_builtin; refine wpList_append_any _ rfl (.tmp 38) (.tmp 42) 57 rfl (w.heap.size + 1) 59 i0 (.agg #[.int .i64 0, .string ⟨#[]⟩, .int .i64 0, .slice none 0 0]) 4 56 Tryd.underlying57 hinf hz0 hz1' hz2' rfl (by decide) _ k css rfl ho4 _ _ _ _ [.int .i64 k1, .string t1, .int .i64 m1, .slice A1 n1 c1] rfl hrr hone (by unfold maxLen; omega) (by omega) (by simp; omega) ?_)
      intro v5 w5 hown5 hg5 hv5
      have hv5' : v5.ownBlock = u6.ownBlock ∨ v5.ownBlock = some (w4.heap.size + 1) := by simpa using hv5
      have HN5 := Lib.hid (rowB_add HNS.out (by omega) HB4.out HN4.out _ (own_lt HOW.out) hg5 hv5')
      have HO5 := Lib.hid hown5
      have hlo5 := fun j e => (own_lo HOW.out (g := j) e).1
      have HB5 := Lib.hid (((HBW.out.trans (HB4.out.mono hww)).alloc (by omega) _).grown hg5 (by simp; omega) (fun j e => by have := hlo5 j e; omega))
      have HR05 := Lib.hid (((HR0.out.below HB4.out HR0.out.lt).alloc _).grown hg5 (fun e => by have := hlo5 _ e.symm; omega))
      have HR15 := Lib.hid (((HR1.out.below HB4.out HR1.out.lt).alloc _).grown hg5 (fun e => own_blk_ne HOW.out HR1.out (by decide) e.symm))
      clear ho4 hrr hone hinf hz0 hz1' hz2' hown5 hg5 hv5 hlo5 hv5'
      go_wp2_with fail
      go_roundg f
      case measure => omega
      case rel => exact ⟨k + 1, _, by go_num, by omega, by omega, HO5, Lib.hid (by rw [HTK.out]; exact HN5.out), HR05, HR15, HB5⟩
    · have hks : k = args.length := by omega
      subst hks
      have s0 := HR1.out.cell 0
      have s3 := HR1.out.cell 3
      simp only [List.getElem?_toArray, List.getElem?_cons_zero, List.getElem?_cons_succ] at s0 s3
      have hlen : args.length = ((args.map fun a => growR l a.toNat)).length := by simp
      have HLN := Lib.hid hlen
      have HNS := Lib.hid (show NodeVs wr (offB (w.heap.size + 1) wr u6) (args.map fun a => growR l a.toNat) css by have := HNS.out; rwa [List.take_length] at this)
      obtain ⟨A6, c6, rfl⟩ := own_form HOW.out
      generalize hτ : (args.map fun a => growR l a.toNat) = τs at *
      have hwr := HBW.out.size
      have hl1 := HR1.out.lt
      have hl0 := HR0.out.lt
      have HTS := Lib.hid hτ
      clear hlen hτ
      -- TAIL
      by_cases d1 : op = [99, 111, 117, 110, 116] ∨ op = [104, 97, 115] ∨ op = [102, 105, 110, 100]
      · have h1 : args.length = 1 := by
          have h := HF.out.len
          have ho := HF.out.op
          rcases d1 with rfl | rfl | rfl
          all_goals
            injection (ho.symm.trans (show opR _ = some ⟨[3], _, _, _⟩ from rfl)) with ho
            rw [ho] at h
            exact h
        obtain ⟨g6, c', cur, hv, hnc, hbg, hB, hsz, ht, _⟩ := own_full HOW.out (by omega)
        injection hv with hA _ hc
        subst hA hc
        obtain ⟨τ0, hτ0⟩ : ∃ τ0, τs = [τ0] := by
          match τs, (HLN.out.symm.trans h1) with
          | [x0], _ => exact ⟨x0, rfl⟩
        subst hτ0
        obtain ⟨k0, t0, m0, A0, n0, c0, hnd0, hcs0⟩ := HNS.out.at_ 0 τ0 rfl
        have hcell0 : ∀ (j : Nat) u, ([.int .i64 k0, .string t0, .int .i64 m0, .slice A0 n0 c0] : List Value)[j]? = some u → wr.cell? ⟨g6, 0 * 4 + j, none⟩ = some u := fun j u hj => by
          have h := hcs0 j u hj
          rw [← ht, List.getElem?_take] at h
          split at h
          · rw [hB.cell]; simpa using h
          · cases h
        have e00 := hcell0 0 _ rfl
        have e01 := hcell0 1 _ rfl
        have e02 := hcell0 2 _ rfl
        have e03 := hcell0 3 _ rfl
        have HN0 := Lib.hid (show NodeV wr (fun i => w.heap.size < i ∧ i < wr.heap.size) τ0 [.int .i64 k0, .string t0, .int .i64 m0, .slice A0 n0 c0] from NodeV.keep (w' := wr) (fun _ _ _ => rfl) (fun i h _ => ⟨h.1, h.2.1⟩) hnd0)
        clear hcell0 hcs0 hnd0
        simp only [Nat.zero_mul, Nat.zero_add, Nat.reduceAdd] at e00 e01 e02 e03
        have hg6 := hB.lt
        rw [h1]
        clear ht hB hnc hsz
        rcases d1 with rfl | rfl | rfl
        · clear z1 z2 z3
          go_upto_region 20 with (fail)
          obtain ⟨wE, hwE⟩ : ∃ wE, wE = wr.alloc (.cells #[.int .i64 2, .string ⟨text.toArray⟩, .int .i64 0, .slice none 0 0] 59) := ⟨_, rfl⟩
          have HE := Lib.hid (show Blk wE wr.heap.size 59 #[.int .i64 2, .string ⟨text.toArray⟩, .int .i64 0, .slice none 0 0] by rw [hwE]; exact Blk.new _ _ _)
          have HER := Lib.hid (show Blk wE w.heap.size 59 #[.int .i64 0, .string ⟨#[]⟩, .int .i64 0, .slice none 0 0] by rw [hwE]; exact HR0.out.alloc _)
          have HEB := Lib.hid (show Below wr.heap.size wr wE by rw [hwE]; exact below_alloc _ _)
          have p4 := (HEB.out.cell (p := ⟨w.heap.size + 1, 0, none⟩) hl1).trans s0
          rw [← hwE]
          have hzE : wr.heap.size < wE.heap.size := HE.out.lt
          obtain ⟨p0, p1, p2, p3, _, _, _, _⟩ := blk4 HE.out
          have f00 := (HEB.out.cell (p := ⟨g6, 0, none⟩) hg6).trans e00
          have f01 := (HEB.out.cell (p := ⟨g6, 1, none⟩) hg6).trans e01
          have f02 := (HEB.out.cell (p := ⟨g6, 2, none⟩) hg6).trans e02
          have f03 := (HEB.out.cell (p := ⟨g6, 3, none⟩) hg6).trans e03
          clear hwE s0 s3 e00 e01 e02 e03
          have hq1 : ¬ (w.heap.size = g6) := by omega
          have hq2 : ¬ (g6 = w.heap.size) := by omega
          have hq3 : ¬ (w.heap.size = wr.heap.size) := by omega
          have hq4 : ¬ (wr.heap.size = w.heap.size) := by omega
          go_region_held3 (fun w' => w'.cell? ⟨w.heap.size + 1, 0, none⟩ = some (.string ⟨#[99, 111, 117, 110, 116]⟩) ∧ w'.cell? ⟨g6, 0, none⟩ = some (.int .i64 k0) ∧ w'.cell? ⟨g6, 1, none⟩ = some (.string t0) ∧ w'.cell? ⟨g6, 2, none⟩ = some (.int .i64 m0) ∧ w'.cell? ⟨g6, 3, none⟩ = some (.slice A0 n0 c0) ∧ w'.cell? ⟨wr.heap.size, 0, none⟩ = some (.int .i64 2) ∧ w'.cell? ⟨wr.heap.size, 1, none⟩ = some (.string ⟨text.toArray⟩) ∧ w'.cell? ⟨wr.heap.size, 2, none⟩ = some (.int .i64 0) ∧ w'.cell? ⟨wr.heap.size, 3, none⟩ = some (.slice none 0 0))
            (first | go_keep | (refine ⟨?_, ?_, ?_, ?_, ?_, ?_, ?_, ?_, ?_⟩ <;> assumption))
            (first | (go_at_call 74; refine (pl_call _ _ _ _ _).mono ?_; rintro e w6 ⟨rfl, hb6⟩; have hW : Below wE.heap.size wE w6 := (((Below.refl _ wE).alloc (Nat.le_refl _) _).drew).trans (hb6.mono (by simp)); have HBB := Lib.hid (Blk.below (Blk.drew (Blk.new wE 59 _)) hb6 (by simp)); have o0 := (hW.cell (p := ⟨w.heap.size + 1, 0, none⟩) (Nat.lt_trans hl1 hzE)).trans p4; have o1 := (hW.cell (p := ⟨g6, 0, none⟩) (Nat.lt_trans hg6 hzE)).trans f00; have o2 := (hW.cell (p := ⟨g6, 1, none⟩) (Nat.lt_trans hg6 hzE)).trans f01; have o3 := (hW.cell (p := ⟨g6, 2, none⟩) (Nat.lt_trans hg6 hzE)).trans f02; have o4 := (hW.cell (p := ⟨g6, 3, none⟩) (Nat.lt_trans hg6 hzE)).trans f03; have o5 := (hW.cell (p := ⟨wr.heap.size, 0, none⟩) (hzE)).trans p0; have o6 := (hW.cell (p := ⟨wr.heap.size, 1, none⟩) (hzE)).trans p1; have o7 := (hW.cell (p := ⟨wr.heap.size, 2, none⟩) (hzE)).trans p2; have o8 := (hW.cell (p := ⟨wr.heap.size, 3, none⟩) (hzE)).trans p3; obtain ⟨y0, y1, y2, y3, v0, v1, v2, v3⟩ := blk4 (HER.out.below hW (Nat.lt_trans hl0 hzE))))
          have hz6 := HBB.out.lt
          have hb1 : Below wr.heap.size wr w6 := HEB.out.trans (hW.mono (Nat.le_of_lt hzE))
          have hn1 : NodeV w6 (fun i => w.heap.size < i ∧ i < w6.heap.size) τ0 [.int .i64 k0, .string t0, .int .i64 m0, .slice A0 n0 c0] := HN0.out.keep (fun i hi _ => hb1.block i hi.2) (fun i hi _ => ⟨hi.1, Nat.lt_of_lt_of_le hi.2 hb1.size⟩)
          have hn2 := node_call2 (F := fun i => w.heap.size < i ∧ i < w6.heap.size) (c := 2) HBB.out ⟨by omega, hz6⟩ hn1 (NodeV.leaf w6 _ 2 text 0) [99, 111, 117, 110, 116]
          have HN2 := Lib.hid hn2
          have HBF := Lib.hid (HBW.out.trans (hb1.mono hwr))
          clear hn1 hn2 hb1
          go_wp2_with fail
          refine bodyPost_ret (v := .agg #[.int .i64 4, .string ⟨#[99, 111, 117, 110, 116]⟩, .int .i64 0, .slice (some ⟨wE.heap.size, 0, none⟩) 2 2]) (by simp [results, Tryd.results45, go_sem, y0, y1, y2, y3]) rfl ?_
          have HNR := Lib.hid (show nodeR ⟨[99, 111, 117, 110, 116], args, num, text, ty⟩ [τ0] = .node 4 [99, 111, 117, 110, 116] 0 [τ0, .node 2 text 0 []] from rfl)
          rw [HTS.out, HNR.out]
          exact grEnd_mk HBF.out HN2.out
        · clear z1 z2 z3
          go_upto_region 20 with (fail)
          obtain ⟨wE, hwE⟩ : ∃ wE, wE = wr.alloc (.cells #[.int .i64 2, .string ⟨text.toArray⟩, .int .i64 0, .slice none 0 0] 59) := ⟨_, rfl⟩
          have HE := Lib.hid (show Blk wE wr.heap.size 59 #[.int .i64 2, .string ⟨text.toArray⟩, .int .i64 0, .slice none 0 0] by rw [hwE]; exact Blk.new _ _ _)
          have HER := Lib.hid (show Blk wE w.heap.size 59 #[.int .i64 0, .string ⟨#[]⟩, .int .i64 0, .slice none 0 0] by rw [hwE]; exact HR0.out.alloc _)
          have HEB := Lib.hid (show Below wr.heap.size wr wE by rw [hwE]; exact below_alloc _ _)
          have p4 := (HEB.out.cell (p := ⟨w.heap.size + 1, 0, none⟩) hl1).trans s0
          rw [← hwE]
          have hzE : wr.heap.size < wE.heap.size := HE.out.lt
          obtain ⟨p0, p1, p2, p3, _, _, _, _⟩ := blk4 HE.out
          have f00 := (HEB.out.cell (p := ⟨g6, 0, none⟩) hg6).trans e00
          have f01 := (HEB.out.cell (p := ⟨g6, 1, none⟩) hg6).trans e01
          have f02 := (HEB.out.cell (p := ⟨g6, 2, none⟩) hg6).trans e02
          have f03 := (HEB.out.cell (p := ⟨g6, 3, none⟩) hg6).trans e03
          clear hwE s0 s3 e00 e01 e02 e03
          have hq1 : ¬ (w.heap.size = g6) := by omega
          have hq2 : ¬ (g6 = w.heap.size) := by omega
          have hq3 : ¬ (w.heap.size = wr.heap.size) := by omega
          have hq4 : ¬ (wr.heap.size = w.heap.size) := by omega
          go_region_held3 (fun w' => w'.cell? ⟨w.heap.size + 1, 0, none⟩ = some (.string ⟨#[104, 97, 115]⟩) ∧ w'.cell? ⟨g6, 0, none⟩ = some (.int .i64 k0) ∧ w'.cell? ⟨g6, 1, none⟩ = some (.string t0) ∧ w'.cell? ⟨g6, 2, none⟩ = some (.int .i64 m0) ∧ w'.cell? ⟨g6, 3, none⟩ = some (.slice A0 n0 c0) ∧ w'.cell? ⟨wr.heap.size, 0, none⟩ = some (.int .i64 2) ∧ w'.cell? ⟨wr.heap.size, 1, none⟩ = some (.string ⟨text.toArray⟩) ∧ w'.cell? ⟨wr.heap.size, 2, none⟩ = some (.int .i64 0) ∧ w'.cell? ⟨wr.heap.size, 3, none⟩ = some (.slice none 0 0))
            (first | go_keep | (refine ⟨?_, ?_, ?_, ?_, ?_, ?_, ?_, ?_, ?_⟩ <;> assumption))
            (first | (go_at_call 74; refine (pl_call _ _ _ _ _).mono ?_; rintro e w6 ⟨rfl, hb6⟩; have hW : Below wE.heap.size wE w6 := (((Below.refl _ wE).alloc (Nat.le_refl _) _).drew).trans (hb6.mono (by simp)); have HBB := Lib.hid (Blk.below (Blk.drew (Blk.new wE 59 _)) hb6 (by simp)); have o0 := (hW.cell (p := ⟨w.heap.size + 1, 0, none⟩) (Nat.lt_trans hl1 hzE)).trans p4; have o1 := (hW.cell (p := ⟨g6, 0, none⟩) (Nat.lt_trans hg6 hzE)).trans f00; have o2 := (hW.cell (p := ⟨g6, 1, none⟩) (Nat.lt_trans hg6 hzE)).trans f01; have o3 := (hW.cell (p := ⟨g6, 2, none⟩) (Nat.lt_trans hg6 hzE)).trans f02; have o4 := (hW.cell (p := ⟨g6, 3, none⟩) (Nat.lt_trans hg6 hzE)).trans f03; have o5 := (hW.cell (p := ⟨wr.heap.size, 0, none⟩) (hzE)).trans p0; have o6 := (hW.cell (p := ⟨wr.heap.size, 1, none⟩) (hzE)).trans p1; have o7 := (hW.cell (p := ⟨wr.heap.size, 2, none⟩) (hzE)).trans p2; have o8 := (hW.cell (p := ⟨wr.heap.size, 3, none⟩) (hzE)).trans p3; obtain ⟨y0, y1, y2, y3, v0, v1, v2, v3⟩ := blk4 (HER.out.below hW (Nat.lt_trans hl0 hzE))))
          have hz6 := HBB.out.lt
          have hb1 : Below wr.heap.size wr w6 := HEB.out.trans (hW.mono (Nat.le_of_lt hzE))
          have hn1 : NodeV w6 (fun i => w.heap.size < i ∧ i < w6.heap.size) τ0 [.int .i64 k0, .string t0, .int .i64 m0, .slice A0 n0 c0] := HN0.out.keep (fun i hi _ => hb1.block i hi.2) (fun i hi _ => ⟨hi.1, Nat.lt_of_lt_of_le hi.2 hb1.size⟩)
          have hn2 := node_call2 (F := fun i => w.heap.size < i ∧ i < w6.heap.size) (c := 2) HBB.out ⟨by omega, hz6⟩ hn1 (NodeV.leaf w6 _ 2 text 0) [104, 97, 115]
          have HN2 := Lib.hid hn2
          have HBF := Lib.hid (HBW.out.trans (hb1.mono hwr))
          clear hn1 hn2 hb1
          go_wp2_with fail
          refine bodyPost_ret (v := .agg #[.int .i64 4, .string ⟨#[104, 97, 115]⟩, .int .i64 0, .slice (some ⟨wE.heap.size, 0, none⟩) 2 2]) (by simp [results, Tryd.results45, go_sem, y0, y1, y2, y3]) rfl ?_
          have HNR := Lib.hid (show nodeR ⟨[104, 97, 115], args, num, text, ty⟩ [τ0] = .node 4 [104, 97, 115] 0 [τ0, .node 2 text 0 []] from rfl)
          rw [HTS.out, HNR.out]
          exact grEnd_mk HBF.out HN2.out
        · clear z1 z2 z3
          go_upto_region 20 with (fail)
          obtain ⟨wE, hwE⟩ : ∃ wE, wE = wr.alloc (.cells #[.int .i64 2, .string ⟨text.toArray⟩, .int .i64 0, .slice none 0 0] 59) := ⟨_, rfl⟩
          have HE := Lib.hid (show Blk wE wr.heap.size 59 #[.int .i64 2, .string ⟨text.toArray⟩, .int .i64 0, .slice none 0 0] by rw [hwE]; exact Blk.new _ _ _)
          have HER := Lib.hid (show Blk wE w.heap.size 59 #[.int .i64 0, .string ⟨#[]⟩, .int .i64 0, .slice none 0 0] by rw [hwE]; exact HR0.out.alloc _)
          have HEB := Lib.hid (show Below wr.heap.size wr wE by rw [hwE]; exact below_alloc _ _)
          have p4 := (HEB.out.cell (p := ⟨w.heap.size + 1, 0, none⟩) hl1).trans s0
          rw [← hwE]
          have hzE : wr.heap.size < wE.heap.size := HE.out.lt
          obtain ⟨p0, p1, p2, p3, _, _, _, _⟩ := blk4 HE.out
          have f00 := (HEB.out.cell (p := ⟨g6, 0, none⟩) hg6).trans e00
          have f01 := (HEB.out.cell (p := ⟨g6, 1, none⟩) hg6).trans e01
          have f02 := (HEB.out.cell (p := ⟨g6, 2, none⟩) hg6).trans e02
          have f03 := (HEB.out.cell (p := ⟨g6, 3, none⟩) hg6).trans e03
          clear hwE s0 s3 e00 e01 e02 e03
          have hq1 : ¬ (w.heap.size = g6) := by omega
          have hq2 : ¬ (g6 = w.heap.size) := by omega
          have hq3 : ¬ (w.heap.size = wr.heap.size) := by omega
          have hq4 : ¬ (wr.heap.size = w.heap.size) := by omega
          go_region_held3 (fun w' => w'.cell? ⟨w.heap.size + 1, 0, none⟩ = some (.string ⟨#[102, 105, 110, 100]⟩) ∧ w'.cell? ⟨g6, 0, none⟩ = some (.int .i64 k0) ∧ w'.cell? ⟨g6, 1, none⟩ = some (.string t0) ∧ w'.cell? ⟨g6, 2, none⟩ = some (.int .i64 m0) ∧ w'.cell? ⟨g6, 3, none⟩ = some (.slice A0 n0 c0) ∧ w'.cell? ⟨wr.heap.size, 0, none⟩ = some (.int .i64 2) ∧ w'.cell? ⟨wr.heap.size, 1, none⟩ = some (.string ⟨text.toArray⟩) ∧ w'.cell? ⟨wr.heap.size, 2, none⟩ = some (.int .i64 0) ∧ w'.cell? ⟨wr.heap.size, 3, none⟩ = some (.slice none 0 0))
            (first | go_keep | (refine ⟨?_, ?_, ?_, ?_, ?_, ?_, ?_, ?_, ?_⟩ <;> assumption))
            (first | (go_at_call 74; refine (pl_call _ _ _ _ _).mono ?_; rintro e w6 ⟨rfl, hb6⟩; have hW : Below wE.heap.size wE w6 := (((Below.refl _ wE).alloc (Nat.le_refl _) _).drew).trans (hb6.mono (by simp)); have HBB := Lib.hid (Blk.below (Blk.drew (Blk.new wE 59 _)) hb6 (by simp)); have o0 := (hW.cell (p := ⟨w.heap.size + 1, 0, none⟩) (Nat.lt_trans hl1 hzE)).trans p4; have o1 := (hW.cell (p := ⟨g6, 0, none⟩) (Nat.lt_trans hg6 hzE)).trans f00; have o2 := (hW.cell (p := ⟨g6, 1, none⟩) (Nat.lt_trans hg6 hzE)).trans f01; have o3 := (hW.cell (p := ⟨g6, 2, none⟩) (Nat.lt_trans hg6 hzE)).trans f02; have o4 := (hW.cell (p := ⟨g6, 3, none⟩) (Nat.lt_trans hg6 hzE)).trans f03; have o5 := (hW.cell (p := ⟨wr.heap.size, 0, none⟩) (hzE)).trans p0; have o6 := (hW.cell (p := ⟨wr.heap.size, 1, none⟩) (hzE)).trans p1; have o7 := (hW.cell (p := ⟨wr.heap.size, 2, none⟩) (hzE)).trans p2; have o8 := (hW.cell (p := ⟨wr.heap.size, 3, none⟩) (hzE)).trans p3; obtain ⟨y0, y1, y2, y3, v0, v1, v2, v3⟩ := blk4 (HER.out.below hW (Nat.lt_trans hl0 hzE))))
          have hz6 := HBB.out.lt
          have hb1 : Below wr.heap.size wr w6 := HEB.out.trans (hW.mono (Nat.le_of_lt hzE))
          have hn1 : NodeV w6 (fun i => w.heap.size < i ∧ i < w6.heap.size) τ0 [.int .i64 k0, .string t0, .int .i64 m0, .slice A0 n0 c0] := HN0.out.keep (fun i hi _ => hb1.block i hi.2) (fun i hi _ => ⟨hi.1, Nat.lt_of_lt_of_le hi.2 hb1.size⟩)
          have hn2 := node_call2 (F := fun i => w.heap.size < i ∧ i < w6.heap.size) (c := 2) HBB.out ⟨by omega, hz6⟩ hn1 (NodeV.leaf w6 _ 2 text 0) [102, 105, 110, 100]
          have HN2 := Lib.hid hn2
          have HBF := Lib.hid (HBW.out.trans (hb1.mono hwr))
          clear hn1 hn2 hb1
          go_wp2_with fail
          refine bodyPost_ret (v := .agg #[.int .i64 4, .string ⟨#[102, 105, 110, 100]⟩, .int .i64 0, .slice (some ⟨wE.heap.size, 0, none⟩) 2 2]) (by simp [results, Tryd.results45, go_sem, y0, y1, y2, y3]) rfl ?_
          have HNR := Lib.hid (show nodeR ⟨[102, 105, 110, 100], args, num, text, ty⟩ [τ0] = .node 4 [102, 105, 110, 100] 0 [τ0, .node 2 text 0 []] from rfl)
          rw [HTS.out, HNR.out]
          exact grEnd_mk HBF.out HN2.out
      have a1 : (op == [99, 111, 117, 110, 116]) = false := by simpa using fun h => d1 (.inl h)
      have a2 : (op == [104, 97, 115]) = false := by simpa using fun h => d1 (.inr (.inl h))
      have a3 : (op == [102, 105, 110, 100]) = false := by simpa using fun h => d1 (.inr (.inr h))
      by_cases d2 : op = [109, 97, 116, 99, 104, 101, 115]
      · subst d2
        have h1 : args.length = 1 := by
          have h := HF.out.len
          injection (HF.out.op.symm.trans (show opR _ = some ⟨[3], _, _, _⟩ from rfl)) with ho
          rw [ho] at h
          exact h
        obtain ⟨g6, c', cur, hv, hnc, hbg, hB, hsz, ht, _⟩ := own_full HOW.out (by omega)
        injection hv with hA _ hc
        subst hA hc
        obtain ⟨τ0, hτ0⟩ : ∃ τ0, τs = [τ0] := by
          match τs, (HLN.out.symm.trans h1) with
          | [x0], _ => exact ⟨x0, rfl⟩
        subst hτ0
        obtain ⟨k0, t0, m0, A0, n0, c0, hnd0, hcs0⟩ := HNS.out.at_ 0 τ0 rfl
        have hcell0 : ∀ (j : Nat) u, ([.int .i64 k0, .string t0, .int .i64 m0, .slice A0 n0 c0] : List Value)[j]? = some u → wr.cell? ⟨g6, 0 * 4 + j, none⟩ = some u := fun j u hj => by
          have h := hcs0 j u hj
          rw [← ht, List.getElem?_take] at h
          split at h
          · rw [hB.cell]; simpa using h
          · cases h
        have e00 := hcell0 0 _ rfl
        have e01 := hcell0 1 _ rfl
        have e02 := hcell0 2 _ rfl
        have e03 := hcell0 3 _ rfl
        have HN0 := Lib.hid (show NodeV wr (fun i => w.heap.size < i ∧ i < wr.heap.size) τ0 [.int .i64 k0, .string t0, .int .i64 m0, .slice A0 n0 c0] from NodeV.keep (w' := wr) (fun _ _ _ => rfl) (fun i h _ => ⟨h.1, h.2.1⟩) hnd0)
        clear hcell0 hcs0 hnd0
        simp only [Nat.zero_mul, Nat.zero_add, Nat.reduceAdd] at e00 e01 e02 e03
        have hg6 := hB.lt
        rw [h1]
        clear ht hB hnc hsz
        clear z1 z2 z3
        go_upto_region 22 with (fail)
        obtain ⟨wE, hwE⟩ : ∃ wE, wE = wr.alloc (.cells #[.int .i64 2, .string ⟨text.toArray⟩, .int .i64 0, .slice none 0 0] 59) := ⟨_, rfl⟩
        have HE := Lib.hid (show Blk wE wr.heap.size 59 #[.int .i64 2, .string ⟨text.toArray⟩, .int .i64 0, .slice none 0 0] by rw [hwE]; exact Blk.new _ _ _)
        have HER := Lib.hid (show Blk wE w.heap.size 59 #[.int .i64 0, .string ⟨#[]⟩, .int .i64 0, .slice none 0 0] by rw [hwE]; exact HR0.out.alloc _)
        have HEB := Lib.hid (show Below wr.heap.size wr wE by rw [hwE]; exact below_alloc _ _)
        have p4 := (HEB.out.cell (p := ⟨w.heap.size + 1, 0, none⟩) hl1).trans s0
        rw [← hwE]
        have hzE : wr.heap.size < wE.heap.size := HE.out.lt
        obtain ⟨p0, p1, p2, p3, _, _, _, _⟩ := blk4 HE.out
        have f00 := (HEB.out.cell (p := ⟨g6, 0, none⟩) hg6).trans e00
        have f01 := (HEB.out.cell (p := ⟨g6, 1, none⟩) hg6).trans e01
        have f02 := (HEB.out.cell (p := ⟨g6, 2, none⟩) hg6).trans e02
        have f03 := (HEB.out.cell (p := ⟨g6, 3, none⟩) hg6).trans e03
        clear hwE s0 s3 e00 e01 e02 e03
        have hq1 : ¬ (w.heap.size = g6) := by omega
        have hq2 : ¬ (g6 = w.heap.size) := by omega
        have hq3 : ¬ (w.heap.size = wr.heap.size) := by omega
        have hq4 : ¬ (wr.heap.size = w.heap.size) := by omega
        have tok1 : True := trivial
        go_region_held3 (fun w' => w'.cell? ⟨g6, 0, none⟩ = some (.int .i64 k0) ∧ w'.cell? ⟨g6, 1, none⟩ = some (.string t0) ∧ w'.cell? ⟨g6, 2, none⟩ = some (.int .i64 m0) ∧ w'.cell? ⟨g6, 3, none⟩ = some (.slice A0 n0 c0) ∧ w'.cell? ⟨wr.heap.size, 0, none⟩ = some (.int .i64 2) ∧ w'.cell? ⟨wr.heap.size, 1, none⟩ = some (.string ⟨text.toArray⟩) ∧ w'.cell? ⟨wr.heap.size, 2, none⟩ = some (.int .i64 0) ∧ w'.cell? ⟨wr.heap.size, 3, none⟩ = some (.slice none 0 0))
          (first | go_keep | (refine ⟨?_, ?_, ?_, ?_, ?_, ?_, ?_, ?_⟩ <;> assumption))
          (first | (go_at_call 74; have tk := tok1; refine (pl_call _ _ _ _ _).mono ?_; rintro e w6 ⟨rfl, hb6⟩; have hW : Below wE.heap.size wE w6 := (((Below.refl _ wE).alloc (Nat.le_refl _) _).drew).trans (hb6.mono (by simp)); have HBB := Lib.hid (Blk.below (Blk.drew (Blk.new wE 59 _)) hb6 (by simp)); have o0 := (hW.cell (p := ⟨g6, 0, none⟩) (Nat.lt_trans hg6 hzE)).trans f00; have o1 := (hW.cell (p := ⟨g6, 1, none⟩) (Nat.lt_trans hg6 hzE)).trans f01; have o2 := (hW.cell (p := ⟨g6, 2, none⟩) (Nat.lt_trans hg6 hzE)).trans f02; have o3 := (hW.cell (p := ⟨g6, 3, none⟩) (Nat.lt_trans hg6 hzE)).trans f03; have o4 := (hW.cell (p := ⟨wr.heap.size, 0, none⟩) (hzE)).trans p0; have o5 := (hW.cell (p := ⟨wr.heap.size, 1, none⟩) (hzE)).trans p1; have o6 := (hW.cell (p := ⟨wr.heap.size, 2, none⟩) (hzE)).trans p2; have o7 := (hW.cell (p := ⟨wr.heap.size, 3, none⟩) (hzE)).trans p3; have HER6 := Lib.hid (HER.out.below hW (Nat.lt_trans hl0 hzE)); clear tok1 tk) | (go_at_call 74; refine (pl_call _ _ _ _ _).mono ?_; rintro e w7 ⟨rfl, hb7⟩; have hW7 : Below w6.heap.size w6 w7 := ((Below.refl _ w6).alloc (Nat.le_refl _) _).trans (hb7.mono (by simp)); have HBC := Lib.hid (Blk.below (Blk.new w6 59 _) hb7 (by simp)); have u0 := (hW7.cell (p := ⟨g6, 0, none⟩) (Nat.lt_of_lt_of_le (Nat.lt_trans hg6 hzE) hW.size)).trans o0; have u1 := (hW7.cell (p := ⟨g6, 1, none⟩) (Nat.lt_of_lt_of_le (Nat.lt_trans hg6 hzE) hW.size)).trans o1; have u2 := (hW7.cell (p := ⟨g6, 2, none⟩) (Nat.lt_of_lt_of_le (Nat.lt_trans hg6 hzE) hW.size)).trans o2; have u3 := (hW7.cell (p := ⟨g6, 3, none⟩) (Nat.lt_of_lt_of_le (Nat.lt_trans hg6 hzE) hW.size)).trans o3; have u4 := (hW7.cell (p := ⟨wr.heap.size, 0, none⟩) (Nat.lt_of_lt_of_le (hzE) hW.size)).trans o4; have u5 := (hW7.cell (p := ⟨wr.heap.size, 1, none⟩) (Nat.lt_of_lt_of_le (hzE) hW.size)).trans o5; have u6 := (hW7.cell (p := ⟨wr.heap.size, 2, none⟩) (Nat.lt_of_lt_of_le (hzE) hW.size)).trans o6; have u7 := (hW7.cell (p := ⟨wr.heap.size, 3, none⟩) (Nat.lt_of_lt_of_le (hzE) hW.size)).trans o7; obtain ⟨y0, y1, y2, y3, v0, v1, v2, v3⟩ := blk4 (HER6.out.below hW7 HER6.out.lt)))
        have hz6 := HBB.out.lt
        have hz7 := HBC.out.lt
        have hz67 := hW7.size
        have hb1 : Below wr.heap.size wr w7 := (HEB.out.trans (hW.mono (Nat.le_of_lt hzE))).trans (hW7.mono (by have := HEB.out.size; have := hW.size; omega))
        have hn0 : NodeV w7 (fun i => w.heap.size < i ∧ i < w7.heap.size) τ0 [.int .i64 k0, .string t0, .int .i64 m0, .slice A0 n0 c0] := HN0.out.keep (fun i hi _ => hb1.block i hi.2) (fun i hi _ => ⟨hi.1, Nat.lt_of_lt_of_le hi.2 hb1.size⟩)
        have hf := node_call2 (F := fun i => w.heap.size < i ∧ i < w7.heap.size) (c := 2) (HBB.out.below hW7 hz6) ⟨by omega, by omega⟩ hn0 (NodeV.leaf w7 _ 2 text 0) [102, 105, 110, 100]
        have hn2 := node_calls (F := fun i => w.heap.size < i ∧ i < w7.heap.size) (c := 1) (m := 1) HBC.out ⟨by omega, by omega⟩ (NodeVs.one hf) (fun j u hj => by simpa using hj) rfl [115, 105, 122, 101]
        have HN2 := Lib.hid hn2
        have HBF := Lib.hid (HBW.out.trans (hb1.mono hwr))
        clear hn0 hf hn2 hb1
        go_wp2_with fail
        refine bodyPost_ret (v := .agg #[.int .i64 4, .string ⟨#[115, 105, 122, 101]⟩, .int .i64 0, .slice (some ⟨w6.heap.size, 0, none⟩) 1 1]) (by simp [results, Tryd.results45, go_sem, y0, y1, y2, y3]) rfl ?_
        have HNR := Lib.hid (show nodeR ⟨[109, 97, 116, 99, 104, 101, 115], args, num, text, ty⟩ [τ0] = .node 4 [115, 105, 122, 101] 0 [.node 4 [102, 105, 110, 100] 0 [τ0, .node 2 text 0 []]] from rfl)
        rw [HTS.out, HNR.out]
        exact grEnd_mk HBF.out HN2.out
      have bd2 : (op == [109, 97, 116, 99, 104, 101, 115]) = false := by simpa using d2
      by_cases d3 : op = [102, 105, 114, 115, 116, 102, 105, 110, 100]
      · subst d3
        have h1 : args.length = 2 := by
          have h := HF.out.len
          injection (HF.out.op.symm.trans (show opR _ = some ⟨[3, 1], _, _, _⟩ from rfl)) with ho
          rw [ho] at h
          exact h
        obtain ⟨g6, c', cur, hv, hnc, hbg, hB, hsz, ht, _⟩ := own_full HOW.out (by omega)
        injection hv with hA _ hc
        subst hA hc
        obtain ⟨τ0, τ1, hτ0⟩ : ∃ τ0 τ1, τs = [τ0, τ1] := by
          match τs, (HLN.out.symm.trans h1) with
          | [x0, x1], _ => exact ⟨x0, x1, rfl⟩
        subst hτ0
        obtain ⟨k0, t0, m0, A0, n0, c0, hnd0, hcs0⟩ := HNS.out.at_ 0 τ0 rfl
        have hcell0 : ∀ (j : Nat) u, ([.int .i64 k0, .string t0, .int .i64 m0, .slice A0 n0 c0] : List Value)[j]? = some u → wr.cell? ⟨g6, 0 * 4 + j, none⟩ = some u := fun j u hj => by
          have h := hcs0 j u hj
          rw [← ht, List.getElem?_take] at h
          split at h
          · rw [hB.cell]; simpa using h
          · cases h
        have e00 := hcell0 0 _ rfl
        have e01 := hcell0 1 _ rfl
        have e02 := hcell0 2 _ rfl
        have e03 := hcell0 3 _ rfl
        have HN0 := Lib.hid (show NodeV wr (fun i => w.heap.size < i ∧ i < wr.heap.size) τ0 [.int .i64 k0, .string t0, .int .i64 m0, .slice A0 n0 c0] from NodeV.keep (w' := wr) (fun _ _ _ => rfl) (fun i h _ => ⟨h.1, h.2.1⟩) hnd0)
        clear hcell0 hcs0 hnd0
        obtain ⟨k1, t1, m1, A1, n1, c1, hnd1, hcs1⟩ := HNS.out.at_ 1 τ1 rfl
        have hcell1 : ∀ (j : Nat) u, ([.int .i64 k1, .string t1, .int .i64 m1, .slice A1 n1 c1] : List Value)[j]? = some u → wr.cell? ⟨g6, 1 * 4 + j, none⟩ = some u := fun j u hj => by
          have h := hcs1 j u hj
          rw [← ht, List.getElem?_take] at h
          split at h
          · rw [hB.cell]; simpa using h
          · cases h
        have e10 := hcell1 0 _ rfl
        have e11 := hcell1 1 _ rfl
        have e12 := hcell1 2 _ rfl
        have e13 := hcell1 3 _ rfl
        have HN1 := Lib.hid (show NodeV wr (fun i => w.heap.size < i ∧ i < wr.heap.size) τ1 [.int .i64 k1, .string t1, .int .i64 m1, .slice A1 n1 c1] from NodeV.keep (w' := wr) (fun _ _ _ => rfl) (fun i h _ => ⟨h.1, h.2.1⟩) hnd1)
        clear hcell1 hcs1 hnd1
        simp only [Nat.zero_mul, Nat.zero_add, Nat.one_mul, Nat.reduceAdd] at e00 e01 e02 e03 e10 e11 e12 e13
        have hg6 := hB.lt
        rw [h1]
        clear ht hB hnc hsz
        clear z1 z2 z3
        go_upto_region 24 with (fail)
        obtain ⟨wE, hwE⟩ : ∃ wE, wE = wr.alloc (.cells #[.int .i64 2, .string ⟨text.toArray⟩, .int .i64 0, .slice none 0 0] 59) := ⟨_, rfl⟩
        have HE := Lib.hid (show Blk wE wr.heap.size 59 #[.int .i64 2, .string ⟨text.toArray⟩, .int .i64 0, .slice none 0 0] by rw [hwE]; exact Blk.new _ _ _)
        have HER := Lib.hid (show Blk wE w.heap.size 59 #[.int .i64 0, .string ⟨#[]⟩, .int .i64 0, .slice none 0 0] by rw [hwE]; exact HR0.out.alloc _)
        have HEB := Lib.hid (show Below wr.heap.size wr wE by rw [hwE]; exact below_alloc _ _)
        have p4 := (HEB.out.cell (p := ⟨w.heap.size + 1, 0, none⟩) hl1).trans s0
        rw [← hwE]
        have hzE : wr.heap.size < wE.heap.size := HE.out.lt
        obtain ⟨p0, p1, p2, p3, _, _, _, _⟩ := blk4 HE.out
        have f00 := (HEB.out.cell (p := ⟨g6, 0, none⟩) hg6).trans e00
        have f01 := (HEB.out.cell (p := ⟨g6, 1, none⟩) hg6).trans e01
        have f02 := (HEB.out.cell (p := ⟨g6, 2, none⟩) hg6).trans e02
        have f03 := (HEB.out.cell (p := ⟨g6, 3, none⟩) hg6).trans e03
        have f10 := (HEB.out.cell (p := ⟨g6, 4, none⟩) hg6).trans e10
        have f11 := (HEB.out.cell (p := ⟨g6, 5, none⟩) hg6).trans e11
        have f12 := (HEB.out.cell (p := ⟨g6, 6, none⟩) hg6).trans e12
        have f13 := (HEB.out.cell (p := ⟨g6, 7, none⟩) hg6).trans e13
        clear hwE s0 s3 e00 e01 e02 e03 e10 e11 e12 e13
        have hq1 : ¬ (w.heap.size = g6) := by omega
        have hq2 : ¬ (g6 = w.heap.size) := by omega
        have hq3 : ¬ (w.heap.size = wr.heap.size) := by omega
        have hq4 : ¬ (wr.heap.size = w.heap.size) := by omega
        have tok1 : True := trivial
        go_region_held3 (fun w' => w'.cell? ⟨g6, 0, none⟩ = some (.int .i64 k0) ∧ w'.cell? ⟨g6, 1, none⟩ = some (.string t0) ∧ w'.cell? ⟨g6, 2, none⟩ = some (.int .i64 m0) ∧ w'.cell? ⟨g6, 3, none⟩ = some (.slice A0 n0 c0) ∧ w'.cell? ⟨g6, 4, none⟩ = some (.int .i64 k1) ∧ w'.cell? ⟨g6, 5, none⟩ = some (.string t1) ∧ w'.cell? ⟨g6, 6, none⟩ = some (.int .i64 m1) ∧ w'.cell? ⟨g6, 7, none⟩ = some (.slice A1 n1 c1) ∧ w'.cell? ⟨wr.heap.size, 0, none⟩ = some (.int .i64 2) ∧ w'.cell? ⟨wr.heap.size, 1, none⟩ = some (.string ⟨text.toArray⟩) ∧ w'.cell? ⟨wr.heap.size, 2, none⟩ = some (.int .i64 0) ∧ w'.cell? ⟨wr.heap.size, 3, none⟩ = some (.slice none 0 0))
          (first | go_keep | (refine ⟨?_, ?_, ?_, ?_, ?_, ?_, ?_, ?_, ?_, ?_, ?_, ?_⟩ <;> assumption))
          (first | (go_at_call 74; have tk := tok1; refine (pl_call _ _ _ _ _).mono ?_; rintro e w6 ⟨rfl, hb6⟩; have hW : Below wE.heap.size wE w6 := (((Below.refl _ wE).alloc (Nat.le_refl _) _).drew).trans (hb6.mono (by simp)); have HBB := Lib.hid (Blk.below (Blk.drew (Blk.new wE 59 _)) hb6 (by simp)); have o0 := (hW.cell (p := ⟨g6, 0, none⟩) (Nat.lt_trans hg6 hzE)).trans f00; have o1 := (hW.cell (p := ⟨g6, 1, none⟩) (Nat.lt_trans hg6 hzE)).trans f01; have o2 := (hW.cell (p := ⟨g6, 2, none⟩) (Nat.lt_trans hg6 hzE)).trans f02; have o3 := (hW.cell (p := ⟨g6, 3, none⟩) (Nat.lt_trans hg6 hzE)).trans f03; have o4 := (hW.cell (p := ⟨g6, 4, none⟩) (Nat.lt_trans hg6 hzE)).trans f10; have o5 := (hW.cell (p := ⟨g6, 5, none⟩) (Nat.lt_trans hg6 hzE)).trans f11; have o6 := (hW.cell (p := ⟨g6, 6, none⟩) (Nat.lt_trans hg6 hzE)).trans f12; have o7 := (hW.cell (p := ⟨g6, 7, none⟩) (Nat.lt_trans hg6 hzE)).trans f13; have o8 := (hW.cell (p := ⟨wr.heap.size, 0, none⟩) (hzE)).trans p0; have o9 := (hW.cell (p := ⟨wr.heap.size, 1, none⟩) (hzE)).trans p1; have o10 := (hW.cell (p := ⟨wr.heap.size, 2, none⟩) (hzE)).trans p2; have o11 := (hW.cell (p := ⟨wr.heap.size, 3, none⟩) (hzE)).trans p3; have HER6 := Lib.hid (HER.out.below hW (Nat.lt_trans hl0 hzE)); clear tok1 tk) | (go_at_call 74; refine (pl_call _ _ _ _ _).mono ?_; rintro e w7 ⟨rfl, hb7⟩; have hW7 : Below w6.heap.size w6 w7 := ((Below.refl _ w6).alloc (Nat.le_refl _) _).trans (hb7.mono (by simp)); have HBC := Lib.hid (Blk.below (Blk.new w6 59 _) hb7 (by simp)); have u0 := (hW7.cell (p := ⟨g6, 0, none⟩) (Nat.lt_of_lt_of_le (Nat.lt_trans hg6 hzE) hW.size)).trans o0; have u1 := (hW7.cell (p := ⟨g6, 1, none⟩) (Nat.lt_of_lt_of_le (Nat.lt_trans hg6 hzE) hW.size)).trans o1; have u2 := (hW7.cell (p := ⟨g6, 2, none⟩) (Nat.lt_of_lt_of_le (Nat.lt_trans hg6 hzE) hW.size)).trans o2; have u3 := (hW7.cell (p := ⟨g6, 3, none⟩) (Nat.lt_of_lt_of_le (Nat.lt_trans hg6 hzE) hW.size)).trans o3; have u4 := (hW7.cell (p := ⟨g6, 4, none⟩) (Nat.lt_of_lt_of_le (Nat.lt_trans hg6 hzE) hW.size)).trans o4; have u5 := (hW7.cell (p := ⟨g6, 5, none⟩) (Nat.lt_of_lt_of_le (Nat.lt_trans hg6 hzE) hW.size)).trans o5; have u6 := (hW7.cell (p := ⟨g6, 6, none⟩) (Nat.lt_of_lt_of_le (Nat.lt_trans hg6 hzE) hW.size)).trans o6; have u7 := (hW7.cell (p := ⟨g6, 7, none⟩) (Nat.lt_of_lt_of_le (Nat.lt_trans hg6 hzE) hW.size)).trans o7; have u8 := (hW7.cell (p := ⟨wr.heap.size, 0, none⟩) (Nat.lt_of_lt_of_le (hzE) hW.size)).trans o8; have u9 := (hW7.cell (p := ⟨wr.heap.size, 1, none⟩) (Nat.lt_of_lt_of_le (hzE) hW.size)).trans o9; have u10 := (hW7.cell (p := ⟨wr.heap.size, 2, none⟩) (Nat.lt_of_lt_of_le (hzE) hW.size)).trans o10; have u11 := (hW7.cell (p := ⟨wr.heap.size, 3, none⟩) (Nat.lt_of_lt_of_le (hzE) hW.size)).trans o11; obtain ⟨y0, y1, y2, y3, v0, v1, v2, v3⟩ := blk4 (HER6.out.below hW7 HER6.out.lt)))
        have hz6 := HBB.out.lt
        have hz7 := HBC.out.lt
        have hz67 := hW7.size
        have hb1 : Below wr.heap.size wr w7 := (HEB.out.trans (hW.mono (Nat.le_of_lt hzE))).trans (hW7.mono (by have := HEB.out.size; have := hW.size; omega))
        have hn0 : NodeV w7 (fun i => w.heap.size < i ∧ i < w7.heap.size) τ0 [.int .i64 k0, .string t0, .int .i64 m0, .slice A0 n0 c0] := HN0.out.keep (fun i hi _ => hb1.block i hi.2) (fun i hi _ => ⟨hi.1, Nat.lt_of_lt_of_le hi.2 hb1.size⟩)
        have hn1 : NodeV w7 (fun i => w.heap.size < i ∧ i < w7.heap.size) τ1 [.int .i64 k1, .string t1, .int .i64 m1, .slice A1 n1 c1] := HN1.out.keep (fun i hi _ => hb1.block i hi.2) (fun i hi _ => ⟨hi.1, Nat.lt_of_lt_of_le hi.2 hb1.size⟩)
        have hf := node_call2 (F := fun i => w.heap.size < i ∧ i < w7.heap.size) (c := 2) (HBB.out.below hW7 hz6) ⟨by omega, by omega⟩ hn0 (NodeV.leaf w7 _ 2 text 0) [102, 105, 110, 100]
        have hn2 := node_call2 (F := fun i => w.heap.size < i ∧ i < w7.heap.size) (c := 2) HBC.out ⟨by omega, by omega⟩ hf hn1 [102, 105, 114, 115, 116]
        have HN2 := Lib.hid hn2
        have HBF := Lib.hid (HBW.out.trans (hb1.mono hwr))
        clear hn0 hn1 hf hn2 hb1
        go_wp2_with fail
        refine bodyPost_ret (v := .agg #[.int .i64 4, .string ⟨#[102, 105, 114, 115, 116]⟩, .int .i64 0, .slice (some ⟨w6.heap.size, 0, none⟩) 2 2]) (by simp [results, Tryd.results45, go_sem, y0, y1, y2, y3]) rfl ?_
        have HNR := Lib.hid (show nodeR ⟨[102, 105, 114, 115, 116, 102, 105, 110, 100], args, num, text, ty⟩ [τ0, τ1] = .node 4 [102, 105, 114, 115, 116] 0 [.node 4 [102, 105, 110, 100] 0 [τ0, .node 2 text 0 []], τ1] from rfl)
        rw [HTS.out, HNR.out]
        exact grEnd_mk HBF.out HN2.out
      have bd3 : (op == [102, 105, 114, 115, 116, 102, 105, 110, 100]) = false := by simpa using d3
      by_cases d4 : op = [108, 101, 110, 99, 117, 116]
      · subst d4
        have h1 : args.length = 3 := by
          have h := HF.out.len
          injection (HF.out.op.symm.trans (show opR _ = some ⟨[3, 1, 1], _, _, _⟩ from rfl)) with ho
          rw [ho] at h
          exact h
        clear z1 z2 z3
        have HER := Lib.hid (HR0.out.alloc (.cells #[.int .i64 2, .string ⟨text.toArray⟩, .int .i64 0, .slice none 0 0] 59))
        have HEB := Lib.hid (below_alloc wr (.cells #[.int .i64 2, .string ⟨text.toArray⟩, .int .i64 0, .slice none 0 0] 59))
        go_wp2_with fail
        refine (pl_call _ _ _ _ _).mono ?_
        rintro e w6 ⟨rfl, hb6⟩
        have hW : Below wr.heap.size wr w6 := HEB.out.trans (hb6.mono (by simp))
        have HER6 := Lib.hid (HER.out.below hb6 (by simp; omega))
        have HW := Lib.hid hW
        have hz6 := hW.size
        clear hb6 hW
        go_wp2_with fail
        refine (pl_call _ _ _ _ _).mono ?_
        rintro e w7 ⟨rfl, hb7⟩
        have hW7 : Below w6.heap.size w6 w7 := ((Below.refl _ w6).alloc (Nat.le_refl _) _).trans (hb7.mono (by simp))
        have HBC := Lib.hid (Blk.below (Blk.new w6 59 _) hb7 (by simp))
        obtain ⟨y0, y1, y2, y3, v0, v1, v2, v3⟩ := blk4 (HER6.out.below hW7 HER6.out.lt)
        have hz7 := HBC.out.lt
        have hb1 : Below wr.heap.size wr w7 := HW.out.trans (hW7.mono hz6)
        have hf := row_node HOW.out HNS.out HLN.out hb1 [99, 117, 116]
        rw [h1] at hf
        have hn2 := node_calls (F := fun i => w.heap.size < i ∧ i < w7.heap.size) (c := 1) (m := 1) HBC.out ⟨by omega, by omega⟩ (NodeVs.one hf) (fun j u hj => by simpa using hj) rfl [108, 101, 110]
        have HN2 := Lib.hid hn2
        have HBF := Lib.hid (HBW.out.trans (hb1.mono hwr))
        clear hf hn2 hb1 hb7 hW7
        go_wp2_with fail
        refine bodyPost_ret (v := .agg #[.int .i64 4, .string ⟨#[108, 101, 110]⟩, .int .i64 0, .slice (some ⟨w6.heap.size, 0, none⟩) 1 1]) (by simp [results, Tryd.results45, go_sem, y0, y1, y2, y3]) rfl ?_
        have HNR := Lib.hid (show nodeR ⟨[108, 101, 110, 99, 117, 116], args, num, text, ty⟩ τs = .node 4 [108, 101, 110] 0 [.node 4 [99, 117, 116] 0 τs] from rfl)
        rw [HTS.out, HNR.out]
        exact grEnd_mk HBF.out HN2.out
      have bd4 : (op == [108, 101, 110, 99, 117, 116]) = false := by simpa using d4
      have HER := Lib.hid (HR0.out.alloc (.cells #[.int .i64 2, .string ⟨text.toArray⟩, .int .i64 0, .slice none 0 0] 59))
      have HEB := Lib.hid (below_alloc wr (.cells #[.int .i64 2, .string ⟨text.toArray⟩, .int .i64 0, .slice none 0 0] 59))
      go_wp2_with fail
      refine (pl_call _ _ _ _ _).mono ?_
      rintro e w6 ⟨rfl, hb6⟩
      have hb1 : Below wr.heap.size wr w6 := HEB.out.trans (hb6.mono (by simp))
      obtain ⟨y0, y1, y2, y3, v0, v1, v2, v3⟩ := blk4 (HER.out.below hb6 (by simp; omega))
      have hf := row_node HOW.out HNS.out HLN.out hb1 op
      have HNR := Lib.hid (show nodeR ⟨op, args, num, text, ty⟩ τs = .node 4 op 0 τs by
        have hk := HK.out
        unfold nodeR
        dsimp only
        rw [if_neg (fun h => hk (.inl h)), if_neg (fun h => hk (.inr (.inl h))), if_neg (fun h => hk (.inr (.inr h))), if_neg (show ¬ (op = nCount ∨ op = nHas ∨ op = nFind) from d1), if_neg (show ¬ op = nMatches from d2), if_neg (show ¬ op = nFirstfind from d3), if_neg (show ¬ op = nLencut from d4)])
      have HN2 := Lib.hid hf
      have HBF := Lib.hid (HBW.out.trans (hb1.mono hwr))
      clear hf hb1 hb6 d1 d2 d3 d4
      go_wp2_with fail
      refine bodyPost_ret (v := .agg #[.int .i64 4, .string ⟨op.toArray⟩, .int .i64 0, .slice A6 args.length c6]) (by simp [results, Tryd.results45, go_sem, y0, y1, y2, y3]) rfl ?_
      rw [HTS.out, HNR.out]
      exact grEnd_mk HBF.out HN2.out
/-- The tree that grow makes of a step of a plan. -/
theorem grow_any (A : Option Addr) (c : Nat) (l : List St) (hc : checkR l = 0) (hm : Modest l) : ∀ (i : Nat) (w : World), i < l.length → PlAt w (fun i => i < w.heap.size) A l → Calls Tryd.prog 45 #[.slice A l.length c, .int .i64 i] w (GrEnd w (growR l i)) := by
  have hz := (checkR_zero hc).2.2
  have hback := checkR_back hc
  intro i
  induction i using Nat.strongRecOn with
  | _ i ih =>
    intro w hi hP
    have hs : l[i]? = some l[i] := List.getElem?_eq_getElem hi
    rw [growR_eq hback hs]
    by_cases hk : l[i].op = nNumber ∨ l[i].op = nString ∨ l[i].op = nRef
    · have := grow_leaf A c l i l[i] w hs hP hm.1 hk
      have he : nodeR l[i] (l[i].args.map fun a => growR l a.toNat) = nodeR l[i] [] := by
        unfold nodeR
        rcases hk with h | h | h
        · rw [if_pos h, if_pos h]
        · by_cases h1 : l[i].op = nNumber
          · rw [if_pos h1, if_pos h1]
          · rw [if_neg h1, if_neg h1, if_pos h, if_pos h]
        · by_cases h1 : l[i].op = nNumber
          · rw [if_pos h1, if_pos h1]
          · by_cases h2 : l[i].op = nString
            · rw [if_neg h1, if_neg h1, if_pos h2, if_pos h2]
            · rw [if_neg h1, if_neg h1, if_neg h2, if_neg h2, if_pos h, if_pos h]
      rw [he]
      exact this
    · obtain ⟨o, ho⟩ := stepE_zero (hz i l[i] hs)
      exact grow_call A c l i l[i] w hs hP hm.1 (show l[i].args.length ≤ 100000 by have := opR_small ho.op; have := ho.len; omega) hk ho.back (fun j wj hj hPj => ih j hj wj (by omega) hPj) o ho
end Go.Proofs.YtoegklpomlhneaaDoor
