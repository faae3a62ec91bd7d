/- The walk of plan.grow. The walk of plan.Tree. -/
import Derived.Test.YtniefnjcimempaaqRl
import Derived.Test.YtniefnjcimempaaqRp
import Derived.Deep.RegionHeld3
import Derived.Deep.CutRange
import Derived.Deep.Cut
import Derived.Laws.MakeOwn
namespace Go.Proofs.Ytniefnjcimempaa
open Go.RowKit
theorem pl_call (s : ByteArray) (A : Option Addr) (n c : Nat) (w : World) : Calls Try.prog 41 #[.string s, .slice A n c] w fun e w' => e = .returned (.agg #[.int .i64 4, .string s, .int .i64 0, .slice A n c]) ∧ Below w.heap.size w w' := by
  go_enter Try.func41, Try.ntmps41
  go_wp2_with fail
  exact bodyPost_ret (v := .agg #[.int .i64 4, .string s, .int .i64 0, .slice A n c]) (by simp [results, Try.results41, go_sem]) rfl ⟨rfl, (Below.refl _ _).alloc (Nat.le_refl _) _⟩
def GrEnd (w : World) (τ : Tx) (e : Ending) (w' : World) : Prop := ∃ cs, e = .returned (.agg cs.toArray) ∧ NodeV w' (fun i => w.heap.size ≤ i ∧ i < w'.heap.size) τ cs ∧ Below w.heap.size w w'
theorem grEnd_mk {w wz : World} {τ : Tx} {a b c d : Value} (hb : Below w.heap.size w wz) (hn : NodeV wz (fun i => w.heap.size < i ∧ i < wz.heap.size) τ [a, b, c, d]) :
    GrEnd w τ (.returned (.agg #[a, b, c, d])) ((((wz.setCell ⟨w.heap.size, 0, none⟩ a).setCell ⟨w.heap.size, 1, none⟩ b).setCell ⟨w.heap.size, 2, none⟩ c).setCell ⟨w.heap.size, 3, none⟩ d) := by
  refine ⟨[a, b, c, d], rfl, hn.keep (fun i hi _ => four_old (by have := hi.1; omega)) (fun i hi _ => ⟨by have := hi.1; omega, by simp; exact hi.2⟩), four_set hb (Nat.le_refl _)⟩
set_option maxRecDepth 100000 in
theorem grow_leaf (A : Option Addr) (c : Nat) (l : List St) (i : Nat) (s : St) (w : World) (hs : l[i]? = some s) (hP : PlAt w (fun i => i < w.heap.size) A l) (hn : l.length ≤ 100000) (hk : s.op = nNumber ∨ s.op = nString ∨ s.op = nRef) :
    Calls Try.prog 26 #[.slice A l.length c, .int .i64 i] w (GrEnd w (nodeR s [])) := by
  have hil := (List.getElem?_eq_some_iff.1 hs).1
  obtain ⟨b, ob, As, cs, rfl, hbF, hbl, x0, x1, x2, x3, x4, har⟩ := hP.step hs
  obtain ⟨op, args, num, text, ty⟩ := s
  dsimp only at x0 x1 x2 x3 x4 hk
  have q0 : (i : Int) < (l.length : Int) := by omega
  have q1 : (0 : Int) ≤ (i : Int) := by omega
  have hb2 : Below w.heap.size w ((w.alloc (.cells #[.int .i64 0, .string ⟨#[]⟩, .int .i64 0, .slice none 0 0] 31)).alloc (.cells #[.string ⟨op.toArray⟩, .slice As args.length cs, .int .i64 num, .string ⟨text.toArray⟩, .int .i64 ty] 25)) := ((Below.refl _ _).alloc (Nat.le_refl _) _).alloc (by simp) _
  have HB2 := Lib.hid hb2
  clear hP har hs hb2
  rcases hk with rfl | rfl | rfl
  · unfold nNumber at *
    go_enter Try.func26, Try.ntmps26
    go_wp2_with fail
    exact bodyPost_ret (v := .agg #[.int .i64 1, .string ⟨#[]⟩, .int .i64 num, .slice none 0 0]) (by simp [results, Try.results26, go_sem]) rfl ⟨[.int .i64 1, .string ⟨#[]⟩, .int .i64 num, .slice none 0 0], rfl, NodeV.leaf _ _ 1 [] num, ((Below.refl _ _).alloc (Nat.le_refl _) _).alloc (by simp) _⟩
  · unfold nString at *
    go_enter Try.func26, Try.ntmps26
    go_wp2_with fail
    exact bodyPost_ret (v := .agg #[.int .i64 2, .string ⟨text.toArray⟩, .int .i64 0, .slice none 0 0]) (by simp [results, Try.results26, go_sem]) rfl ⟨[.int .i64 2, .string ⟨text.toArray⟩, .int .i64 0, .slice none 0 0], rfl, NodeV.leaf _ _ 2 text 0, ((Below.refl _ _).alloc (Nat.le_refl _) _).alloc (by simp) _⟩
  · unfold nRef at *
    go_enter Try.func26, Try.ntmps26
    go_wp2_with fail
    exact bodyPost_ret (v := .agg #[.int .i64 3, .string ⟨text.toArray⟩, .int .i64 0, .slice none 0 0]) (by simp [results, Try.results26, go_sem]) rfl ⟨[.int .i64 3, .string ⟨text.toArray⟩, .int .i64 0, .slice none 0 0], rfl, NodeV.leaf _ _ 3 text 0, ((Below.refl _ _).alloc (Nat.le_refl _) _).alloc (by simp) _⟩
/-- A call whose arguments are a row's. -/
theorem row_node {wr wk : World} {base n c : Nat} {A : Option Addr} {css : List Value} {τs : List Tx} (ho : wr.ownsRow base 31 4 (.slice A n c) n css) (hn : NodeVs wr (offB base wr (.slice A n c)) τs css) (hl : n = τs.length) (hb : Below wr.heap.size wr wk) (nm : List UInt8) :
    NodeV wk (fun i => base ≤ i ∧ i < wk.heap.size) (.node 4 nm 0 τs) [.int .i64 4, .string ⟨nm.toArray⟩, .int .i64 0, .slice A n c] := by
  have hn' : NodeVs wk (fun i => base ≤ i ∧ i < wk.heap.size) τs css := NodeVs.keep (fun i hi _ => hb.block i hi.2.1) (fun i hi _ => ⟨hi.1, Nat.lt_of_lt_of_le hi.2.1 hb.size⟩) hn
  by_cases h0 : n = 0
  · subst h0
    have : τs = [] := List.eq_nil_of_length_eq_zero hl.symm
    subst this
    exact NodeV.call (l := []) 4 nm 0 rfl (by unfold LxAts; trivial) rfl
  · obtain ⟨g, c', cur, hv, hnc, hbg, hB, hsz, ht, _⟩ := own_full ho (by omega)
    injection hv with hA _ hc
    subst hA hc
    exact node_calls (F := fun i => base ≤ i ∧ i < wk.heap.size) (css := css) (hB.below hb hB.lt) ⟨hbg, Nat.lt_of_lt_of_le hB.lt hb.size⟩ hn' (fun j u hj => by
      rw [← ht, List.getElem?_take] at hj
      split at hj
      · simpa using hj
      · cases hj) hl nm
/-- The tree of a step from the trees of its arguments: what grow makes of them. -/
def GrRel (w : World) (l : List St) (args : List Int) (stC : Array Value) (f : Nat) (i v : Value) (wr : World) : Prop := ∃ (k : Nat) (css : List Value), i = .int .i64 k ∧ k ≤ args.length ∧ args.length - k < f ∧
  Hid (wr.ownsRow (w.heap.size + 1) 31 4 v k css) ∧ Hid (NodeVs wr (offB (w.heap.size + 1) wr v) ((args.take k).map fun a => growR l a.toNat) css) ∧
  Hid (Blk wr w.heap.size 31 #[.int .i64 0, .string ⟨#[]⟩, .int .i64 0, .slice none 0 0]) ∧ Hid (Blk wr (w.heap.size + 1) 25 stC) ∧ Hid (Below w.heap.size w wr)
theorem infoExpr : (Try.prog.info? 31).map (fun i => (i.zero, i.size, i.bytes)) = some (some (.agg #[.int .i64 0, .string ⟨#[]⟩, .int .i64 0, .slice none 0 0]), 4, 56) := by kernel_rfl
set_option maxRecDepth 100000 in
set_option maxHeartbeats 8000000 in
theorem grow_call (A : Option Addr) (c : Nat) (l : List St) (i : Nat) (s : St) (w : World) (hs : l[i]? = some s) (hP : PlAt w (fun i => i < w.heap.size) A l) (hn : l.length ≤ 100000) (hsm : s.args.length ≤ 100000) (hk : ¬ (s.op = nNumber ∨ s.op = nString ∨ s.op = nRef))
    (hback : ∀ a ∈ s.args, 0 ≤ a ∧ a < (i : Int)) (ih : ∀ (j : Nat) (wj : World), j < i → PlAt wj (fun i => i < wj.heap.size) A l → Calls Try.prog 26 #[.slice A l.length c, .int .i64 j] wj (GrEnd wj (growR l j))) (o : OpI) (hf : Fine l i s o) :
    Calls Try.prog 26 #[.slice A l.length c, .int .i64 i] w (GrEnd w (nodeR s (s.args.map fun a => growR l a.toNat))) := by
  have hil := (List.getElem?_eq_some_iff.1 hs).1
  obtain ⟨b, ob, As, cs, rfl, hbF, hbl, x0, x1, x2, x3, x4, har⟩ := hP.step hs
  obtain ⟨op, args, num, text, ty⟩ := s
  dsimp only at x0 x1 x2 x3 x4 hk hsm hback har
  have q0 : (i : Int) < (l.length : Int) := by omega
  have q1 : (0 : Int) ≤ (i : Int) := by omega
  have z1 : (op == [110, 117, 109, 98, 101, 114]) = false := by simpa [nNumber] using fun h => hk (.inl h)
  have z2 : (op == [115, 116, 114, 105, 110, 103]) = false := by simpa [nString] using fun h => hk (.inr (.inl h))
  have z3 : (op == [114, 101, 102]) = false := by simpa [nRef] using fun h => hk (.inr (.inr h))
  have HP := Lib.hid hP
  have HAR := Lib.hid har
  have HBK := Lib.hid hback
  have HIH := Lib.hid ih
  have HF := Lib.hid hf
  have HK := Lib.hid hk
  have HB2 := Lib.hid (show Below w.heap.size w ((w.alloc (.cells #[.int .i64 0, .string ⟨#[]⟩, .int .i64 0, .slice none 0 0] 31)).alloc (.cells #[.string ⟨op.toArray⟩, .slice As args.length cs, .int .i64 num, .string ⟨text.toArray⟩, .int .i64 ty] 25)) from ((Below.refl _ _).alloc (Nat.le_refl _) _).alloc (by simp) _)
  have HX0 := Lib.hid ((Blk.new w 31 #[.int .i64 0, .string ⟨#[]⟩, .int .i64 0, .slice none 0 0]).alloc (.cells #[.string ⟨op.toArray⟩, .slice As args.length cs, .int .i64 num, .string ⟨text.toArray⟩, .int .i64 ty] 25))
  have HX1 := Lib.hid (show Blk ((w.alloc (.cells #[.int .i64 0, .string ⟨#[]⟩, .int .i64 0, .slice none 0 0] 31)).alloc (.cells #[.string ⟨op.toArray⟩, .slice As args.length cs, .int .i64 num, .string ⟨text.toArray⟩, .int .i64 ty] 25)) (w.heap.size + 1) 25 _ by
    have := Blk.new (w.alloc (.cells #[.int .i64 0, .string ⟨#[]⟩, .int .i64 0, .slice none 0 0] 31)) 25 #[.string ⟨op.toArray⟩, .slice As args.length cs, .int .i64 num, .string ⟨text.toArray⟩, .int .i64 ty]
    simpa using this)
  clear hP har hs hback ih hf hk
  go_enter Try.func26, Try.ntmps26
  go_wp2_with fail
  go_loopg [34, 6, 8] (args.length + 1) (fun f i v _ wr => GrRel w l args #[.string ⟨op.toArray⟩, .slice As args.length cs, .int .i64 num, .string ⟨text.toArray⟩, .int .i64 ty] f i v wr)
  case atStart => exact ⟨0, [], rfl, by omega, by omega, Lib.hid ⟨rfl, .inl ⟨rfl, rfl⟩⟩, Lib.hid rfl, HX0, HX1, HB2⟩
  case round =>
    obtain ⟨k, css, rfl, hk, hkf, HOW, HNS, HR0, HR1, HBW⟩ := hrel
    obtain ⟨f, rfl⟩ : ∃ f, gk = f + 1 := ⟨gk - 1, by omega⟩
    by_cases hlt : k < args.length
    · obtain ⟨a, ha⟩ : ∃ a, args[k]? = some a := ⟨args[k], List.getElem?_eq_getElem hlt⟩
      have hbk := HBK.out a (List.mem_of_getElem? ha)
      obtain ⟨m, rfl⟩ := natInt hbk.1
      obtain ⟨ba, oa, rfl, hba', hba, hca⟩ := RdF.int HAR.out ha
      have y1 := (HBW.out.cell (p := ⟨ba, oa + k, none⟩) hba').trans hca
      have hPr : PlAt wr (fun i => i < wr.heap.size) (some ⟨b, ob, none⟩) l := HP.out.keep (fun i (hi : i < _) _ => HBW.out.block i hi) HBW.out.size (fun _ hi _ => Nat.lt_of_lt_of_le hi HBW.out.size)
      have hg := HIH.out m wr (by omega) hPr
      have htk : (args.take (k + 1)).map (fun a => growR l a.toNat) = (args.take k).map (fun a => growR l a.toNat) ++ [growR l m] := by rw [List.take_add_one, ha]; simp
      have HG := Lib.hid hg
      have HTK := Lib.hid htk
      have p0 : (k : Int) < (args.length : Int) := by omega
      have p1 : (0 : Int) ≤ (k : Int) := by omega
      clear ha hbk hca hPr hg htk
      go_wp2_with fail
      refine HG.out.mono ?_
      rintro e w4 ⟨cs1, rfl, hn1, hb4⟩
      obtain ⟨k1, t1, m1, A1, n1, c1, rfl⟩ := hn1.form
      have ho4 := (own_below HOW.out hb4).alloc (.cells #[.int .i64 k1, .string t1, .int .i64 m1, .slice A1 n1 c1] 31)
      have hrr := reads4 w4 (.int .i64 k1) (.string t1) (.int .i64 m1) (.slice A1 n1 c1) 31
      have hone : ∀ u ∈ ([.int .i64 k1, .string t1, .int .i64 m1, .slice A1 n1 c1] : List Value), u.oneCell' = true := by simp [Value.oneCell']
      have hz4 := hb4.size
      have hww := HBW.out.size
      have hl1 := HR1.out.lt
      have HN4 := Lib.hid hn1
      have HB4 := Lib.hid hb4
      clear hn1 hb4
      obtain ⟨i0, hinf, hz0, hz1', hz2'⟩ := info_parts infoExpr
      go_wp2_with (at_builtin; refine wpList_append_any _ rfl (.tmp 38) (.tmp 42) 29 rfl (w.heap.size + 1) 31 i0 (.agg #[.int .i64 0, .string ⟨#[]⟩, .int .i64 0, .slice none 0 0]) 4 56 Try.underlying29 hinf hz0 hz1' hz2' rfl (by decide) _ k css rfl ho4 _ _ _ _ [.int .i64 k1, .string t1, .int .i64 m1, .slice A1 n1 c1] rfl hrr hone (by unfold maxLen; omega) (by omega) (by simp; omega) ?_)
      intro v5 w5 hown5 hg5 hv5
      have hv5' : v5.ownBlock = u6.ownBlock ∨ v5.ownBlock = some (w4.heap.size + 1) := by simpa using hv5
      have HN5 := Lib.hid (rowB_add HNS.out (by omega) HB4.out HN4.out _ (own_lt HOW.out) hg5 hv5')
      have HO5 := Lib.hid hown5
      have hlo5 := fun j e => (own_lo HOW.out (g := j) e).1
      have HB5 := Lib.hid (((HBW.out.trans (HB4.out.mono hww)).alloc (by omega) _).grown hg5 (by simp; omega) (fun j e => by have := hlo5 j e; omega))
      have HR05 := Lib.hid (((HR0.out.below HB4.out HR0.out.lt).alloc _).grown hg5 (fun e => by have := hlo5 _ e.symm; omega))
      have HR15 := Lib.hid (((HR1.out.below HB4.out HR1.out.lt).alloc _).grown hg5 (fun e => own_blk_ne HOW.out HR1.out (by decide) e.symm))
      clear ho4 hrr hone hinf hz0 hz1' hz2' hown5 hg5 hv5 hlo5 hv5'
      go_wp2_with fail
      go_roundg f
      case measure => omega
      case rel => exact ⟨k + 1, _, by go_num, by omega, by omega, HO5, Lib.hid (by rw [HTK.out]; exact HN5.out), HR05, HR15, HB5⟩
    · have hks : k = args.length := by omega
      subst hks
      have s0 := HR1.out.cell 0
      have s3 := HR1.out.cell 3
      simp only [List.getElem?_toArray, List.getElem?_cons_zero, List.getElem?_cons_succ] at s0 s3
      have hlen : args.length = ((args.map fun a => growR l a.toNat)).length := by simp
      have HLN := Lib.hid hlen
      have HNS := Lib.hid (show NodeVs wr (offB (w.heap.size + 1) wr u6) (args.map fun a => growR l a.toNat) css by have := HNS.out; rwa [List.take_length] at this)
      obtain ⟨A6, c6, rfl⟩ := own_form HOW.out
      generalize hτ : (args.map fun a => growR l a.toNat) = τs at *
      have hwr := HBW.out.size
      have hl1 := HR1.out.lt
      have hl0 := HR0.out.lt
      have HTS := Lib.hid hτ
      clear hlen hτ
      -- TAIL
      by_cases d1 : op = [99, 111, 117, 110, 116] ∨ op = [104, 97, 115] ∨ op = [102, 105, 110, 100]
      · have h1 : args.length = 1 := by
          have h := HF.out.len
          have ho := HF.out.op
          rcases d1 with rfl | rfl | rfl
          all_goals
            injection (ho.symm.trans (show opR _ = some ⟨[3], _, _, _⟩ from rfl)) with ho
            rw [ho] at h
            exact h
        obtain ⟨g6, c', cur, hv, hnc, hbg, hB, hsz, ht, _⟩ := own_full HOW.out (by omega)
        injection hv with hA _ hc
        subst hA hc
        obtain ⟨τ0, hτ0⟩ : ∃ τ0, τs = [τ0] := by
          match τs, (HLN.out.symm.trans h1) with
          | [x0], _ => exact ⟨x0, rfl⟩
        subst hτ0
        obtain ⟨k0, t0, m0, A0, n0, c0, hnd0, hcs0⟩ := HNS.out.at_ 0 τ0 rfl
        have hcell0 : ∀ (j : Nat) u, ([.int .i64 k0, .string t0, .int .i64 m0, .slice A0 n0 c0] : List Value)[j]? = some u → wr.cell? ⟨g6, 0 * 4 + j, none⟩ = some u := fun j u hj => by
          have h := hcs0 j u hj
          rw [← ht, List.getElem?_take] at h
          split at h
          · rw [hB.cell]; simpa using h
          · cases h
        have e00 := hcell0 0 _ rfl
        have e01 := hcell0 1 _ rfl
        have e02 := hcell0 2 _ rfl
        have e03 := hcell0 3 _ rfl
        have HN0 := Lib.hid (show NodeV wr (fun i => w.heap.size < i ∧ i < wr.heap.size) τ0 [.int .i64 k0, .string t0, .int .i64 m0, .slice A0 n0 c0] from NodeV.keep (w' := wr) (fun _ _ _ => rfl) (fun i h _ => ⟨h.1, h.2.1⟩) hnd0)
        clear hcell0 hcs0 hnd0
        simp only [Nat.zero_mul, Nat.zero_add, Nat.reduceAdd] at e00 e01 e02 e03
        have hg6 := hB.lt
        rw [h1]
        clear ht hB hnc hsz
        rcases d1 with rfl | rfl | rfl
        · clear z1 z2 z3
          go_upto_region 20 with (fail)
          obtain ⟨wE, hwE⟩ : ∃ wE, wE = wr.alloc (.cells #[.int .i64 2, .string ⟨text.toArray⟩, .int .i64 0, .slice none 0 0] 31) := ⟨_, rfl⟩
          have HE := Lib.hid (show Blk wE wr.heap.size 31 #[.int .i64 2, .string ⟨text.toArray⟩, .int .i64 0, .slice none 0 0] by rw [hwE]; exact Blk.new _ _ _)
          have HER := Lib.hid (show Blk wE w.heap.size 31 #[.int .i64 0, .string ⟨#[]⟩, .int .i64 0, .slice none 0 0] by rw [hwE]; exact HR0.out.alloc _)
          have HEB := Lib.hid (show Below wr.heap.size wr wE by rw [hwE]; exact below_alloc _ _)
          have p4 := (HEB.out.cell (p := ⟨w.heap.size + 1, 0, none⟩) hl1).trans s0
          rw [← hwE]
          have hzE : wr.heap.size < wE.heap.size := HE.out.lt
          obtain ⟨p0, p1, p2, p3, _, _, _, _⟩ := blk4 HE.out
          have f00 := (HEB.out.cell (p := ⟨g6, 0, none⟩) hg6).trans e00
          have f01 := (HEB.out.cell (p := ⟨g6, 1, none⟩) hg6).trans e01
          have f02 := (HEB.out.cell (p := ⟨g6, 2, none⟩) hg6).trans e02
          have f03 := (HEB.out.cell (p := ⟨g6, 3, none⟩) hg6).trans e03
          clear hwE s0 s3 e00 e01 e02 e03
          have hq1 : ¬ (w.heap.size = g6) := by omega
          have hq2 : ¬ (g6 = w.heap.size) := by omega
          have hq3 : ¬ (w.heap.size = wr.heap.size) := by omega
          have hq4 : ¬ (wr.heap.size = w.heap.size) := by omega
          go_region_held3 (fun w' => w'.cell? ⟨w.heap.size + 1, 0, none⟩ = some (.string ⟨#[99, 111, 117, 110, 116]⟩) ∧ w'.cell? ⟨g6, 0, none⟩ = some (.int .i64 k0) ∧ w'.cell? ⟨g6, 1, none⟩ = some (.string t0) ∧ w'.cell? ⟨g6, 2, none⟩ = some (.int .i64 m0) ∧ w'.cell? ⟨g6, 3, none⟩ = some (.slice A0 n0 c0) ∧ w'.cell? ⟨wr.heap.size, 0, none⟩ = some (.int .i64 2) ∧ w'.cell? ⟨wr.heap.size, 1, none⟩ = some (.string ⟨text.toArray⟩) ∧ w'.cell? ⟨wr.heap.size, 2, none⟩ = some (.int .i64 0) ∧ w'.cell? ⟨wr.heap.size, 3, none⟩ = some (.slice none 0 0))
            (first | go_keep | (refine ⟨?_, ?_, ?_, ?_, ?_, ?_, ?_, ?_, ?_⟩ <;> assumption))
            (first | (go_at_call 41; refine (pl_call _ _ _ _ _).mono ?_; rintro e w6 ⟨rfl, hb6⟩; have hW : Below wE.heap.size wE w6 := (((Below.refl _ wE).alloc (Nat.le_refl _) _).drew).trans (hb6.mono (by simp)); have HBB := Lib.hid (Blk.below (Blk.drew (Blk.new wE 31 _)) hb6 (by simp)); have o0 := (hW.cell (p := ⟨w.heap.size + 1, 0, none⟩) (Nat.lt_trans hl1 hzE)).trans p4; have o1 := (hW.cell (p := ⟨g6, 0, none⟩) (Nat.lt_trans hg6 hzE)).trans f00; have o2 := (hW.cell (p := ⟨g6, 1, none⟩) (Nat.lt_trans hg6 hzE)).trans f01; have o3 := (hW.cell (p := ⟨g6, 2, none⟩) (Nat.lt_trans hg6 hzE)).trans f02; have o4 := (hW.cell (p := ⟨g6, 3, none⟩) (Nat.lt_trans hg6 hzE)).trans f03; have o5 := (hW.cell (p := ⟨wr.heap.size, 0, none⟩) (hzE)).trans p0; have o6 := (hW.cell (p := ⟨wr.heap.size, 1, none⟩) (hzE)).trans p1; have o7 := (hW.cell (p := ⟨wr.heap.size, 2, none⟩) (hzE)).trans p2; have o8 := (hW.cell (p := ⟨wr.heap.size, 3, none⟩) (hzE)).trans p3; obtain ⟨y0, y1, y2, y3, v0, v1, v2, v3⟩ := blk4 (HER.out.below hW (Nat.lt_trans hl0 hzE))))
          have hz6 := HBB.out.lt
          have hb1 : Below wr.heap.size wr w6 := HEB.out.trans (hW.mono (Nat.le_of_lt hzE))
          have hn1 : NodeV w6 (fun i => w.heap.size < i ∧ i < w6.heap.size) τ0 [.int .i64 k0, .string t0, .int .i64 m0, .slice A0 n0 c0] := HN0.out.keep (fun i hi _ => hb1.block i hi.2) (fun i hi _ => ⟨hi.1, Nat.lt_of_lt_of_le hi.2 hb1.size⟩)
          have hn2 := node_call2 (F := fun i => w.heap.size < i ∧ i < w6.heap.size) (c := 2) HBB.out ⟨by omega, hz6⟩ hn1 (NodeV.leaf w6 _ 2 text 0) [99, 111, 117, 110, 116]
          have HN2 := Lib.hid hn2
          have HBF := Lib.hid (HBW.out.trans (hb1.mono hwr))
          clear hn1 hn2 hb1
          go_wp2_with fail
          refine bodyPost_ret (v := .agg #[.int .i64 4, .string ⟨#[99, 111, 117, 110, 116]⟩, .int .i64 0, .slice (some ⟨wE.heap.size, 0, none⟩) 2 2]) (by simp [results, Try.results26, go_sem, y0, y1, y2, y3]) rfl ?_
          have HNR := Lib.hid (show nodeR ⟨[99, 111, 117, 110, 116], args, num, text, ty⟩ [τ0] = .node 4 [99, 111, 117, 110, 116] 0 [τ0, .node 2 text 0 []] from rfl)
          rw [HTS.out, HNR.out]
          exact grEnd_mk HBF.out HN2.out
        · clear z1 z2 z3
          go_upto_region 20 with (fail)
          obtain ⟨wE, hwE⟩ : ∃ wE, wE = wr.alloc (.cells #[.int .i64 2, .string ⟨text.toArray⟩, .int .i64 0, .slice none 0 0] 31) := ⟨_, rfl⟩
          have HE := Lib.hid (show Blk wE wr.heap.size 31 #[.int .i64 2, .string ⟨text.toArray⟩, .int .i64 0, .slice none 0 0] by rw [hwE]; exact Blk.new _ _ _)
          have HER := Lib.hid (show Blk wE w.heap.size 31 #[.int .i64 0, .string ⟨#[]⟩, .int .i64 0, .slice none 0 0] by rw [hwE]; exact HR0.out.alloc _)
          have HEB := Lib.hid (show Below wr.heap.size wr wE by rw [hwE]; exact below_alloc _ _)
          have p4 := (HEB.out.cell (p := ⟨w.heap.size + 1, 0, none⟩) hl1).trans s0
          rw [← hwE]
          have hzE : wr.heap.size < wE.heap.size := HE.out.lt
          obtain ⟨p0, p1, p2, p3, _, _, _, _⟩ := blk4 HE.out
          have f00 := (HEB.out.cell (p := ⟨g6, 0, none⟩) hg6).trans e00
          have f01 := (HEB.out.cell (p := ⟨g6, 1, none⟩) hg6).trans e01
          have f02 := (HEB.out.cell (p := ⟨g6, 2, none⟩) hg6).trans e02
          have f03 := (HEB.out.cell (p := ⟨g6, 3, none⟩) hg6).trans e03
          clear hwE s0 s3 e00 e01 e02 e03
          have hq1 : ¬ (w.heap.size = g6) := by omega
          have hq2 : ¬ (g6 = w.heap.size) := by omega
          have hq3 : ¬ (w.heap.size = wr.heap.size) := by omega
          have hq4 : ¬ (wr.heap.size = w.heap.size) := by omega
          go_region_held3 (fun w' => w'.cell? ⟨w.heap.size + 1, 0, none⟩ = some (.string ⟨#[104, 97, 115]⟩) ∧ w'.cell? ⟨g6, 0, none⟩ = some (.int .i64 k0) ∧ w'.cell? ⟨g6, 1, none⟩ = some (.string t0) ∧ w'.cell? ⟨g6, 2, none⟩ = some (.int .i64 m0) ∧ w'.cell? ⟨g6, 3, none⟩ = some (.slice A0 n0 c0) ∧ w'.cell? ⟨wr.heap.size, 0, none⟩ = some (.int .i64 2) ∧ w'.cell? ⟨wr.heap.size, 1, none⟩ = some (.string ⟨text.toArray⟩) ∧ w'.cell? ⟨wr.heap.size, 2, none⟩ = some (.int .i64 0) ∧ w'.cell? ⟨wr.heap.size, 3, none⟩ = some (.slice none 0 0))
            (first | go_keep | (refine ⟨?_, ?_, ?_, ?_, ?_, ?_, ?_, ?_, ?_⟩ <;> assumption))
            (first | (go_at_call 41; refine (pl_call _ _ _ _ _).mono ?_; rintro e w6 ⟨rfl, hb6⟩; have hW : Below wE.heap.size wE w6 := (((Below.refl _ wE).alloc (Nat.le_refl _) _).drew).trans (hb6.mono (by simp)); have HBB := Lib.hid (Blk.below (Blk.drew (Blk.new wE 31 _)) hb6 (by simp)); have o0 := (hW.cell (p := ⟨w.heap.size + 1, 0, none⟩) (Nat.lt_trans hl1 hzE)).trans p4; have o1 := (hW.cell (p := ⟨g6, 0, none⟩) (Nat.lt_trans hg6 hzE)).trans f00; have o2 := (hW.cell (p := ⟨g6, 1, none⟩) (Nat.lt_trans hg6 hzE)).trans f01; have o3 := (hW.cell (p := ⟨g6, 2, none⟩) (Nat.lt_trans hg6 hzE)).trans f02; have o4 := (hW.cell (p := ⟨g6, 3, none⟩) (Nat.lt_trans hg6 hzE)).trans f03; have o5 := (hW.cell (p := ⟨wr.heap.size, 0, none⟩) (hzE)).trans p0; have o6 := (hW.cell (p := ⟨wr.heap.size, 1, none⟩) (hzE)).trans p1; have o7 := (hW.cell (p := ⟨wr.heap.size, 2, none⟩) (hzE)).trans p2; have o8 := (hW.cell (p := ⟨wr.heap.size, 3, none⟩) (hzE)).trans p3; obtain ⟨y0, y1, y2, y3, v0, v1, v2, v3⟩ := blk4 (HER.out.below hW (Nat.lt_trans hl0 hzE))))
          have hz6 := HBB.out.lt
          have hb1 : Below wr.heap.size wr w6 := HEB.out.trans (hW.mono (Nat.le_of_lt hzE))
          have hn1 : NodeV w6 (fun i => w.heap.size < i ∧ i < w6.heap.size) τ0 [.int .i64 k0, .string t0, .int .i64 m0, .slice A0 n0 c0] := HN0.out.keep (fun i hi _ => hb1.block i hi.2) (fun i hi _ => ⟨hi.1, Nat.lt_of_lt_of_le hi.2 hb1.size⟩)
          have hn2 := node_call2 (F := fun i => w.heap.size < i ∧ i < w6.heap.size) (c := 2) HBB.out ⟨by omega, hz6⟩ hn1 (NodeV.leaf w6 _ 2 text 0) [104, 97, 115]
          have HN2 := Lib.hid hn2
          have HBF := Lib.hid (HBW.out.trans (hb1.mono hwr))
          clear hn1 hn2 hb1
          go_wp2_with fail
          refine bodyPost_ret (v := .agg #[.int .i64 4, .string ⟨#[104, 97, 115]⟩, .int .i64 0, .slice (some ⟨wE.heap.size, 0, none⟩) 2 2]) (by simp [results, Try.results26, go_sem, y0, y1, y2, y3]) rfl ?_
          have HNR := Lib.hid (show nodeR ⟨[104, 97, 115], args, num, text, ty⟩ [τ0] = .node 4 [104, 97, 115] 0 [τ0, .node 2 text 0 []] from rfl)
          rw [HTS.out, HNR.out]
          exact grEnd_mk HBF.out HN2.out
        · clear z1 z2 z3
          go_upto_region 20 with (fail)
          obtain ⟨wE, hwE⟩ : ∃ wE, wE = wr.alloc (.cells #[.int .i64 2, .string ⟨text.toArray⟩, .int .i64 0, .slice none 0 0] 31) := ⟨_, rfl⟩
          have HE := Lib.hid (show Blk wE wr.heap.size 31 #[.int .i64 2, .string ⟨text.toArray⟩, .int .i64 0, .slice none 0 0] by rw [hwE]; exact Blk.new _ _ _)
          have HER := Lib.hid (show Blk wE w.heap.size 31 #[.int .i64 0, .string ⟨#[]⟩, .int .i64 0, .slice none 0 0] by rw [hwE]; exact HR0.out.alloc _)
          have HEB := Lib.hid (show Below wr.heap.size wr wE by rw [hwE]; exact below_alloc _ _)
          have p4 := (HEB.out.cell (p := ⟨w.heap.size + 1, 0, none⟩) hl1).trans s0
          rw [← hwE]
          have hzE : wr.heap.size < wE.heap.size := HE.out.lt
          obtain ⟨p0, p1, p2, p3, _, _, _, _⟩ := blk4 HE.out
          have f00 := (HEB.out.cell (p := ⟨g6, 0, none⟩) hg6).trans e00
          have f01 := (HEB.out.cell (p := ⟨g6, 1, none⟩) hg6).trans e01
          have f02 := (HEB.out.cell (p := ⟨g6, 2, none⟩) hg6).trans e02
          have f03 := (HEB.out.cell (p := ⟨g6, 3, none⟩) hg6).trans e03
          clear hwE s0 s3 e00 e01 e02 e03
          have hq1 : ¬ (w.heap.size = g6) := by omega
          have hq2 : ¬ (g6 = w.heap.size) := by omega
          have hq3 : ¬ (w.heap.size = wr.heap.size) := by omega
          have hq4 : ¬ (wr.heap.size = w.heap.size) := by omega
          go_region_held3 (fun w' => w'.cell? ⟨w.heap.size + 1, 0, none⟩ = some (.string ⟨#[102, 105, 110, 100]⟩) ∧ w'.cell? ⟨g6, 0, none⟩ = some (.int .i64 k0) ∧ w'.cell? ⟨g6, 1, none⟩ = some (.string t0) ∧ w'.cell? ⟨g6, 2, none⟩ = some (.int .i64 m0) ∧ w'.cell? ⟨g6, 3, none⟩ = some (.slice A0 n0 c0) ∧ w'.cell? ⟨wr.heap.size, 0, none⟩ = some (.int .i64 2) ∧ w'.cell? ⟨wr.heap.size, 1, none⟩ = some (.string ⟨text.toArray⟩) ∧ w'.cell? ⟨wr.heap.size, 2, none⟩ = some (.int .i64 0) ∧ w'.cell? ⟨wr.heap.size, 3, none⟩ = some (.slice none 0 0))
            (first | go_keep | (refine ⟨?_, ?_, ?_, ?_, ?_, ?_, ?_, ?_, ?_⟩ <;> assumption))
            (first | (go_at_call 41; refine (pl_call _ _ _ _ _).mono ?_; rintro e w6 ⟨rfl, hb6⟩; have hW : Below wE.heap.size wE w6 := (((Below.refl _ wE).alloc (Nat.le_refl _) _).drew).trans (hb6.mono (by simp)); have HBB := Lib.hid (Blk.below (Blk.drew (Blk.new wE 31 _)) hb6 (by simp)); have o0 := (hW.cell (p := ⟨w.heap.size + 1, 0, none⟩) (Nat.lt_trans hl1 hzE)).trans p4; have o1 := (hW.cell (p := ⟨g6, 0, none⟩) (Nat.lt_trans hg6 hzE)).trans f00; have o2 := (hW.cell (p := ⟨g6, 1, none⟩) (Nat.lt_trans hg6 hzE)).trans f01; have o3 := (hW.cell (p := ⟨g6, 2, none⟩) (Nat.lt_trans hg6 hzE)).trans f02; have o4 := (hW.cell (p := ⟨g6, 3, none⟩) (Nat.lt_trans hg6 hzE)).trans f03; have o5 := (hW.cell (p := ⟨wr.heap.size, 0, none⟩) (hzE)).trans p0; have o6 := (hW.cell (p := ⟨wr.heap.size, 1, none⟩) (hzE)).trans p1; have o7 := (hW.cell (p := ⟨wr.heap.size, 2, none⟩) (hzE)).trans p2; have o8 := (hW.cell (p := ⟨wr.heap.size, 3, none⟩) (hzE)).trans p3; obtain ⟨y0, y1, y2, y3, v0, v1, v2, v3⟩ := blk4 (HER.out.below hW (Nat.lt_trans hl0 hzE))))
          have hz6 := HBB.out.lt
          have hb1 : Below wr.heap.size wr w6 := HEB.out.trans (hW.mono (Nat.le_of_lt hzE))
          have hn1 : NodeV w6 (fun i => w.heap.size < i ∧ i < w6.heap.size) τ0 [.int .i64 k0, .string t0, .int .i64 m0, .slice A0 n0 c0] := HN0.out.keep (fun i hi _ => hb1.block i hi.2) (fun i hi _ => ⟨hi.1, Nat.lt_of_lt_of_le hi.2 hb1.size⟩)
          have hn2 := node_call2 (F := fun i => w.heap.size < i ∧ i < w6.heap.size) (c := 2) HBB.out ⟨by omega, hz6⟩ hn1 (NodeV.leaf w6 _ 2 text 0) [102, 105, 110, 100]
          have HN2 := Lib.hid hn2
          have HBF := Lib.hid (HBW.out.trans (hb1.mono hwr))
          clear hn1 hn2 hb1
          go_wp2_with fail
          refine bodyPost_ret (v := .agg #[.int .i64 4, .string ⟨#[102, 105, 110, 100]⟩, .int .i64 0, .slice (some ⟨wE.heap.size, 0, none⟩) 2 2]) (by simp [results, Try.results26, go_sem, y0, y1, y2, y3]) rfl ?_
          have HNR := Lib.hid (show nodeR ⟨[102, 105, 110, 100], args, num, text, ty⟩ [τ0] = .node 4 [102, 105, 110, 100] 0 [τ0, .node 2 text 0 []] from rfl)
          rw [HTS.out, HNR.out]
          exact grEnd_mk HBF.out HN2.out
      have a1 : (op == [99, 111, 117, 110, 116]) = false := by simpa using fun h => d1 (.inl h)
      have a2 : (op == [104, 97, 115]) = false := by simpa using fun h => d1 (.inr (.inl h))
      have a3 : (op == [102, 105, 110, 100]) = false := by simpa using fun h => d1 (.inr (.inr h))
      by_cases d2 : op = [109, 97, 116, 99, 104, 101, 115]
      · subst d2
        have h1 : args.length = 1 := by
          have h := HF.out.len
          injection (HF.out.op.symm.trans (show opR _ = some ⟨[3], _, _, _⟩ from rfl)) with ho
          rw [ho] at h
          exact h
        obtain ⟨g6, c', cur, hv, hnc, hbg, hB, hsz, ht, _⟩ := own_full HOW.out (by omega)
        injection hv with hA _ hc
        subst hA hc
        obtain ⟨τ0, hτ0⟩ : ∃ τ0, τs = [τ0] := by
          match τs, (HLN.out.symm.trans h1) with
          | [x0], _ => exact ⟨x0, rfl⟩
        subst hτ0
        obtain ⟨k0, t0, m0, A0, n0, c0, hnd0, hcs0⟩ := HNS.out.at_ 0 τ0 rfl
        have hcell0 : ∀ (j : Nat) u, ([.int .i64 k0, .string t0, .int .i64 m0, .slice A0 n0 c0] : List Value)[j]? = some u → wr.cell? ⟨g6, 0 * 4 + j, none⟩ = some u := fun j u hj => by
          have h := hcs0 j u hj
          rw [← ht, List.getElem?_take] at h
          split at h
          · rw [hB.cell]; simpa using h
          · cases h
        have e00 := hcell0 0 _ rfl
        have e01 := hcell0 1 _ rfl
        have e02 := hcell0 2 _ rfl
        have e03 := hcell0 3 _ rfl
        have HN0 := Lib.hid (show NodeV wr (fun i => w.heap.size < i ∧ i < wr.heap.size) τ0 [.int .i64 k0, .string t0, .int .i64 m0, .slice A0 n0 c0] from NodeV.keep (w' := wr) (fun _ _ _ => rfl) (fun i h _ => ⟨h.1, h.2.1⟩) hnd0)
        clear hcell0 hcs0 hnd0
        simp only [Nat.zero_mul, Nat.zero_add, Nat.reduceAdd] at e00 e01 e02 e03
        have hg6 := hB.lt
        rw [h1]
        clear ht hB hnc hsz
        clear z1 z2 z3
        go_upto_region 22 with (fail)
        obtain ⟨wE, hwE⟩ : ∃ wE, wE = wr.alloc (.cells #[.int .i64 2, .string ⟨text.toArray⟩, .int .i64 0, .slice none 0 0] 31) := ⟨_, rfl⟩
        have HE := Lib.hid (show Blk wE wr.heap.size 31 #[.int .i64 2, .string ⟨text.toArray⟩, .int .i64 0, .slice none 0 0] by rw [hwE]; exact Blk.new _ _ _)
        have HER := Lib.hid (show Blk wE w.heap.size 31 #[.int .i64 0, .string ⟨#[]⟩, .int .i64 0, .slice none 0 0] by rw [hwE]; exact HR0.out.alloc _)
        have HEB := Lib.hid (show Below wr.heap.size wr wE by rw [hwE]; exact below_alloc _ _)
        have p4 := (HEB.out.cell (p := ⟨w.heap.size + 1, 0, none⟩) hl1).trans s0
        rw [← hwE]
        have hzE : wr.heap.size < wE.heap.size := HE.out.lt
        obtain ⟨p0, p1, p2, p3, _, _, _, _⟩ := blk4 HE.out
        have f00 := (HEB.out.cell (p := ⟨g6, 0, none⟩) hg6).trans e00
        have f01 := (HEB.out.cell (p := ⟨g6, 1, none⟩) hg6).trans e01
        have f02 := (HEB.out.cell (p := ⟨g6, 2, none⟩) hg6).trans e02
        have f03 := (HEB.out.cell (p := ⟨g6, 3, none⟩) hg6).trans e03
        clear hwE s0 s3 e00 e01 e02 e03
        have hq1 : ¬ (w.heap.size = g6) := by omega
        have hq2 : ¬ (g6 = w.heap.size) := by omega
        have hq3 : ¬ (w.heap.size = wr.heap.size) := by omega
        have hq4 : ¬ (wr.heap.size = w.heap.size) := by omega
        have tok1 : True := trivial
        go_region_held3 (fun w' => w'.cell? ⟨g6, 0, none⟩ = some (.int .i64 k0) ∧ w'.cell? ⟨g6, 1, none⟩ = some (.string t0) ∧ w'.cell? ⟨g6, 2, none⟩ = some (.int .i64 m0) ∧ w'.cell? ⟨g6, 3, none⟩ = some (.slice A0 n0 c0) ∧ w'.cell? ⟨wr.heap.size, 0, none⟩ = some (.int .i64 2) ∧ w'.cell? ⟨wr.heap.size, 1, none⟩ = some (.string ⟨text.toArray⟩) ∧ w'.cell? ⟨wr.heap.size, 2, none⟩ = some (.int .i64 0) ∧ w'.cell? ⟨wr.heap.size, 3, none⟩ = some (.slice none 0 0))
          (first | go_keep | (refine ⟨?_, ?_, ?_, ?_, ?_, ?_, ?_, ?_⟩ <;> assumption))
          (first | (go_at_call 41; have tk := tok1; refine (pl_call _ _ _ _ _).mono ?_; rintro e w6 ⟨rfl, hb6⟩; have hW : Below wE.heap.size wE w6 := (((Below.refl _ wE).alloc (Nat.le_refl _) _).drew).trans (hb6.mono (by simp)); have HBB := Lib.hid (Blk.below (Blk.drew (Blk.new wE 31 _)) hb6 (by simp)); have o0 := (hW.cell (p := ⟨g6, 0, none⟩) (Nat.lt_trans hg6 hzE)).trans f00; have o1 := (hW.cell (p := ⟨g6, 1, none⟩) (Nat.lt_trans hg6 hzE)).trans f01; have o2 := (hW.cell (p := ⟨g6, 2, none⟩) (Nat.lt_trans hg6 hzE)).trans f02; have o3 := (hW.cell (p := ⟨g6, 3, none⟩) (Nat.lt_trans hg6 hzE)).trans f03; have o4 := (hW.cell (p := ⟨wr.heap.size, 0, none⟩) (hzE)).trans p0; have o5 := (hW.cell (p := ⟨wr.heap.size, 1, none⟩) (hzE)).trans p1; have o6 := (hW.cell (p := ⟨wr.heap.size, 2, none⟩) (hzE)).trans p2; have o7 := (hW.cell (p := ⟨wr.heap.size, 3, none⟩) (hzE)).trans p3; have HER6 := Lib.hid (HER.out.below hW (Nat.lt_trans hl0 hzE)); clear tok1 tk) | (go_at_call 41; refine (pl_call _ _ _ _ _).mono ?_; rintro e w7 ⟨rfl, hb7⟩; have hW7 : Below w6.heap.size w6 w7 := ((Below.refl _ w6).alloc (Nat.le_refl _) _).trans (hb7.mono (by simp)); have HBC := Lib.hid (Blk.below (Blk.new w6 31 _) hb7 (by simp)); have u0 := (hW7.cell (p := ⟨g6, 0, none⟩) (Nat.lt_of_lt_of_le (Nat.lt_trans hg6 hzE) hW.size)).trans o0; have u1 := (hW7.cell (p := ⟨g6, 1, none⟩) (Nat.lt_of_lt_of_le (Nat.lt_trans hg6 hzE) hW.size)).trans o1; have u2 := (hW7.cell (p := ⟨g6, 2, none⟩) (Nat.lt_of_lt_of_le (Nat.lt_trans hg6 hzE) hW.size)).trans o2; have u3 := (hW7.cell (p := ⟨g6, 3, none⟩) (Nat.lt_of_lt_of_le (Nat.lt_trans hg6 hzE) hW.size)).trans o3; have u4 := (hW7.cell (p := ⟨wr.heap.size, 0, none⟩) (Nat.lt_of_lt_of_le (hzE) hW.size)).trans o4; have u5 := (hW7.cell (p := ⟨wr.heap.size, 1, none⟩) (Nat.lt_of_lt_of_le (hzE) hW.size)).trans o5; have u6 := (hW7.cell (p := ⟨wr.heap.size, 2, none⟩) (Nat.lt_of_lt_of_le (hzE) hW.size)).trans o6; have u7 := (hW7.cell (p := ⟨wr.heap.size, 3, none⟩) (Nat.lt_of_lt_of_le (hzE) hW.size)).trans o7; obtain ⟨y0, y1, y2, y3, v0, v1, v2, v3⟩ := blk4 (HER6.out.below hW7 HER6.out.lt)))
        have hz6 := HBB.out.lt
        have hz7 := HBC.out.lt
        have hz67 := hW7.size
        have hb1 : Below wr.heap.size wr w7 := (HEB.out.trans (hW.mono (Nat.le_of_lt hzE))).trans (hW7.mono (by have := HEB.out.size; have := hW.size; omega))
        have hn0 : NodeV w7 (fun i => w.heap.size < i ∧ i < w7.heap.size) τ0 [.int .i64 k0, .string t0, .int .i64 m0, .slice A0 n0 c0] := HN0.out.keep (fun i hi _ => hb1.block i hi.2) (fun i hi _ => ⟨hi.1, Nat.lt_of_lt_of_le hi.2 hb1.size⟩)
        have hf := node_call2 (F := fun i => w.heap.size < i ∧ i < w7.heap.size) (c := 2) (HBB.out.below hW7 hz6) ⟨by omega, by omega⟩ hn0 (NodeV.leaf w7 _ 2 text 0) [102, 105, 110, 100]
        have hn2 := node_calls (F := fun i => w.heap.size < i ∧ i < w7.heap.size) (c := 1) (m := 1) HBC.out ⟨by omega, by omega⟩ (NodeVs.one hf) (fun j u hj => by simpa using hj) rfl [115, 105, 122, 101]
        have HN2 := Lib.hid hn2
        have HBF := Lib.hid (HBW.out.trans (hb1.mono hwr))
        clear hn0 hf hn2 hb1
        go_wp2_with fail
        refine bodyPost_ret (v := .agg #[.int .i64 4, .string ⟨#[115, 105, 122, 101]⟩, .int .i64 0, .slice (some ⟨w6.heap.size, 0, none⟩) 1 1]) (by simp [results, Try.results26, go_sem, y0, y1, y2, y3]) rfl ?_
        have HNR := Lib.hid (show nodeR ⟨[109, 97, 116, 99, 104, 101, 115], args, num, text, ty⟩ [τ0] = .node 4 [115, 105, 122, 101] 0 [.node 4 [102, 105, 110, 100] 0 [τ0, .node 2 text 0 []]] from rfl)
        rw [HTS.out, HNR.out]
        exact grEnd_mk HBF.out HN2.out
      have bd2 : (op == [109, 97, 116, 99, 104, 101, 115]) = false := by simpa using d2
      by_cases d3 : op = [102, 105, 114, 115, 116, 102, 105, 110, 100]
      · subst d3
        have h1 : args.length = 2 := by
          have h := HF.out.len
          injection (HF.out.op.symm.trans (show opR _ = some ⟨[3, 1], _, _, _⟩ from rfl)) with ho
          rw [ho] at h
          exact h
        obtain ⟨g6, c', cur, hv, hnc, hbg, hB, hsz, ht, _⟩ := own_full HOW.out (by omega)
        injection hv with hA _ hc
        subst hA hc
        obtain ⟨τ0, τ1, hτ0⟩ : ∃ τ0 τ1, τs = [τ0, τ1] := by
          match τs, (HLN.out.symm.trans h1) with
          | [x0, x1], _ => exact ⟨x0, x1, rfl⟩
        subst hτ0
        obtain ⟨k0, t0, m0, A0, n0, c0, hnd0, hcs0⟩ := HNS.out.at_ 0 τ0 rfl
        have hcell0 : ∀ (j : Nat) u, ([.int .i64 k0, .string t0, .int .i64 m0, .slice A0 n0 c0] : List Value)[j]? = some u → wr.cell? ⟨g6, 0 * 4 + j, none⟩ = some u := fun j u hj => by
          have h := hcs0 j u hj
          rw [← ht, List.getElem?_take] at h
          split at h
          · rw [hB.cell]; simpa using h
          · cases h
        have e00 := hcell0 0 _ rfl
        have e01 := hcell0 1 _ rfl
        have e02 := hcell0 2 _ rfl
        have e03 := hcell0 3 _ rfl
        have HN0 := Lib.hid (show NodeV wr (fun i => w.heap.size < i ∧ i < wr.heap.size) τ0 [.int .i64 k0, .string t0, .int .i64 m0, .slice A0 n0 c0] from NodeV.keep (w' := wr) (fun _ _ _ => rfl) (fun i h _ => ⟨h.1, h.2.1⟩) hnd0)
        clear hcell0 hcs0 hnd0
        obtain ⟨k1, t1, m1, A1, n1, c1, hnd1, hcs1⟩ := HNS.out.at_ 1 τ1 rfl
        have hcell1 : ∀ (j : Nat) u, ([.int .i64 k1, .string t1, .int .i64 m1, .slice A1 n1 c1] : List Value)[j]? = some u → wr.cell? ⟨g6, 1 * 4 + j, none⟩ = some u := fun j u hj => by
          have h := hcs1 j u hj
          rw [← ht, List.getElem?_take] at h
          split at h
          · rw [hB.cell]; simpa using h
          · cases h
        have e10 := hcell1 0 _ rfl
        have e11 := hcell1 1 _ rfl
        have e12 := hcell1 2 _ rfl
        have e13 := hcell1 3 _ rfl
        have HN1 := Lib.hid (show NodeV wr (fun i => w.heap.size < i ∧ i < wr.heap.size) τ1 [.int .i64 k1, .string t1, .int .i64 m1, .slice A1 n1 c1] from NodeV.keep (w' := wr) (fun _ _ _ => rfl) (fun i h _ => ⟨h.1, h.2.1⟩) hnd1)
        clear hcell1 hcs1 hnd1
        simp only [Nat.zero_mul, Nat.zero_add, Nat.one_mul, Nat.reduceAdd] at e00 e01 e02 e03 e10 e11 e12 e13
        have hg6 := hB.lt
        rw [h1]
        clear ht hB hnc hsz
        clear z1 z2 z3
        go_upto_region 24 with (fail)
        obtain ⟨wE, hwE⟩ : ∃ wE, wE = wr.alloc (.cells #[.int .i64 2, .string ⟨text.toArray⟩, .int .i64 0, .slice none 0 0] 31) := ⟨_, rfl⟩
        have HE := Lib.hid (show Blk wE wr.heap.size 31 #[.int .i64 2, .string ⟨text.toArray⟩, .int .i64 0, .slice none 0 0] by rw [hwE]; exact Blk.new _ _ _)
        have HER := Lib.hid (show Blk wE w.heap.size 31 #[.int .i64 0, .string ⟨#[]⟩, .int .i64 0, .slice none 0 0] by rw [hwE]; exact HR0.out.alloc _)
        have HEB := Lib.hid (show Below wr.heap.size wr wE by rw [hwE]; exact below_alloc _ _)
        have p4 := (HEB.out.cell (p := ⟨w.heap.size + 1, 0, none⟩) hl1).trans s0
        rw [← hwE]
        have hzE : wr.heap.size < wE.heap.size := HE.out.lt
        obtain ⟨p0, p1, p2, p3, _, _, _, _⟩ := blk4 HE.out
        have f00 := (HEB.out.cell (p := ⟨g6, 0, none⟩) hg6).trans e00
        have f01 := (HEB.out.cell (p := ⟨g6, 1, none⟩) hg6).trans e01
        have f02 := (HEB.out.cell (p := ⟨g6, 2, none⟩) hg6).trans e02
        have f03 := (HEB.out.cell (p := ⟨g6, 3, none⟩) hg6).trans e03
        have f10 := (HEB.out.cell (p := ⟨g6, 4, none⟩) hg6).trans e10
        have f11 := (HEB.out.cell (p := ⟨g6, 5, none⟩) hg6).trans e11
        have f12 := (HEB.out.cell (p := ⟨g6, 6, none⟩) hg6).trans e12
        have f13 := (HEB.out.cell (p := ⟨g6, 7, none⟩) hg6).trans e13
        clear hwE s0 s3 e00 e01 e02 e03 e10 e11 e12 e13
        have hq1 : ¬ (w.heap.size = g6) := by omega
        have hq2 : ¬ (g6 = w.heap.size) := by omega
        have hq3 : ¬ (w.heap.size = wr.heap.size) := by omega
        have hq4 : ¬ (wr.heap.size = w.heap.size) := by omega
        have tok1 : True := trivial
        go_region_held3 (fun w' => w'.cell? ⟨g6, 0, none⟩ = some (.int .i64 k0) ∧ w'.cell? ⟨g6, 1, none⟩ = some (.string t0) ∧ w'.cell? ⟨g6, 2, none⟩ = some (.int .i64 m0) ∧ w'.cell? ⟨g6, 3, none⟩ = some (.slice A0 n0 c0) ∧ w'.cell? ⟨g6, 4, none⟩ = some (.int .i64 k1) ∧ w'.cell? ⟨g6, 5, none⟩ = some (.string t1) ∧ w'.cell? ⟨g6, 6, none⟩ = some (.int .i64 m1) ∧ w'.cell? ⟨g6, 7, none⟩ = some (.slice A1 n1 c1) ∧ w'.cell? ⟨wr.heap.size, 0, none⟩ = some (.int .i64 2) ∧ w'.cell? ⟨wr.heap.size, 1, none⟩ = some (.string ⟨text.toArray⟩) ∧ w'.cell? ⟨wr.heap.size, 2, none⟩ = some (.int .i64 0) ∧ w'.cell? ⟨wr.heap.size, 3, none⟩ = some (.slice none 0 0))
          (first | go_keep | (refine ⟨?_, ?_, ?_, ?_, ?_, ?_, ?_, ?_, ?_, ?_, ?_, ?_⟩ <;> assumption))
          (first | (go_at_call 41; have tk := tok1; refine (pl_call _ _ _ _ _).mono ?_; rintro e w6 ⟨rfl, hb6⟩; have hW : Below wE.heap.size wE w6 := (((Below.refl _ wE).alloc (Nat.le_refl _) _).drew).trans (hb6.mono (by simp)); have HBB := Lib.hid (Blk.below (Blk.drew (Blk.new wE 31 _)) hb6 (by simp)); have o0 := (hW.cell (p := ⟨g6, 0, none⟩) (Nat.lt_trans hg6 hzE)).trans f00; have o1 := (hW.cell (p := ⟨g6, 1, none⟩) (Nat.lt_trans hg6 hzE)).trans f01; have o2 := (hW.cell (p := ⟨g6, 2, none⟩) (Nat.lt_trans hg6 hzE)).trans f02; have o3 := (hW.cell (p := ⟨g6, 3, none⟩) (Nat.lt_trans hg6 hzE)).trans f03; have o4 := (hW.cell (p := ⟨g6, 4, none⟩) (Nat.lt_trans hg6 hzE)).trans f10; have o5 := (hW.cell (p := ⟨g6, 5, none⟩) (Nat.lt_trans hg6 hzE)).trans f11; have o6 := (hW.cell (p := ⟨g6, 6, none⟩) (Nat.lt_trans hg6 hzE)).trans f12; have o7 := (hW.cell (p := ⟨g6, 7, none⟩) (Nat.lt_trans hg6 hzE)).trans f13; have o8 := (hW.cell (p := ⟨wr.heap.size, 0, none⟩) (hzE)).trans p0; have o9 := (hW.cell (p := ⟨wr.heap.size, 1, none⟩) (hzE)).trans p1; have o10 := (hW.cell (p := ⟨wr.heap.size, 2, none⟩) (hzE)).trans p2; have o11 := (hW.cell (p := ⟨wr.heap.size, 3, none⟩) (hzE)).trans p3; have HER6 := Lib.hid (HER.out.below hW (Nat.lt_trans hl0 hzE)); clear tok1 tk) | (go_at_call 41; refine (pl_call _ _ _ _ _).mono ?_; rintro e w7 ⟨rfl, hb7⟩; have hW7 : Below w6.heap.size w6 w7 := ((Below.refl _ w6).alloc (Nat.le_refl _) _).trans (hb7.mono (by simp)); have HBC := Lib.hid (Blk.below (Blk.new w6 31 _) hb7 (by simp)); have u0 := (hW7.cell (p := ⟨g6, 0, none⟩) (Nat.lt_of_lt_of_le (Nat.lt_trans hg6 hzE) hW.size)).trans o0; have u1 := (hW7.cell (p := ⟨g6, 1, none⟩) (Nat.lt_of_lt_of_le (Nat.lt_trans hg6 hzE) hW.size)).trans o1; have u2 := (hW7.cell (p := ⟨g6, 2, none⟩) (Nat.lt_of_lt_of_le (Nat.lt_trans hg6 hzE) hW.size)).trans o2; have u3 := (hW7.cell (p := ⟨g6, 3, none⟩) (Nat.lt_of_lt_of_le (Nat.lt_trans hg6 hzE) hW.size)).trans o3; have u4 := (hW7.cell (p := ⟨g6, 4, none⟩) (Nat.lt_of_lt_of_le (Nat.lt_trans hg6 hzE) hW.size)).trans o4; have u5 := (hW7.cell (p := ⟨g6, 5, none⟩) (Nat.lt_of_lt_of_le (Nat.lt_trans hg6 hzE) hW.size)).trans o5; have u6 := (hW7.cell (p := ⟨g6, 6, none⟩) (Nat.lt_of_lt_of_le (Nat.lt_trans hg6 hzE) hW.size)).trans o6; have u7 := (hW7.cell (p := ⟨g6, 7, none⟩) (Nat.lt_of_lt_of_le (Nat.lt_trans hg6 hzE) hW.size)).trans o7; have u8 := (hW7.cell (p := ⟨wr.heap.size, 0, none⟩) (Nat.lt_of_lt_of_le (hzE) hW.size)).trans o8; have u9 := (hW7.cell (p := ⟨wr.heap.size, 1, none⟩) (Nat.lt_of_lt_of_le (hzE) hW.size)).trans o9; have u10 := (hW7.cell (p := ⟨wr.heap.size, 2, none⟩) (Nat.lt_of_lt_of_le (hzE) hW.size)).trans o10; have u11 := (hW7.cell (p := ⟨wr.heap.size, 3, none⟩) (Nat.lt_of_lt_of_le (hzE) hW.size)).trans o11; obtain ⟨y0, y1, y2, y3, v0, v1, v2, v3⟩ := blk4 (HER6.out.below hW7 HER6.out.lt)))
        have hz6 := HBB.out.lt
        have hz7 := HBC.out.lt
        have hz67 := hW7.size
        have hb1 : Below wr.heap.size wr w7 := (HEB.out.trans (hW.mono (Nat.le_of_lt hzE))).trans (hW7.mono (by have := HEB.out.size; have := hW.size; omega))
        have hn0 : NodeV w7 (fun i => w.heap.size < i ∧ i < w7.heap.size) τ0 [.int .i64 k0, .string t0, .int .i64 m0, .slice A0 n0 c0] := HN0.out.keep (fun i hi _ => hb1.block i hi.2) (fun i hi _ => ⟨hi.1, Nat.lt_of_lt_of_le hi.2 hb1.size⟩)
        have hn1 : NodeV w7 (fun i => w.heap.size < i ∧ i < w7.heap.size) τ1 [.int .i64 k1, .string t1, .int .i64 m1, .slice A1 n1 c1] := HN1.out.keep (fun i hi _ => hb1.block i hi.2) (fun i hi _ => ⟨hi.1, Nat.lt_of_lt_of_le hi.2 hb1.size⟩)
        have hf := node_call2 (F := fun i => w.heap.size < i ∧ i < w7.heap.size) (c := 2) (HBB.out.below hW7 hz6) ⟨by omega, by omega⟩ hn0 (NodeV.leaf w7 _ 2 text 0) [102, 105, 110, 100]
        have hn2 := node_call2 (F := fun i => w.heap.size < i ∧ i < w7.heap.size) (c := 2) HBC.out ⟨by omega, by omega⟩ hf hn1 [102, 105, 114, 115, 116]
        have HN2 := Lib.hid hn2
        have HBF := Lib.hid (HBW.out.trans (hb1.mono hwr))
        clear hn0 hn1 hf hn2 hb1
        go_wp2_with fail
        refine bodyPost_ret (v := .agg #[.int .i64 4, .string ⟨#[102, 105, 114, 115, 116]⟩, .int .i64 0, .slice (some ⟨w6.heap.size, 0, none⟩) 2 2]) (by simp [results, Try.results26, go_sem, y0, y1, y2, y3]) rfl ?_
        have HNR := Lib.hid (show nodeR ⟨[102, 105, 114, 115, 116, 102, 105, 110, 100], args, num, text, ty⟩ [τ0, τ1] = .node 4 [102, 105, 114, 115, 116] 0 [.node 4 [102, 105, 110, 100] 0 [τ0, .node 2 text 0 []], τ1] from rfl)
        rw [HTS.out, HNR.out]
        exact grEnd_mk HBF.out HN2.out
      have bd3 : (op == [102, 105, 114, 115, 116, 102, 105, 110, 100]) = false := by simpa using d3
      by_cases d4 : op = [108, 101, 110, 99, 117, 116]
      · subst d4
        have h1 : args.length = 3 := by
          have h := HF.out.len
          injection (HF.out.op.symm.trans (show opR _ = some ⟨[3, 1, 1], _, _, _⟩ from rfl)) with ho
          rw [ho] at h
          exact h
        clear z1 z2 z3
        have HER := Lib.hid (HR0.out.alloc (.cells #[.int .i64 2, .string ⟨text.toArray⟩, .int .i64 0, .slice none 0 0] 31))
        have HEB := Lib.hid (below_alloc wr (.cells #[.int .i64 2, .string ⟨text.toArray⟩, .int .i64 0, .slice none 0 0] 31))
        go_wp2_with fail
        refine (pl_call _ _ _ _ _).mono ?_
        rintro e w6 ⟨rfl, hb6⟩
        have hW : Below wr.heap.size wr w6 := HEB.out.trans (hb6.mono (by simp))
        have HER6 := Lib.hid (HER.out.below hb6 (by simp; omega))
        have HW := Lib.hid hW
        have hz6 := hW.size
        clear hb6 hW
        go_wp2_with fail
        refine (pl_call _ _ _ _ _).mono ?_
        rintro e w7 ⟨rfl, hb7⟩
        have hW7 : Below w6.heap.size w6 w7 := ((Below.refl _ w6).alloc (Nat.le_refl _) _).trans (hb7.mono (by simp))
        have HBC := Lib.hid (Blk.below (Blk.new w6 31 _) hb7 (by simp))
        obtain ⟨y0, y1, y2, y3, v0, v1, v2, v3⟩ := blk4 (HER6.out.below hW7 HER6.out.lt)
        have hz7 := HBC.out.lt
        have hb1 : Below wr.heap.size wr w7 := HW.out.trans (hW7.mono hz6)
        have hf := row_node HOW.out HNS.out HLN.out hb1 [99, 117, 116]
        rw [h1] at hf
        have hn2 := node_calls (F := fun i => w.heap.size < i ∧ i < w7.heap.size) (c := 1) (m := 1) HBC.out ⟨by omega, by omega⟩ (NodeVs.one hf) (fun j u hj => by simpa using hj) rfl [108, 101, 110]
        have HN2 := Lib.hid hn2
        have HBF := Lib.hid (HBW.out.trans (hb1.mono hwr))
        clear hf hn2 hb1 hb7 hW7
        go_wp2_with fail
        refine bodyPost_ret (v := .agg #[.int .i64 4, .string ⟨#[108, 101, 110]⟩, .int .i64 0, .slice (some ⟨w6.heap.size, 0, none⟩) 1 1]) (by simp [results, Try.results26, go_sem, y0, y1, y2, y3]) rfl ?_
        have HNR := Lib.hid (show nodeR ⟨[108, 101, 110, 99, 117, 116], args, num, text, ty⟩ τs = .node 4 [108, 101, 110] 0 [.node 4 [99, 117, 116] 0 τs] from rfl)
        rw [HTS.out, HNR.out]
        exact grEnd_mk HBF.out HN2.out
      have bd4 : (op == [108, 101, 110, 99, 117, 116]) = false := by simpa using d4
      have HER := Lib.hid (HR0.out.alloc (.cells #[.int .i64 2, .string ⟨text.toArray⟩, .int .i64 0, .slice none 0 0] 31))
      have HEB := Lib.hid (below_alloc wr (.cells #[.int .i64 2, .string ⟨text.toArray⟩, .int .i64 0, .slice none 0 0] 31))
      go_wp2_with fail
      refine (pl_call _ _ _ _ _).mono ?_
      rintro e w6 ⟨rfl, hb6⟩
      have hb1 : Below wr.heap.size wr w6 := HEB.out.trans (hb6.mono (by simp))
      obtain ⟨y0, y1, y2, y3, v0, v1, v2, v3⟩ := blk4 (HER.out.below hb6 (by simp; omega))
      have hf := row_node HOW.out HNS.out HLN.out hb1 op
      have HNR := Lib.hid (show nodeR ⟨op, args, num, text, ty⟩ τs = .node 4 op 0 τs by
        have hk := HK.out
        unfold nodeR
        dsimp only
        rw [if_neg (fun h => hk (.inl h)), if_neg (fun h => hk (.inr (.inl h))), if_neg (fun h => hk (.inr (.inr h))), if_neg (show ¬ (op = nCount ∨ op = nHas ∨ op = nFind) from d1), if_neg (show ¬ op = nMatches from d2), if_neg (show ¬ op = nFirstfind from d3), if_neg (show ¬ op = nLencut from d4)])
      have HN2 := Lib.hid hf
      have HBF := Lib.hid (HBW.out.trans (hb1.mono hwr))
      clear hf hb1 hb6 d1 d2 d3 d4
      go_wp2_with fail
      refine bodyPost_ret (v := .agg #[.int .i64 4, .string ⟨op.toArray⟩, .int .i64 0, .slice A6 args.length c6]) (by simp [results, Try.results26, go_sem, y0, y1, y2, y3]) rfl ?_
      rw [HTS.out, HNR.out]
      exact grEnd_mk HBF.out HN2.out
/-- The tree that grow makes of a step of a plan. -/
theorem grow_any (A : Option Addr) (c : Nat) (l : List St) (hc : checkR l = 0) (hm : Modest l) : ∀ (i : Nat) (w : World), i < l.length → PlAt w (fun i => i < w.heap.size) A l → Calls Try.prog 26 #[.slice A l.length c, .int .i64 i] w (GrEnd w (growR l i)) := by
  have hz := (checkR_zero hc).2.2
  have hback := checkR_back hc
  intro i
  induction i using Nat.strongRecOn with
  | _ i ih =>
    intro w hi hP
    have hs : l[i]? = some l[i] := List.getElem?_eq_getElem hi
    rw [growR_eq hback hs]
    by_cases hk : l[i].op = nNumber ∨ l[i].op = nString ∨ l[i].op = nRef
    · have := grow_leaf A c l i l[i] w hs hP hm.1 hk
      have he : nodeR l[i] (l[i].args.map fun a => growR l a.toNat) = nodeR l[i] [] := by
        unfold nodeR
        rcases hk with h | h | h
        · rw [if_pos h, if_pos h]
        · by_cases h1 : l[i].op = nNumber
          · rw [if_pos h1, if_pos h1]
          · rw [if_neg h1, if_neg h1, if_pos h, if_pos h]
        · by_cases h1 : l[i].op = nNumber
          · rw [if_pos h1, if_pos h1]
          · by_cases h2 : l[i].op = nString
            · rw [if_neg h1, if_neg h1, if_pos h2, if_pos h2]
            · rw [if_neg h1, if_neg h1, if_neg h2, if_neg h2, if_pos h, if_pos h]
      rw [he]
      exact this
    · obtain ⟨o, ho⟩ := stepE_zero (hz i l[i] hs)
      exact grow_call A c l i l[i] w hs hP hm.1 (show l[i].args.length ≤ 100000 by have := opR_small ho.op; have := ho.len; omega) hk ho.back (fun j wj hj hPj => ih j hj wj (by omega) hPj) o ho
end Go.Proofs.Ytniefnjcimempaa
namespace Go.Proofs.Ytniefnjcimempaa
open Go.RowKit
theorem run_make_rowN {P : Program} (t e : TypeId) (i : TypeInfo) (z : Value) (ht : P.underlying t = some (.slice e)) (hi : P.info? e = some i) (hz : i.zero = some z)
    (kl kc : IntKind) (n c : Nat) (hnc : n ≤ c) (hbytes : i.bytes * c ≤ 281474976710656) (h63 : c ≤ 9223372036854775807) (w : World) :
    (Instr.makeSlice t (.int kl (n : Int)) (.int kc (c : Int))).run P w = .ok (.slice (some ⟨w.heap.size, 0, none⟩) n c) (w.alloc (.cells (madeCells z.cells (c * i.size)) e)) := by
  have hb : (i.bytes : Int) * (c : Int) ≤ 281474976710656 := by
    have h : ((i.bytes * c : Nat) : Int) ≤ 281474976710656 := by omega
    rwa [Int.natCast_mul] at h
  have hr := run_make (P := P) w t e i z ht hi hz kl kc n c (by omega) (by omega) hb (by omega)
  simp only [Int.toNat_natCast] at hr
  exact hr
theorem made_ints (n : Nat) : madeCells (Value.int .i64 0).cells (n * 1) = ((List.replicate n (0 : Int)).map (Value.int .i64)).toArray := by
  rw [Nat.mul_one]
  apply Array.ext
  · simp [size_madeCells]
  · intro i h1 h2
    simp [madeCells, Value.cells, Nat.mod_one]
/-- The sizes of the first k steps' trees. -/
def zk (l : List St) (k : Nat) : List Int := sizesF [] (l.take k)
theorem sizesF_append : ∀ (t t' : List St) (z : List Int), sizesF z (t ++ t') = sizesF (sizesF z t) t'
  | [], _, _ => rfl
  | x :: t, t', z => by rw [List.cons_append, sizesF, sizesF, sizesF_append t t']
theorem sizesF_length : ∀ (t : List St) (z : List Int), (sizesF z t).length = z.length + t.length
  | [], z => by simp [sizesF]
  | x :: t, z => by rw [sizesF, sizesF_length t]; simp; omega
theorem zk_length {l : List St} {k : Nat} (h : k ≤ l.length) : (zk l k).length = k := by unfold zk; rw [sizesF_length]; simp; omega
theorem zk_succ {l : List St} {k : Nat} {s : St} (h : l[k]? = some s) : zk l (k + 1) = zk l k ++ [min (baseN s.op + sumAt (zk l k) s.args) 4097] := by
  unfold zk
  rw [List.take_add_one, h, show (some s).toList = [s] from rfl, sizesF_append]
  rfl
theorem zk_all (l : List St) : zk l l.length = sizesR l := by unfold zk sizesR; rw [List.take_length]
theorem baseN_bd (n : List UInt8) : 1 ≤ baseN n ∧ baseN n ≤ 3 := by
  unfold baseN
  split
  · omega
  split <;> omega
theorem sumAt_bd {z : List Int} (hz : ∀ x ∈ z, 0 ≤ x ∧ x ≤ 4097) : ∀ args : List Int, 0 ≤ sumAt z args ∧ sumAt z args ≤ 4097 * args.length
  | [] => by simp [sumAt]
  | a :: args => by
    have h1 := sumAt_bd hz args
    unfold sumAt at h1 ⊢
    rw [List.map_cons, List.sum_cons, List.length_cons]
    have h2 : 0 ≤ z.getD a.toNat 0 ∧ z.getD a.toNat 0 ≤ 4097 := by
      rw [List.getD_eq_getElem?_getD]
      cases h : z[a.toNat]? with
      | none => simp
      | some x => exact hz x (List.mem_of_getElem? h)
    omega
theorem sizesF_bd : ∀ (t : List St) (z : List Int), (∀ x ∈ z, 0 ≤ x ∧ x ≤ 4097) → ∀ x ∈ sizesF z t, 0 ≤ x ∧ x ≤ 4097
  | [], z, h, x, hx => h x hx
  | s :: t, z, h, x, hx => by
    rw [sizesF] at hx
    refine sizesF_bd t _ (fun y hy => ?_) x hx
    rcases List.mem_append.1 hy with hy | hy
    · exact h y hy
    · rw [List.mem_singleton] at hy
      have := sumAt_bd h s.args
      have := baseN_bd s.op
      omega
theorem zk_bd (l : List St) (k : Nat) : ∀ x ∈ zk l k, 0 ≤ x ∧ x ≤ 4097 := sizesF_bd _ _ (fun x hx => by cases hx)
theorem sumAt_snoc (z args : List Int) (a : Int) : sumAt z (args ++ [a]) = sumAt z args + z.getD a.toNat 0 := by unfold sumAt; simp
def zarr (l : List St) (k : Nat) : Array Value := ((zk l k ++ List.replicate (l.length - k) 0).map (Value.int .i64)).toArray
theorem zarr_zero (l : List St) : zarr l 0 = ((List.replicate l.length (0 : Int)).map (Value.int .i64)).toArray := by unfold zarr zk; simp [sizesF]
theorem zarr_get {l : List St} {k a : Nat} (hk : k ≤ l.length) (ha : a < k) : (zarr l k)[a]? = some (.int .i64 ((zk l k).getD a 0)) := by
  have hl := zk_length hk
  unfold zarr
  rw [List.getElem?_toArray, List.getElem?_map, List.getElem?_append_left (by omega), List.getD_eq_getElem?_getD, List.getElem?_eq_getElem (by omega)]
  rfl
theorem zarr_at {l : List St} {k : Nat} (hk : k < l.length) : (zarr l k)[k]? = some (.int .i64 0) := by
  have hl := zk_length (Nat.le_of_lt hk)
  unfold zarr
  rw [List.getElem?_toArray, List.getElem?_map, List.getElem?_append_right (by omega), hl, Nat.sub_self, List.getElem?_replicate, if_pos (by omega)]
  rfl
theorem zarr_size {l : List St} {k : Nat} (hk : k ≤ l.length) : (zarr l k).size = l.length := by
  have hl := zk_length hk
  unfold zarr; simp; omega
theorem zarr_set {l : List St} {k : Nat} {s : St} (hs : l[k]? = some s) : (zarr l k).setIfInBounds k (.int .i64 (min (baseN s.op + sumAt (zk l k) s.args) 4097)) = zarr l (k + 1) := by
  have hk := (List.getElem?_eq_some_iff.1 hs).1
  have hl := zk_length (Nat.le_of_lt hk)
  unfold zarr
  rw [zk_succ hs]
  obtain ⟨m, hm⟩ : ∃ m, l.length - k = m + 1 := ⟨l.length - k - 1, by omega⟩
  rw [hm, show l.length - (k + 1) = m by omega, List.replicate_succ, List.setIfInBounds_toArray]
  congr 1
  rw [List.map_append, List.set_append_right _ _ (by simp; omega), List.length_map, hl, Nat.sub_self]
  simp
/-- What Tree answers. -/
def TreeEnd (w : World) (l : List St) (e : Ending) (w' : World) : Prop := Below w.heap.size w w' ∧
  if checkR l ≠ 0 then e = .returned (.tuple #[.agg #[.int .i64 0, .string ⟨#[]⟩, .int .i64 0, .slice none 0 0], errV (checkR l)])
  else if 4096 < (sizesR l).getD (l.length - 1) 0 then e = .returned (.tuple #[.agg #[.int .i64 0, .string ⟨#[]⟩, .int .i64 0, .slice none 0 0], errV 9])
  else ∃ cs, e = .returned (.tuple #[.agg cs.toArray, .nilIface]) ∧ NodeV w' (fun i => w.heap.size ≤ i ∧ i < w'.heap.size) (growR l (l.length - 1)) cs
def TrRel (w : World) (l : List St) (A : Option Addr) (c G : Nat) (f : Nat) (i : Value) (wr : World) : Prop := ∃ k : Nat, i = .int .i64 k ∧ k ≤ l.length ∧ l.length - k < f ∧ Hid (Blk wr G 3 (zarr l k)) ∧ Hid (Blk wr w.heap.size 28 #[.slice A l.length c]) ∧
  Hid (Blk wr (w.heap.size + 1) 31 #[.int .i64 0, .string ⟨#[]⟩, .int .i64 0, .slice none 0 0]) ∧ w.heap.size + 1 < G ∧ Hid (Below w.heap.size w wr)
def InRel (wo : World) (z args : List Int) (b : Int) (f : Nat) (i v : Value) (wr : World) : Prop := ∃ j : Nat, i = .int .i64 j ∧ j ≤ args.length ∧ args.length - j < f ∧ v = .int .i64 (b + sumAt z (args.take j)) ∧ wo = wr
set_option maxRecDepth 100000 in
set_option maxHeartbeats 8000000 in
theorem Tree_any (A : Option Addr) (c : Nat) (l : List St) (w : World) (hP : PlAt w (fun i => i < w.heap.size) A l) (hm : Modest l) :
    Calls Try.prog 10 #[.agg #[.slice A l.length c]] w (TreeEnd w l) := by
  have hn := hm.1
  obtain ⟨i0, hinf, hz0, hz1, hz2⟩ := info_parts infoInt
  have hmk : ∀ W : World, (Instr.makeSlice 23 (.int .i64 (l.length : Int)) (.int .i64 (l.length : Int))).run Try.prog W = .ok (.slice (some ⟨W.heap.size, 0, none⟩) l.length l.length) (W.alloc (.cells (zarr l 0) 3)) := fun W => by
    have h := run_make_rowN (P := Try.prog) 23 3 i0 (.int .i64 0) Try.underlying23 hinf hz0 .i64 .i64 l.length l.length (Nat.le_refl _) (by rw [hz2]; omega) (by omega) W
    rw [hz1, made_ints, ← zarr_zero] at h
    exact h
  have HMK := Lib.hid hmk
  have HP := Lib.hid hP
  have HM := Lib.hid hm
  obtain ⟨W0, hW0⟩ : ∃ W0, W0 = (w.alloc (.cells #[.slice A l.length c] 28)).alloc (.cells #[.int .i64 0, .string ⟨#[]⟩, .int .i64 0, .slice none 0 0] 31) := ⟨_, rfl⟩
  have hb0 : Below w.heap.size w W0 := by rw [hW0]; exact (below_alloc w _).alloc (by simp) _
  have hck := Check_any A c l W0 (hP.below hb0) hm
  have HX0 := Lib.hid (show Blk W0 w.heap.size 28 #[.slice A l.length c] by rw [hW0]; exact (Blk.new _ _ _).alloc _)
  have HR0 := Lib.hid (show Blk W0 (w.heap.size + 1) 31 #[.int .i64 0, .string ⟨#[]⟩, .int .i64 0, .slice none 0 0] by
    rw [hW0]
    have := Blk.new (w.alloc (.cells #[.slice A l.length c] 28)) 31 #[.int .i64 0, .string ⟨#[]⟩, .int .i64 0, .slice none 0 0]
    simpa using this)
  have HB0 := Lib.hid hb0
  rw [hW0] at hck
  have HCK := Lib.hid hck
  have HW0 := Lib.hid hW0
  clear hP hck hm hb0 hinf hz0 hz1 hz2 hmk hW0
  go_enter Try.func10, Try.ntmps10
  go_wp2_with fail
  refine HCK.out.mono ?_
  rintro e w1 ⟨rfl, hb1⟩
  rw [← HW0.out] at hb1
  have HB1 := Lib.hid (HB0.out.trans (hb1.mono HB0.out.size))
  have HX1 := Lib.hid (HX0.out.below hb1 HX0.out.lt)
  have HR1 := Lib.hid (HR0.out.below hb1 HR0.out.lt)
  clear hb1
  have s0 := HX1.out.cell 0
  simp only [List.getElem?_toArray, List.getElem?_cons_zero] at s0
  obtain ⟨r0, r1, r2, r3, f0, f1, f2, f3⟩ := blk4 HR1.out
  have hl0 := HX1.out.lt
  have hl1 := HR1.out.lt
  by_cases hE : checkR l = 0
  · have HE := Lib.hid hE
    have hv : errV (checkR l) = .nilIface := by rw [hE]; rfl
    have hmk := HMK.out
    rw [hv]
    clear hE hv
    go_wp2_with fail
    clear hmk s0 r0 r1 r2 r3 f0 f1 f2 f3
    go_loopg [25, 6, 7, 8, 10, 31, 32, 37, 43] (l.length + 1) (fun f i _ _ _ _ _ _ _ _ wr => TrRel w l A c w1.heap.size f i wr)
    case atStart => exact ⟨0, rfl, by omega, by omega, Lib.hid (Blk.new w1 _ _), Lib.hid (HX1.out.alloc _), Lib.hid (HR1.out.alloc _), hl1, Lib.hid (HB1.out.alloc (by omega) _)⟩
    case round =>
      obtain ⟨wo, rfl⟩ : ∃ wo : World, wo = wr := ⟨_, rfl⟩
      obtain ⟨k, rfl, hk, hkf, HG, HX, HR, hgl, HBW⟩ := hrel
      obtain ⟨f, rfl⟩ : ∃ f, gk = f + 1 := ⟨gk - 1, by omega⟩
      by_cases hlt : k < l.length
      · obtain ⟨s, hs⟩ : ∃ s, l[k]? = some s := ⟨l[k], List.getElem?_eq_getElem hlt⟩
        obtain ⟨b, ob, As, cs, rfl, hbF, hbl, x0, x1, x2, x3, x4, har⟩ := (HP.out.at_ HBW.out).step hs
        obtain ⟨o, ho⟩ := stepE_zero ((checkR_zero HE.out).2.2 k s hs)
        have hal : s.args.length ≤ 3 := by rw [ho.len]; exact opR_small ho.op
        have hbk := ho.back
        have hset := zarr_set hs
        have hbd := zk_bd l k
        have hbs := baseN_bd s.op
        have q0 : (k : Int) < (l.length : Int) := by omega
        have q1 : (0 : Int) ≤ (k : Int) := by omega
        have HS := Lib.hid hs
        have HAR := Lib.hid har
        have HBK := Lib.hid hbk
        have HSET := Lib.hid hset
        have HBD := Lib.hid hbd
        have HLT := HG.out.lt
        obtain ⟨op, args, num, text, ty⟩ := s
        dsimp only at x0 x1 x2 x3 x4 hal hbs HAR HBK HSET
        clear hs har ho hbk hset hbd
        -- WAYS
        by_cases d0 : op = [99, 111, 117, 110, 116]
        · subst d0
          go_wp2_with fail
          go_loopg [43, 8, 10] (args.length + 1) (fun f i v _ wr => InRel (wo.alloc (.cells #[.string ⟨#[99, 111, 117, 110, 116]⟩, .slice As args.length cs, .int .i64 num, .string ⟨text.toArray⟩, .int .i64 ty] 25)) (zk l k) args 2 f i v wr)
          case atStart => exact ⟨0, rfl, by omega, by omega, rfl, rfl⟩
          case round =>
            clear x0 x1 x2 x3 x4
            obtain ⟨j, rfl, hj, hjf, rfl, rfl⟩ := hrel
            obtain ⟨f2, rfl⟩ : ∃ f2, gk = f2 + 1 := ⟨gk - 1, by omega⟩
            have hsj := sumAt_bd HBD.out (args.take j)
            have hlj : (args.take j).length ≤ j := List.length_take_le _ _
            by_cases hjl : j < args.length
            · obtain ⟨a, ha⟩ : ∃ a, args[j]? = some a := ⟨args[j], List.getElem?_eq_getElem hjl⟩
              have hbk := HBK.out a (List.mem_of_getElem? ha)
              obtain ⟨m, rfl⟩ := natInt hbk.1
              obtain ⟨ba, oa, rfl, hba', hba, hca⟩ := RdF.int HAR.out ha
              have hwo := HBW.out.size
              have hba : ba < wo.heap.size := by have hb' : ba < w.heap.size := hba'; omega
              have hm : m < k := by omega
              have y1 := hca
              have y2 : wo.cell? ⟨w1.heap.size, m, none⟩ = some (.int .i64 ((zk l k).getD m 0)) := by rw [HG.out.cell]; exact zarr_get hk hm
              have hx : 0 ≤ (zk l k).getD m 0 ∧ (zk l k).getD m 0 ≤ 4097 := by
                rw [List.getD_eq_getElem?_getD]
                cases h : (zk l k)[m]? with
                | none => simp
                | some x => exact HBD.out x (List.mem_of_getElem? h)
              have htk : sumAt (zk l k) (args.take (j + 1)) = sumAt (zk l k) (args.take j) + (zk l k).getD m 0 := by rw [List.take_add_one, ha]; exact sumAt_snoc _ _ _
              have HTK := Lib.hid htk
              generalize (zk l k).getD m 0 = x at *
              generalize sumAt (zk l k) (args.take j) = sj at *
              have hj3 : j ≤ 3 := by omega
              have w1' := IntWalk.i64_in (2 + sj + x) (by omega)
              have p0 : (j : Int) < (args.length : Int) := by omega
              have p1 : (0 : Int) ≤ (j : Int) := by omega
              have p2 : (m : Int) < (l.length : Int) := by omega
              have p3 : (0 : Int) ≤ (m : Int) := by omega
              clear ha hbk hx htk hca
              go_wp2_with fail
              go_roundg f2
              case measure => omega
              case rel => exact ⟨j + 1, by go_num, by omega, by omega, by rw [HTK.out, ← Int.add_assoc], rfl⟩
            · have hjs : j = args.length := by omega
              subst hjs
              rw [List.take_length] at hsj ⊢
              have hset := HSET.out
              rw [show baseN [99, 111, 117, 110, 116] = 2 by rfl] at hset
              have HSET := Lib.hid hset
              have y2 : wo.cell? ⟨w1.heap.size, k, none⟩ = some (.int .i64 0) := by rw [HG.out.cell]; exact zarr_at hlt
              have y3 := HG.out.frozen k
              clear hset
              generalize hsm : sumAt (zk l k) args = sj at *
              go_wp2_with fail
              go_roundg f
              case measure => omega
              case rel =>
                have hwo := HBW.out.size
                refine ⟨k + 1, by go_num, by omega, by omega, Lib.hid ?_, Lib.hid ((HX.out.far (p := ⟨w1.heap.size, k, none⟩) (by show w.heap.size ≠ w1.heap.size; omega) _).alloc _), Lib.hid ((HR.out.far (p := ⟨w1.heap.size, k, none⟩) (by show w.heap.size + 1 ≠ w1.heap.size; omega) _).alloc _), hgl, Lib.hid ((HBW.out.setCell (p := ⟨w1.heap.size, k, none⟩) (by show w.heap.size ≤ w1.heap.size; omega) _).alloc (by simp; omega) _)⟩
                rw [← HSET.out]
                exact (HG.out.set_ k _).alloc _
        have e0 : (op == [99, 111, 117, 110, 116]) = false := by simpa using d0
        by_cases d1 : op = [104, 97, 115]
        · subst d1
          go_wp2_with fail
          go_loopg [43, 8, 10] (args.length + 1) (fun f i v _ wr => InRel (wo.alloc (.cells #[.string ⟨#[104, 97, 115]⟩, .slice As args.length cs, .int .i64 num, .string ⟨text.toArray⟩, .int .i64 ty] 25)) (zk l k) args 2 f i v wr)
          case atStart => exact ⟨0, rfl, by omega, by omega, rfl, rfl⟩
          case round =>
            clear x0 x1 x2 x3 x4
            obtain ⟨j, rfl, hj, hjf, rfl, rfl⟩ := hrel
            obtain ⟨f2, rfl⟩ : ∃ f2, gk = f2 + 1 := ⟨gk - 1, by omega⟩
            have hsj := sumAt_bd HBD.out (args.take j)
            have hlj : (args.take j).length ≤ j := List.length_take_le _ _
            by_cases hjl : j < args.length
            · obtain ⟨a, ha⟩ : ∃ a, args[j]? = some a := ⟨args[j], List.getElem?_eq_getElem hjl⟩
              have hbk := HBK.out a (List.mem_of_getElem? ha)
              obtain ⟨m, rfl⟩ := natInt hbk.1
              obtain ⟨ba, oa, rfl, hba', hba, hca⟩ := RdF.int HAR.out ha
              have hwo := HBW.out.size
              have hba : ba < wo.heap.size := by have hb' : ba < w.heap.size := hba'; omega
              have hm : m < k := by omega
              have y1 := hca
              have y2 : wo.cell? ⟨w1.heap.size, m, none⟩ = some (.int .i64 ((zk l k).getD m 0)) := by rw [HG.out.cell]; exact zarr_get hk hm
              have hx : 0 ≤ (zk l k).getD m 0 ∧ (zk l k).getD m 0 ≤ 4097 := by
                rw [List.getD_eq_getElem?_getD]
                cases h : (zk l k)[m]? with
                | none => simp
                | some x => exact HBD.out x (List.mem_of_getElem? h)
              have htk : sumAt (zk l k) (args.take (j + 1)) = sumAt (zk l k) (args.take j) + (zk l k).getD m 0 := by rw [List.take_add_one, ha]; exact sumAt_snoc _ _ _
              have HTK := Lib.hid htk
              generalize (zk l k).getD m 0 = x at *
              generalize sumAt (zk l k) (args.take j) = sj at *
              have hj3 : j ≤ 3 := by omega
              have w1' := IntWalk.i64_in (2 + sj + x) (by omega)
              have p0 : (j : Int) < (args.length : Int) := by omega
              have p1 : (0 : Int) ≤ (j : Int) := by omega
              have p2 : (m : Int) < (l.length : Int) := by omega
              have p3 : (0 : Int) ≤ (m : Int) := by omega
              clear ha hbk hx htk hca
              go_wp2_with fail
              go_roundg f2
              case measure => omega
              case rel => exact ⟨j + 1, by go_num, by omega, by omega, by rw [HTK.out, ← Int.add_assoc], rfl⟩
            · have hjs : j = args.length := by omega
              subst hjs
              rw [List.take_length] at hsj ⊢
              have hset := HSET.out
              rw [show baseN [104, 97, 115] = 2 by rfl] at hset
              have HSET := Lib.hid hset
              have y2 : wo.cell? ⟨w1.heap.size, k, none⟩ = some (.int .i64 0) := by rw [HG.out.cell]; exact zarr_at hlt
              have y3 := HG.out.frozen k
              clear hset
              generalize hsm : sumAt (zk l k) args = sj at *
              go_wp2_with fail
              go_roundg f
              case measure => omega
              case rel =>
                have hwo := HBW.out.size
                refine ⟨k + 1, by go_num, by omega, by omega, Lib.hid ?_, Lib.hid ((HX.out.far (p := ⟨w1.heap.size, k, none⟩) (by show w.heap.size ≠ w1.heap.size; omega) _).alloc _), Lib.hid ((HR.out.far (p := ⟨w1.heap.size, k, none⟩) (by show w.heap.size + 1 ≠ w1.heap.size; omega) _).alloc _), hgl, Lib.hid ((HBW.out.setCell (p := ⟨w1.heap.size, k, none⟩) (by show w.heap.size ≤ w1.heap.size; omega) _).alloc (by simp; omega) _)⟩
                rw [← HSET.out]
                exact (HG.out.set_ k _).alloc _
        have e1 : (op == [104, 97, 115]) = false := by simpa using d1
        by_cases d2 : op = [102, 105, 110, 100]
        · subst d2
          go_wp2_with fail
          go_loopg [43, 8, 10] (args.length + 1) (fun f i v _ wr => InRel (wo.alloc (.cells #[.string ⟨#[102, 105, 110, 100]⟩, .slice As args.length cs, .int .i64 num, .string ⟨text.toArray⟩, .int .i64 ty] 25)) (zk l k) args 2 f i v wr)
          case atStart => exact ⟨0, rfl, by omega, by omega, rfl, rfl⟩
          case round =>
            clear x0 x1 x2 x3 x4
            obtain ⟨j, rfl, hj, hjf, rfl, rfl⟩ := hrel
            obtain ⟨f2, rfl⟩ : ∃ f2, gk = f2 + 1 := ⟨gk - 1, by omega⟩
            have hsj := sumAt_bd HBD.out (args.take j)
            have hlj : (args.take j).length ≤ j := List.length_take_le _ _
            by_cases hjl : j < args.length
            · obtain ⟨a, ha⟩ : ∃ a, args[j]? = some a := ⟨args[j], List.getElem?_eq_getElem hjl⟩
              have hbk := HBK.out a (List.mem_of_getElem? ha)
              obtain ⟨m, rfl⟩ := natInt hbk.1
              obtain ⟨ba, oa, rfl, hba', hba, hca⟩ := RdF.int HAR.out ha
              have hwo := HBW.out.size
              have hba : ba < wo.heap.size := by have hb' : ba < w.heap.size := hba'; omega
              have hm : m < k := by omega
              have y1 := hca
              have y2 : wo.cell? ⟨w1.heap.size, m, none⟩ = some (.int .i64 ((zk l k).getD m 0)) := by rw [HG.out.cell]; exact zarr_get hk hm
              have hx : 0 ≤ (zk l k).getD m 0 ∧ (zk l k).getD m 0 ≤ 4097 := by
                rw [List.getD_eq_getElem?_getD]
                cases h : (zk l k)[m]? with
                | none => simp
                | some x => exact HBD.out x (List.mem_of_getElem? h)
              have htk : sumAt (zk l k) (args.take (j + 1)) = sumAt (zk l k) (args.take j) + (zk l k).getD m 0 := by rw [List.take_add_one, ha]; exact sumAt_snoc _ _ _
              have HTK := Lib.hid htk
              generalize (zk l k).getD m 0 = x at *
              generalize sumAt (zk l k) (args.take j) = sj at *
              have hj3 : j ≤ 3 := by omega
              have w1' := IntWalk.i64_in (2 + sj + x) (by omega)
              have p0 : (j : Int) < (args.length : Int) := by omega
              have p1 : (0 : Int) ≤ (j : Int) := by omega
              have p2 : (m : Int) < (l.length : Int) := by omega
              have p3 : (0 : Int) ≤ (m : Int) := by omega
              clear ha hbk hx htk hca
              go_wp2_with fail
              go_roundg f2
              case measure => omega
              case rel => exact ⟨j + 1, by go_num, by omega, by omega, by rw [HTK.out, ← Int.add_assoc], rfl⟩
            · have hjs : j = args.length := by omega
              subst hjs
              rw [List.take_length] at hsj ⊢
              have hset := HSET.out
              rw [show baseN [102, 105, 110, 100] = 2 by rfl] at hset
              have HSET := Lib.hid hset
              have y2 : wo.cell? ⟨w1.heap.size, k, none⟩ = some (.int .i64 0) := by rw [HG.out.cell]; exact zarr_at hlt
              have y3 := HG.out.frozen k
              clear hset
              generalize hsm : sumAt (zk l k) args = sj at *
              go_wp2_with fail
              go_roundg f
              case measure => omega
              case rel =>
                have hwo := HBW.out.size
                refine ⟨k + 1, by go_num, by omega, by omega, Lib.hid ?_, Lib.hid ((HX.out.far (p := ⟨w1.heap.size, k, none⟩) (by show w.heap.size ≠ w1.heap.size; omega) _).alloc _), Lib.hid ((HR.out.far (p := ⟨w1.heap.size, k, none⟩) (by show w.heap.size + 1 ≠ w1.heap.size; omega) _).alloc _), hgl, Lib.hid ((HBW.out.setCell (p := ⟨w1.heap.size, k, none⟩) (by show w.heap.size ≤ w1.heap.size; omega) _).alloc (by simp; omega) _)⟩
                rw [← HSET.out]
                exact (HG.out.set_ k _).alloc _
        have e2 : (op == [102, 105, 110, 100]) = false := by simpa using d2
        by_cases d3 : op = [108, 101, 110, 99, 117, 116]
        · subst d3
          go_wp2_with fail
          go_loopg [43, 8, 10] (args.length + 1) (fun f i v _ wr => InRel (wo.alloc (.cells #[.string ⟨#[108, 101, 110, 99, 117, 116]⟩, .slice As args.length cs, .int .i64 num, .string ⟨text.toArray⟩, .int .i64 ty] 25)) (zk l k) args 2 f i v wr)
          case atStart => exact ⟨0, rfl, by omega, by omega, rfl, rfl⟩
          case round =>
            clear x0 x1 x2 x3 x4
            obtain ⟨j, rfl, hj, hjf, rfl, rfl⟩ := hrel
            obtain ⟨f2, rfl⟩ : ∃ f2, gk = f2 + 1 := ⟨gk - 1, by omega⟩
            have hsj := sumAt_bd HBD.out (args.take j)
            have hlj : (args.take j).length ≤ j := List.length_take_le _ _
            by_cases hjl : j < args.length
            · obtain ⟨a, ha⟩ : ∃ a, args[j]? = some a := ⟨args[j], List.getElem?_eq_getElem hjl⟩
              have hbk := HBK.out a (List.mem_of_getElem? ha)
              obtain ⟨m, rfl⟩ := natInt hbk.1
              obtain ⟨ba, oa, rfl, hba', hba, hca⟩ := RdF.int HAR.out ha
              have hwo := HBW.out.size
              have hba : ba < wo.heap.size := by have hb' : ba < w.heap.size := hba'; omega
              have hm : m < k := by omega
              have y1 := hca
              have y2 : wo.cell? ⟨w1.heap.size, m, none⟩ = some (.int .i64 ((zk l k).getD m 0)) := by rw [HG.out.cell]; exact zarr_get hk hm
              have hx : 0 ≤ (zk l k).getD m 0 ∧ (zk l k).getD m 0 ≤ 4097 := by
                rw [List.getD_eq_getElem?_getD]
                cases h : (zk l k)[m]? with
                | none => simp
                | some x => exact HBD.out x (List.mem_of_getElem? h)
              have htk : sumAt (zk l k) (args.take (j + 1)) = sumAt (zk l k) (args.take j) + (zk l k).getD m 0 := by rw [List.take_add_one, ha]; exact sumAt_snoc _ _ _
              have HTK := Lib.hid htk
              generalize (zk l k).getD m 0 = x at *
              generalize sumAt (zk l k) (args.take j) = sj at *
              have hj3 : j ≤ 3 := by omega
              have w1' := IntWalk.i64_in (2 + sj + x) (by omega)
              have p0 : (j : Int) < (args.length : Int) := by omega
              have p1 : (0 : Int) ≤ (j : Int) := by omega
              have p2 : (m : Int) < (l.length : Int) := by omega
              have p3 : (0 : Int) ≤ (m : Int) := by omega
              clear ha hbk hx htk hca
              go_wp2_with fail
              go_roundg f2
              case measure => omega
              case rel => exact ⟨j + 1, by go_num, by omega, by omega, by rw [HTK.out, ← Int.add_assoc], rfl⟩
            · have hjs : j = args.length := by omega
              subst hjs
              rw [List.take_length] at hsj ⊢
              have hset := HSET.out
              rw [show baseN [108, 101, 110, 99, 117, 116] = 2 by rfl] at hset
              have HSET := Lib.hid hset
              have y2 : wo.cell? ⟨w1.heap.size, k, none⟩ = some (.int .i64 0) := by rw [HG.out.cell]; exact zarr_at hlt
              have y3 := HG.out.frozen k
              clear hset
              generalize hsm : sumAt (zk l k) args = sj at *
              go_wp2_with fail
              go_roundg f
              case measure => omega
              case rel =>
                have hwo := HBW.out.size
                refine ⟨k + 1, by go_num, by omega, by omega, Lib.hid ?_, Lib.hid ((HX.out.far (p := ⟨w1.heap.size, k, none⟩) (by show w.heap.size ≠ w1.heap.size; omega) _).alloc _), Lib.hid ((HR.out.far (p := ⟨w1.heap.size, k, none⟩) (by show w.heap.size + 1 ≠ w1.heap.size; omega) _).alloc _), hgl, Lib.hid ((HBW.out.setCell (p := ⟨w1.heap.size, k, none⟩) (by show w.heap.size ≤ w1.heap.size; omega) _).alloc (by simp; omega) _)⟩
                rw [← HSET.out]
                exact (HG.out.set_ k _).alloc _
        have e3 : (op == [108, 101, 110, 99, 117, 116]) = false := by simpa using d3
        by_cases d4 : op = [109, 97, 116, 99, 104, 101, 115]
        · subst d4
          go_wp2_with fail
          go_loopg [43, 8, 10] (args.length + 1) (fun f i v _ wr => InRel (wo.alloc (.cells #[.string ⟨#[109, 97, 116, 99, 104, 101, 115]⟩, .slice As args.length cs, .int .i64 num, .string ⟨text.toArray⟩, .int .i64 ty] 25)) (zk l k) args 3 f i v wr)
          case atStart => exact ⟨0, rfl, by omega, by omega, rfl, rfl⟩
          case round =>
            clear x0 x1 x2 x3 x4
            obtain ⟨j, rfl, hj, hjf, rfl, rfl⟩ := hrel
            obtain ⟨f2, rfl⟩ : ∃ f2, gk = f2 + 1 := ⟨gk - 1, by omega⟩
            have hsj := sumAt_bd HBD.out (args.take j)
            have hlj : (args.take j).length ≤ j := List.length_take_le _ _
            by_cases hjl : j < args.length
            · obtain ⟨a, ha⟩ : ∃ a, args[j]? = some a := ⟨args[j], List.getElem?_eq_getElem hjl⟩
              have hbk := HBK.out a (List.mem_of_getElem? ha)
              obtain ⟨m, rfl⟩ := natInt hbk.1
              obtain ⟨ba, oa, rfl, hba', hba, hca⟩ := RdF.int HAR.out ha
              have hwo := HBW.out.size
              have hba : ba < wo.heap.size := by have hb' : ba < w.heap.size := hba'; omega
              have hm : m < k := by omega
              have y1 := hca
              have y2 : wo.cell? ⟨w1.heap.size, m, none⟩ = some (.int .i64 ((zk l k).getD m 0)) := by rw [HG.out.cell]; exact zarr_get hk hm
              have hx : 0 ≤ (zk l k).getD m 0 ∧ (zk l k).getD m 0 ≤ 4097 := by
                rw [List.getD_eq_getElem?_getD]
                cases h : (zk l k)[m]? with
                | none => simp
                | some x => exact HBD.out x (List.mem_of_getElem? h)
              have htk : sumAt (zk l k) (args.take (j + 1)) = sumAt (zk l k) (args.take j) + (zk l k).getD m 0 := by rw [List.take_add_one, ha]; exact sumAt_snoc _ _ _
              have HTK := Lib.hid htk
              generalize (zk l k).getD m 0 = x at *
              generalize sumAt (zk l k) (args.take j) = sj at *
              have hj3 : j ≤ 3 := by omega
              have w1' := IntWalk.i64_in (3 + sj + x) (by omega)
              have p0 : (j : Int) < (args.length : Int) := by omega
              have p1 : (0 : Int) ≤ (j : Int) := by omega
              have p2 : (m : Int) < (l.length : Int) := by omega
              have p3 : (0 : Int) ≤ (m : Int) := by omega
              clear ha hbk hx htk hca
              go_wp2_with fail
              go_roundg f2
              case measure => omega
              case rel => exact ⟨j + 1, by go_num, by omega, by omega, by rw [HTK.out, ← Int.add_assoc], rfl⟩
            · have hjs : j = args.length := by omega
              subst hjs
              rw [List.take_length] at hsj ⊢
              have hset := HSET.out
              rw [show baseN [109, 97, 116, 99, 104, 101, 115] = 3 by rfl] at hset
              have HSET := Lib.hid hset
              have y2 : wo.cell? ⟨w1.heap.size, k, none⟩ = some (.int .i64 0) := by rw [HG.out.cell]; exact zarr_at hlt
              have y3 := HG.out.frozen k
              clear hset
              generalize hsm : sumAt (zk l k) args = sj at *
              go_wp2_with fail
              go_roundg f
              case measure => omega
              case rel =>
                have hwo := HBW.out.size
                refine ⟨k + 1, by go_num, by omega, by omega, Lib.hid ?_, Lib.hid ((HX.out.far (p := ⟨w1.heap.size, k, none⟩) (by show w.heap.size ≠ w1.heap.size; omega) _).alloc _), Lib.hid ((HR.out.far (p := ⟨w1.heap.size, k, none⟩) (by show w.heap.size + 1 ≠ w1.heap.size; omega) _).alloc _), hgl, Lib.hid ((HBW.out.setCell (p := ⟨w1.heap.size, k, none⟩) (by show w.heap.size ≤ w1.heap.size; omega) _).alloc (by simp; omega) _)⟩
                rw [← HSET.out]
                exact (HG.out.set_ k _).alloc _
        have e4 : (op == [109, 97, 116, 99, 104, 101, 115]) = false := by simpa using d4
        by_cases d5 : op = [102, 105, 114, 115, 116, 102, 105, 110, 100]
        · subst d5
          go_wp2_with fail
          go_loopg [43, 8, 10] (args.length + 1) (fun f i v _ wr => InRel (wo.alloc (.cells #[.string ⟨#[102, 105, 114, 115, 116, 102, 105, 110, 100]⟩, .slice As args.length cs, .int .i64 num, .string ⟨text.toArray⟩, .int .i64 ty] 25)) (zk l k) args 3 f i v wr)
          case atStart => exact ⟨0, rfl, by omega, by omega, rfl, rfl⟩
          case round =>
            clear x0 x1 x2 x3 x4
            obtain ⟨j, rfl, hj, hjf, rfl, rfl⟩ := hrel
            obtain ⟨f2, rfl⟩ : ∃ f2, gk = f2 + 1 := ⟨gk - 1, by omega⟩
            have hsj := sumAt_bd HBD.out (args.take j)
            have hlj : (args.take j).length ≤ j := List.length_take_le _ _
            by_cases hjl : j < args.length
            · obtain ⟨a, ha⟩ : ∃ a, args[j]? = some a := ⟨args[j], List.getElem?_eq_getElem hjl⟩
              have hbk := HBK.out a (List.mem_of_getElem? ha)
              obtain ⟨m, rfl⟩ := natInt hbk.1
              obtain ⟨ba, oa, rfl, hba', hba, hca⟩ := RdF.int HAR.out ha
              have hwo := HBW.out.size
              have hba : ba < wo.heap.size := by have hb' : ba < w.heap.size := hba'; omega
              have hm : m < k := by omega
              have y1 := hca
              have y2 : wo.cell? ⟨w1.heap.size, m, none⟩ = some (.int .i64 ((zk l k).getD m 0)) := by rw [HG.out.cell]; exact zarr_get hk hm
              have hx : 0 ≤ (zk l k).getD m 0 ∧ (zk l k).getD m 0 ≤ 4097 := by
                rw [List.getD_eq_getElem?_getD]
                cases h : (zk l k)[m]? with
                | none => simp
                | some x => exact HBD.out x (List.mem_of_getElem? h)
              have htk : sumAt (zk l k) (args.take (j + 1)) = sumAt (zk l k) (args.take j) + (zk l k).getD m 0 := by rw [List.take_add_one, ha]; exact sumAt_snoc _ _ _
              have HTK := Lib.hid htk
              generalize (zk l k).getD m 0 = x at *
              generalize sumAt (zk l k) (args.take j) = sj at *
              have hj3 : j ≤ 3 := by omega
              have w1' := IntWalk.i64_in (3 + sj + x) (by omega)
              have p0 : (j : Int) < (args.length : Int) := by omega
              have p1 : (0 : Int) ≤ (j : Int) := by omega
              have p2 : (m : Int) < (l.length : Int) := by omega
              have p3 : (0 : Int) ≤ (m : Int) := by omega
              clear ha hbk hx htk hca
              go_wp2_with fail
              go_roundg f2
              case measure => omega
              case rel => exact ⟨j + 1, by go_num, by omega, by omega, by rw [HTK.out, ← Int.add_assoc], rfl⟩
            · have hjs : j = args.length := by omega
              subst hjs
              rw [List.take_length] at hsj ⊢
              have hset := HSET.out
              rw [show baseN [102, 105, 114, 115, 116, 102, 105, 110, 100] = 3 by rfl] at hset
              have HSET := Lib.hid hset
              have y2 : wo.cell? ⟨w1.heap.size, k, none⟩ = some (.int .i64 0) := by rw [HG.out.cell]; exact zarr_at hlt
              have y3 := HG.out.frozen k
              clear hset
              generalize hsm : sumAt (zk l k) args = sj at *
              go_wp2_with fail
              go_roundg f
              case measure => omega
              case rel =>
                have hwo := HBW.out.size
                refine ⟨k + 1, by go_num, by omega, by omega, Lib.hid ?_, Lib.hid ((HX.out.far (p := ⟨w1.heap.size, k, none⟩) (by show w.heap.size ≠ w1.heap.size; omega) _).alloc _), Lib.hid ((HR.out.far (p := ⟨w1.heap.size, k, none⟩) (by show w.heap.size + 1 ≠ w1.heap.size; omega) _).alloc _), hgl, Lib.hid ((HBW.out.setCell (p := ⟨w1.heap.size, k, none⟩) (by show w.heap.size ≤ w1.heap.size; omega) _).alloc (by simp; omega) _)⟩
                rw [← HSET.out]
                exact (HG.out.set_ k _).alloc _
        have e5 : (op == [102, 105, 114, 115, 116, 102, 105, 110, 100]) = false := by simpa using d5
        have HB1' := Lib.hid (show baseN op = 1 by
          unfold baseN
          rw [if_neg (show ¬ (op = nCount ∨ op = nHas ∨ op = nFind ∨ op = nLencut) from fun h => h.elim d0 (fun h => h.elim d1 (fun h => h.elim d2 d3))), if_neg (show ¬ (op = nMatches ∨ op = nFirstfind) from fun h => h.elim d4 d5)])
        clear d0 d1 d2 d3 d4 d5
        go_wp2_with fail
        go_loopg [43, 8, 10] (args.length + 1) (fun f i v _ wr => InRel (wo.alloc (.cells #[.string ⟨op.toArray⟩, .slice As args.length cs, .int .i64 num, .string ⟨text.toArray⟩, .int .i64 ty] 25)) (zk l k) args 1 f i v wr)
        case atStart => exact ⟨0, rfl, by omega, by omega, rfl, rfl⟩
        case round =>
          clear x0 x1 x2 x3 x4
          obtain ⟨j, rfl, hj, hjf, rfl, rfl⟩ := hrel
          obtain ⟨f2, rfl⟩ : ∃ f2, gk = f2 + 1 := ⟨gk - 1, by omega⟩
          have hsj := sumAt_bd HBD.out (args.take j)
          have hlj : (args.take j).length ≤ j := List.length_take_le _ _
          by_cases hjl : j < args.length
          · obtain ⟨a, ha⟩ : ∃ a, args[j]? = some a := ⟨args[j], List.getElem?_eq_getElem hjl⟩
            have hbk := HBK.out a (List.mem_of_getElem? ha)
            obtain ⟨m, rfl⟩ := natInt hbk.1
            obtain ⟨ba, oa, rfl, hba', hba, hca⟩ := RdF.int HAR.out ha
            have hwo := HBW.out.size
            have hba : ba < wo.heap.size := by have hb' : ba < w.heap.size := hba'; omega
            have hm : m < k := by omega
            have y1 := hca
            have y2 : wo.cell? ⟨w1.heap.size, m, none⟩ = some (.int .i64 ((zk l k).getD m 0)) := by rw [HG.out.cell]; exact zarr_get hk hm
            have hx : 0 ≤ (zk l k).getD m 0 ∧ (zk l k).getD m 0 ≤ 4097 := by
              rw [List.getD_eq_getElem?_getD]
              cases h : (zk l k)[m]? with
              | none => simp
              | some x => exact HBD.out x (List.mem_of_getElem? h)
            have htk : sumAt (zk l k) (args.take (j + 1)) = sumAt (zk l k) (args.take j) + (zk l k).getD m 0 := by rw [List.take_add_one, ha]; exact sumAt_snoc _ _ _
            have HTK := Lib.hid htk
            generalize (zk l k).getD m 0 = x at *
            generalize sumAt (zk l k) (args.take j) = sj at *
            have hj3 : j ≤ 3 := by omega
            have w1' := IntWalk.i64_in (1 + sj + x) (by omega)
            have p0 : (j : Int) < (args.length : Int) := by omega
            have p1 : (0 : Int) ≤ (j : Int) := by omega
            have p2 : (m : Int) < (l.length : Int) := by omega
            have p3 : (0 : Int) ≤ (m : Int) := by omega
            clear ha hbk hx htk hca
            go_wp2_with fail
            go_roundg f2
            case measure => omega
            case rel => exact ⟨j + 1, by go_num, by omega, by omega, by rw [HTK.out, ← Int.add_assoc], rfl⟩
          · have hjs : j = args.length := by omega
            subst hjs
            rw [List.take_length] at hsj ⊢
            have hset := HSET.out
            rw [HB1'.out] at hset
            have HSET := Lib.hid hset
            have y2 : wo.cell? ⟨w1.heap.size, k, none⟩ = some (.int .i64 0) := by rw [HG.out.cell]; exact zarr_at hlt
            have y3 := HG.out.frozen k
            clear hset
            generalize hsm : sumAt (zk l k) args = sj at *
            go_wp2_with fail
            go_roundg f
            case measure => omega
            case rel =>
              have hwo := HBW.out.size
              refine ⟨k + 1, by go_num, by omega, by omega, Lib.hid ?_, Lib.hid ((HX.out.far (p := ⟨w1.heap.size, k, none⟩) (by show w.heap.size ≠ w1.heap.size; omega) _).alloc _), Lib.hid ((HR.out.far (p := ⟨w1.heap.size, k, none⟩) (by show w.heap.size + 1 ≠ w1.heap.size; omega) _).alloc _), hgl, Lib.hid ((HBW.out.setCell (p := ⟨w1.heap.size, k, none⟩) (by show w.heap.size ≤ w1.heap.size; omega) _).alloc (by simp; omega) _)⟩
              rw [← HSET.out]
              exact (HG.out.set_ k _).alloc _
      · have hks : k = l.length := by omega
        subst hks
        have hz := checkR_zero HE.out
        obtain ⟨N, hN⟩ : ∃ N, l.length = N + 1 := ⟨l.length - 1, by have := hz.1; omega⟩
        have hcl : wo.cell? ⟨w1.heap.size, N, none⟩ = some (.int .i64 ((sizesR l).getD (l.length - 1) 0)) := by
          rw [HG.out.cell, zarr_get (Nat.le_refl _) (by omega), zk_all, hN]
          rfl
        have hwr : IntKind.i64.wrap ((l.length : Int) - 1) = (N : Int) := by rw [hN, show ((N + 1 : Nat) : Int) - 1 = (N : Int) by omega]; exact IntWalk.i64_in _ (by omega)
        have hw2 : (l.length : Int) - 1 = (N : Int) := by omega
        have hg := grow_any A c l HE.out HM.out N wo (by omega) (HP.out.keep (fun i (hi : i < _) _ => HBW.out.block i hi) HBW.out.size (fun _ hi _ => Nat.lt_of_lt_of_le hi HBW.out.size))
        have hN1 : N = l.length - 1 := by omega
        have HN1 := Lib.hid hN1
        have HGR := Lib.hid hg
        have p0 : (N : Int) < (l.length : Int) := by omega
        have p1 : (0 : Int) ≤ (N : Int) := by omega
        have s0 := HX.out.cell 0
        simp only [List.getElem?_toArray, List.getElem?_cons_zero] at s0
        obtain ⟨r0, r1, r2, r3, f0, f1, f2, f3⟩ := blk4 HR.out
        obtain ⟨Z, hZ⟩ : ∃ Z, Z = (sizesR l).getD (l.length - 1) 0 := ⟨_, rfl⟩
        rw [← hZ] at hcl
        have HZ := Lib.hid hZ
        have hgo : w.heap.size ≤ w.heap.size + 1 := by omega
        clear hN hz hN1 hZ hg hlt hk hkf
        by_cases hbig : 4096 < Z
        · have e1 : decide (4096 < Z) = true := decide_eq_true hbig
          have HBG := Lib.hid hbig
          clear hbig
          go_wp2_with fail
          refine bodyPost_ret (v := .tuple #[.agg #[.int .i64 0, .string ⟨#[]⟩, .int .i64 0, .slice none 0 0], .iface 37 (.int .i64 9)]) (by simp [results, Try.results10, go_sem, r0, r1, r2, r3]) rfl ?_
          refine ⟨(((HBW.out.setCell (p := ⟨w.heap.size + 1, 0, none⟩) hgo _).setCell (p := ⟨w.heap.size + 1, 1, none⟩) hgo _).setCell (p := ⟨w.heap.size + 1, 2, none⟩) hgo _).setCell (p := ⟨w.heap.size + 1, 3, none⟩) hgo _, ?_⟩
          rw [if_neg (by rw [HE.out]; decide), ← HZ.out, if_pos HBG.out]
          rfl
        · have e1 : decide (4096 < Z) = false := decide_eq_false hbig
          have HBG := Lib.hid hbig
          clear hbig
          go_wp2_with fail
          refine HGR.out.mono ?_
          rintro e w4 ⟨cs4, rfl, hn4, hb4⟩
          obtain ⟨k1, t1, m1, A1, n1, c1, rfl⟩ := hn4.form
          have HR4 := HR.out.below hb4 HR.out.lt
          have hwo := HBW.out.size
          have HB4 := Lib.hid (HBW.out.trans (hb4.mono hwo))
          have HN4 := Lib.hid hn4
          have hlr := HR.out.lt
          clear r0 r1 r2 r3 f0 f1 f2 f3 hn4 hb4
          obtain ⟨r0, r1, r2, r3, f0, f1, f2, f3⟩ := blk4 HR4
          clear HR4
          go_wp2_with fail
          refine bodyPost_ret (v := .tuple #[.agg #[.int .i64 k1, .string t1, .int .i64 m1, .slice A1 n1 c1], .nilIface]) (by simp [results, Try.results10, go_sem, r0, r1, r2, r3]) rfl ?_
          refine ⟨(((HB4.out.setCell (p := ⟨w.heap.size + 1, 0, none⟩) hgo _).setCell (p := ⟨w.heap.size + 1, 1, none⟩) hgo _).setCell (p := ⟨w.heap.size + 1, 2, none⟩) hgo _).setCell (p := ⟨w.heap.size + 1, 3, none⟩) hgo _, ?_⟩
          rw [if_neg (by rw [HE.out]; decide), ← HZ.out, if_neg (by have := HBG.out; omega)]
          refine ⟨_, rfl, ?_⟩
          rw [← HN1.out]
          exact HN4.out.keep (fun i hi _ => four_old (g := w.heap.size + 1) (by have := hi.1; omega)) (fun i hi _ => ⟨by have := hi.1; omega, by simp; exact hi.2⟩)
  · have hv : errV (checkR l) = .iface 37 (.int .i64 (checkR l)) := if_neg hE
    have HE := Lib.hid hE
    have HV := Lib.hid hv
    rw [hv]
    generalize hq : checkR l = q at *
    have HQ := Lib.hid hq
    clear hE hv hq
    go_wp2_with fail
    refine bodyPost_ret (v := .tuple #[.agg #[.int .i64 0, .string ⟨#[]⟩, .int .i64 0, .slice none 0 0], .iface 37 (.int .i64 q)]) (by simp [results, Try.results10, go_sem, r0, r1, r2, r3]) rfl ?_
    have h1 := HB1.out
    have hg : w.heap.size ≤ w.heap.size + 1 := by omega
    refine ⟨(((h1.setCell (p := ⟨w.heap.size + 1, 0, none⟩) hg _).setCell (p := ⟨w.heap.size + 1, 1, none⟩) hg _).setCell (p := ⟨w.heap.size + 1, 2, none⟩) hg _).setCell (p := ⟨w.heap.size + 1, 3, none⟩) hg _, ?_⟩
    rw [HQ.out, if_pos HE.out, HV.out]
end Go.Proofs.Ytniefnjcimempaa
