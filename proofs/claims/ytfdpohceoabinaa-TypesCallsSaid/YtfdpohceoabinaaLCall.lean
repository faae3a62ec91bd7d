/- The walk of the law TypesCalls. -/
import Derived.Test.YtfdpohceoabinaaFun
import Derived.Test.YtfdpohceoabinaaTxR
import Derived.IntWalk
import Derived.Deep.LoopGhost
namespace Go.Proofs.Ytfdpohceoabinaa
open Go.RowKit Go.WideMaps Go.Sort
theorem tmod32 (k : Int) : -31 ≤ k.tmod 32 ∧ k.tmod 32 ≤ 31 := by
  have h1 := Int.tmod_lt_of_pos k (show (0 : Int) < 32 by decide)
  have h2 := Int.tmod_lt_of_pos (-k) (show (0 : Int) < 32 by decide)
  rw [Int.neg_tmod] at h2
  omega
theorem tmodN (k : Int) (n : Nat) (hn : 0 < n) : -(n : Int) < k.tmod n ∧ k.tmod n < n := by
  have h1 := Int.tmod_lt_of_pos k (show (0 : Int) < n by omega)
  have h2 := Int.tmod_lt_of_pos (-k) (show (0 : Int) < n by omega)
  rw [Int.neg_tmod] at h2
  omega
theorem tmod4' (k : Int) : -3 ≤ k.tmod 4 ∧ k.tmod 4 ≤ 3 := by
  have h1 := Int.tmod_lt_of_pos k (show (0 : Int) < 4 by decide)
  have h2 := Int.tmod_lt_of_pos (-k) (show (0 : Int) < 4 by decide)
  rw [Int.neg_tmod] at h2
  omega
theorem infoExpr : (Try.prog.info? 29).map (fun i => (i.zero, i.size, i.bytes)) = some (some (.agg #[.int .i64 0, .string ⟨#[]⟩, .int .i64 0, .slice none 0 0]), 4, 56) := by kernel_rfl
/-- The blocks that are there, but for a row's own. -/
def offRow (w : World) (v : Value) : Nat → Prop := fun i => i < w.heap.size ∧ v.ownBlock ≠ some i
theorem ListAt_add {w w4 w5 : World} {v v5 : Value} {τs : List Tx} {τ : Tx} {css cs : List Value} (hn : NodeVs w (offRow w v) τs css) (hb4 : Below w.heap.size w w4) (hn4 : NodeV w4 (rng w.heap.size w4.heap.size) τ cs) (ob : Obj)
    (hv : ∀ g, v.ownBlock = some g → g < w.heap.size) (hg5 : (w4.alloc ob).grownBy w5 v.ownBlock) (hv5 : v5.ownBlock = v.ownBlock ∨ v5.ownBlock = some (w4.heap.size + 1)) : NodeVs w5 (offRow w5 v5) (τs ++ [τ]) (css ++ cs) := by
  have hz := hb4.size
  have hz5 := hg5.size
  simp at hz5
  have hne : ∀ i, i < w4.heap.size → v.ownBlock ≠ some i → v5.ownBlock ≠ some i := fun i hi hne he => by
    rcases hv5 with h | h
    · exact hne (by rw [← h]; exact he)
    · rw [h] at he; injection he with he; omega
  refine NodeVs.append ?_ (NodeVs.one ?_)
  · refine NodeVs.keep (F := offRow w v) (fun i hi hl => ?_) (fun i hi hl => ⟨by omega, hne i (by omega) hi.2⟩) hn
    rw [hg5.block i (by simp; omega) (fun e => hi.2 e.symm), Below.heap_alloc w4 ob i (by omega), hb4.block i hl]
  · have hno : ∀ i, w.heap.size ≤ i → v.ownBlock ≠ some i := fun i hi he => by have := hv i he; omega
    refine NodeV.keep (F := rng w.heap.size w4.heap.size) (fun i hi hl => ?_) (fun i hi hl => ⟨by have := hi.2; omega, hne i hi.2 (hno i hi.1)⟩) hn4
    rw [hg5.block i (by simp; omega) (fun e => hno i hi.1 e.symm), Below.heap_alloc w4 ob i hi.2]
theorem own_lt {w : World} {base e size n : Nat} {v : Value} {xs : List Value} (h : w.ownsRow base e size v n xs) (g : Nat) (hg : v.ownBlock = some g) : g < w.heap.size := by
  obtain ⟨_, cur, hc⟩ := own_lo h hg
  exact hc.lt
def ListAt (w : World) (base : Nat) (v : Value) (τs : List Tx) : Prop := ∃ css, w.ownsRow base 29 4 v τs.length css ∧ NodeVs w (offRow w v) τs css
theorem nodeVs_one {w : World} {F : Nat → Prop} : ∀ {τs : List Tx} {css : List Value}, NodeVs w F τs css → ∀ u ∈ css, u.oneCell' = true
  | [], css, h, u, hu => by
    have h : css = [] := h
    rw [h] at hu; cases hu
  | τ :: τs, css, h, u, hu => by
    obtain ⟨a, b, h1, h2, h3⟩ := h
    rw [h1] at hu
    rcases List.mem_append.1 hu with hu | hu
    · obtain ⟨k, t, m, A, n, c, rfl⟩ := h2.form
      simp only [List.mem_cons, List.not_mem_nil, or_false] at hu
      rcases hu with rfl | rfl | rfl | rfl <;> rfl
    · exact nodeVs_one h3 u hu
/-- A call of a function with a row's expressions. -/
theorem row_call {wr wk : World} {gl n c : Nat} {cur : Array Value} {css : List Value} {τs : List Tx} (hB : Blk wr gl 29 cur) (ht : cur.toList.take (n * 4) = css) (hn : NodeVs wr (fun i => i < wr.heap.size) τs css) (hl : n = τs.length) (hb : Below wr.heap.size wr wk) (nm : List UInt8) :
    NodeV wk (fun i => i < wk.heap.size) (.node 4 nm 0 τs) [.int .i64 4, .string ⟨nm.toArray⟩, .int .i64 0, .slice (some ⟨gl, 0, none⟩) n c] :=
  node_calls (F := fun i => i < wk.heap.size) (css := css) (hB.below hb hB.lt) (Nat.lt_of_lt_of_le hB.lt hb.size) (hn.below hb) (fun j u hj => by
    rw [← ht, List.getElem?_take] at hj
    split at hj
    · simpa using hj
    · cases hj) hl nm
theorem row_cut {wr wk : World} {gl n c : Nat} {cur : Array Value} {css : List Value} {τs : List Tx} (hB : Blk wr gl 29 cur) (ht : cur.toList.take (n * 4) = css) (hn : NodeVs wr (fun i => i < wr.heap.size) τs css) (hl : n = τs.length) (h0 : 1 ≤ n) (hb : Below wr.heap.size wr wk) (nm : List UInt8) (A : Option Addr) (hA : n ≠ 1 → A = some ⟨gl, 4, none⟩) :
    NodeV wk (fun i => i < wk.heap.size) (.node 4 nm 0 (τs.drop 1)) [.int .i64 4, .string ⟨nm.toArray⟩, .int .i64 0, .slice A (n - 1) c] := by
  cases τs with
  | nil => simp at hl; omega
  | cons τ τs =>
    rw [List.length_cons] at hl
    show NodeV wk _ (.node 4 nm 0 τs) _
    by_cases h1 : n = 1
    · have : τs = [] := List.eq_nil_of_length_eq_zero (by omega)
      subst this
      exact NodeV.call (l := []) 4 nm 0 rfl (by unfold LxAts; trivial) (by simp; omega)
    · rw [hA h1]
      obtain ⟨xs, e1, e2⟩ := lx_row (F := fun i => i < wk.heap.size) (hB.below hb hB.lt) (Nat.lt_of_lt_of_le hB.lt hb.size) τs (css.drop 4) 1 (hn.drop.below hb) (fun j u hj => by
        rw [List.getElem?_drop, ← ht, List.getElem?_take] at hj
        split at hj
        · simpa using hj
        · cases hj)
      have := lxAts_shift xs 1 0 e2
      rw [Nat.zero_add] at this
      exact NodeV.call 4 nm 0 e1 this (by omega)
theorem four_row {w1 : World} {g o i : Nat} {a b c d : Value} (h : i ≠ g) : ((((w1.setCell ⟨g, o, none⟩ a).setCell ⟨g, o + 1, none⟩ b).setCell ⟨g, o + 2, none⟩ c).setCell ⟨g, o + 3, none⟩ d).heap[i]? = w1.heap[i]? :=
  (Below.heap_setCell _ ⟨g, o + 3, none⟩ d i h).trans ((Below.heap_setCell _ ⟨g, o + 2, none⟩ c i h).trans ((Below.heap_setCell _ ⟨g, o + 1, none⟩ b i h).trans (Below.heap_setCell _ ⟨g, o, none⟩ a i h)))
def TcRel (w : World) (S : List Int) (g : Nat) (f : Nat) (i v : Value) (wr : World) : Prop := ∃ k : Nat, i = .int .i64 k ∧ k ≤ S.length ∧ S.length - k < f ∧ Hid (ListAt wr w.heap.size v ((S.take k).map sampleT)) ∧ Hid (Blk wr g 3 (S.map (Value.int .i64)).toArray) ∧ w.heap.size ≤ g ∧ Hid (Below w.heap.size w wr)
set_option maxRecDepth 100000 in
set_option maxHeartbeats 8000000 in
theorem calls_any (pick at_ other : Int) (w : World) : Calls Try.prog 5 #[.int .i64 pick, .int .i64 at_, .int .i64 other] w (AwEnd w) := by
  obtain ⟨b11, b12⟩ := tmod32 pick
  obtain ⟨b21, b22⟩ := tmod4' other
  go_enter Try.func5, Try.ntmps5
  go_wp2_with fail
  refine (functions_any _).mono ?_
  rintro e w1 ⟨A, c, rfl, hown, hb1⟩
  have HO := Lib.hid hown
  have HB1 := Lib.hid hb1
  have hz1 := hb1.size
  clear hown hb1
  have hlen : namesS.length = 32 := rfl
  rw [hlen]
  go_wp2_with fail
  refine (alive_any _).mono ?_
  rintro e w2 ⟨rfl, hb2⟩
  have HO := Lib.hid (own_below HO.out hb2)
  have HB2 := Lib.hid (HB1.out.trans (hb2.mono hz1))
  have hz2 := hb2.size
  clear hb2
  obtain ⟨i, hi⟩ : ∃ i : Nat, (i : Int) = pick.tmod 32 % 32 := ⟨(pick.tmod 32 % 32).toNat, by omega⟩
  have hi32 : i < 32 := by omega
  obtain ⟨nm, S, r, hnm, hok⟩ := names_ok i hi32
  obtain ⟨g, c', hv, hc, hbg, hgl, hcell⟩ := own_at HO.out (by rw [hlen]; decide)
  injection hv with hA _ hcc
  subst hA hcc
  have hcn : w2.cell? ⟨g, i, none⟩ = some (.string ⟨nm.toArray⟩) := hcell i _ (by rw [List.getElem?_map, hnm]; rfl)
  have HI := Lib.hid hi
  have HOK := Lib.hid hok
  clear hnm hok hcell
  have hi2 : pick.tmod 32 % 32 = (i : Int) := HI.out.symm
  have hi3 : (pick.tmod 32 + 32) % 32 = (i : Int) := by rw [HI.out]; omega
  have i1 : (0 : Int) ≤ (i : Int) := by omega
  have i2 : (i : Int) < 32 := by omega
  clear hi
  go_wp2_with fail
  rw [hi3]
  clear hi2 hi3 b11 b12
  refine (sigX_any nm _).mono ?_
  rintro e w3 ⟨hb3, h3⟩
  rw [HOK.out.sg] at h3
  obtain ⟨c3, rfl, hB3⟩ := h3
  have HS := Lib.hid hB3
  have HB3 := Lib.hid (HB2.out.trans (hb3.mono (by omega)))
  have hz3 := hb3.size
  have hw2 := HB2.out.size
  clear hb3 hB3
  have hlo : 1 ≤ S.length := HOK.out.lo
  have hhi : S.length ≤ 3 := HOK.out.hi
  go_wp2_with fail
  go_loopg [50, 12, 14] (S.length + 1) (fun f i v _ wr => TcRel w S w2.heap.size f i v wr)
  case atStart => exact ⟨0, rfl, by omega, by omega, Lib.hid ⟨[], ⟨rfl, .inl ⟨rfl, rfl⟩⟩, rfl⟩, HS, hw2, HB3⟩
  case round =>
    obtain ⟨k, rfl, hk4, hkf, HL, HSB, _, HBW⟩ := hrel
    obtain ⟨f, rfl⟩ : ∃ f, gk = f + 1 := ⟨gk - 1, by omega⟩
    have hbl := HSB.out.lt
    by_cases hlt : k < S.length
    · obtain ⟨t, ht⟩ : ∃ t, S[k]? = some t := ⟨S[k], List.getElem?_eq_getElem hlt⟩
      have hct : wr.cell? ⟨w2.heap.size, k, none⟩ = some (.int .i64 t) := by rw [HSB.out.cell]; simp [ht]
      obtain ⟨css, hown, hns⟩ := HL.out
      have HOW := Lib.hid hown
      have HNS := Lib.hid hns
      have HT := Lib.hid ht
      clear hown hns ht
      have q0 : (k : Int) < (S.length : Int) := by omega
      go_wp2_with fail
      refine (sample_any t _).mono ?_
      rintro e w4 ⟨cs1, rfl, hn1, hb4⟩
      obtain ⟨k1, t1, m1, A1, n1, c1, rfl⟩ := hn1.form
      have hlk : (List.map sampleT (List.take k S)).length = k := by simp; omega
      have ho4 := (own_below HOW.out hb4).alloc (.cells #[.int .i64 k1, .string t1, .int .i64 m1, .slice A1 n1 c1] 29)
      rw [hlk] at ho4
      have hrr := reads4 w4 (.int .i64 k1) (.string t1) (.int .i64 m1) (.slice A1 n1 c1) 29
      have hone : ∀ u ∈ ([.int .i64 k1, .string t1, .int .i64 m1, .slice A1 n1 c1] : List Value), u.oneCell' = true := by simp [Value.oneCell']
      have hz4 := hb4.size
      have hww := HBW.out.size
      have HN4 := Lib.hid hn1
      have HB4 := Lib.hid hb4
      have HLK := Lib.hid hlk
      clear hn1 hb4 hlk
      obtain ⟨i0, hinf, hz0, hz1', hz2'⟩ := info_parts infoExpr
      go_wp2_with (at_builtin; refine wpList_append_any _ rfl (.tmp 54) (.tmp 57) 27 rfl w.heap.size 29 i0 (.agg #[.int .i64 0, .string ⟨#[]⟩, .int .i64 0, .slice none 0 0]) 4 56 Try.underlying27 hinf hz0 hz1' hz2' rfl (by decide) _ k css rfl ho4 _ _ _ _ [.int .i64 k1, .string t1, .int .i64 m1, .slice A1 n1 c1] rfl hrr hone (by unfold maxLen; omega) (by omega) (by simp; omega) ?_)
      intro v5 w5 hown5 hg5 hv5
      have HL5 := Lib.hid (show ListAt w5 w.heap.size v5 ((S.take (k + 1)).map sampleT) from ⟨css ++ [.int .i64 k1, .string t1, .int .i64 m1, .slice A1 n1 c1], by
        rw [List.length_map, List.length_take, Nat.min_eq_left (by omega)]
        exact hown5, by
        rw [List.take_add_one, HT.out, List.map_append]
        exact ListAt_add HNS.out HB4.out HN4.out _ (own_lt HOW.out) hg5 hv5⟩)
      have hlo5 := fun j e => (own_lo HOW.out (g := j) e).1
      have HB5 := Lib.hid (((HBW.out.trans (HB4.out.mono hww)).alloc (by omega) _).grown hg5 (by simp; omega) (fun j e => hlo5 j e))
      have HS5 := Lib.hid (((HSB.out.below HB4.out hbl).alloc _).grown hg5 (fun e => by
        obtain ⟨_, cur, hc⟩ := own_lo HOW.out e.symm
        exact Blk.ne_ HSB.out hc (by decide) rfl))
      clear ho4 hrr hone hinf hz0 hz1' hz2' hown5 hg5 hv5 hlo5
      go_wp2_with fail
      go_roundg f
      case measure => omega
      case rel => exact ⟨k + 1, by go_num, by omega, by omega, HL5, HS5, by omega, HB5⟩
    · have hkS : k = S.length := by omega
      subst hkS
      obtain ⟨css, hown, hns⟩ := HL.out
      rw [List.take_length] at hown hns
      have hns2 : NodeVs wr (fun i => i < wr.heap.size) (S.map sampleT) css := NodeVs.keep (w' := wr) (F := offRow wr u12) (fun _ _ _ => rfl) (fun _ h _ => h.1) hns
      have hns3 : NodeVs wr (offRow wr u12) (S.map sampleT) css := hns
      clear hns
      rw [List.length_map] at hown
      obtain ⟨gl, cl, cur, rfl, hncl, hbgl, hBl, hszl, htl, _⟩ := own_full hown (by omega)
      obtain ⟨N, hN⟩ : ∃ N, N = S.length := ⟨_, rfl⟩
      have HNl : Hid (N = (S.map sampleT).length) := Lib.hid (by rw [List.length_map, hN])
      rw [← hN] at hlo hhi hncl htl hown ⊢
      have HOW := Lib.hid hown
      have HNS := Lib.hid hns2
      have HNO : Hid (NodeVs wr (fun i => i < wr.heap.size ∧ i ≠ gl) (S.map sampleT) css) := Lib.hid (NodeVs.keep (w' := wr) (fun _ _ _ => rfl) (fun i h _ => ⟨h.1, fun e => h.2 (by rw [e]; rfl)⟩) hns3)
      have HBl := Lib.hid hBl
      have HTl := Lib.hid htl
      have hgl0 := hBl.lt
      have HNS' := Lib.hid hN
      have hHS := HBW.out.size
      clear hown hns2 hns3 hBl htl hN hlt hk4 hkf HL
      go_wp2_with fail
      refine (lw_call _ _ _ _ _).mono ?_
      rintro e w4 ⟨rfl, hb4⟩
      have hnc : NodeV w4 (fun i => i < w4.heap.size) _ _ := row_call (c := cl) HBl.out HTl.out HNS.out HNl.out hb4 nm
      have hft := fitT_of HOK.out.allF
      have hof := of_tx _ _ w4 hnc hft.1 hft.2
      rw [HOK.out.all] at hof
      have HOF := Lib.hid hof
      clear hof hnc hft
      go_wp2_with fail
      refine HOF.out.mono ?_
      rintro e w5 ⟨rfl, hb⟩
      have HK5 := Lib.hid (hb4.trans (hb.mono hb4.size))
      clear hb HOF
      have hk5 := HK5.out.size
      clear hb4
      have hrr : Reads (w5.alloc (.cells #[] 29)) (w5.alloc (.cells #[] 29)).heap.size 4 (some ⟨gl, 0, none⟩) N css := (((Reads.of_own HOW.out).below HK5.out).more hk5 |>.alloc (Nat.le_refl _) _).more (by simp)
      have hone : ∀ u ∈ css, u.oneCell' = true := nodeVs_one HNS.out
      have ho0 : (w5.alloc (.cells #[] 29)).ownsRow w.heap.size 29 4 (.slice (some ⟨w5.heap.size, 0, none⟩) 0 0) 0 [] := World.ownsRow_lit (e := 29) (size := 4) w5 #[] 0 (by omega) (by decide) rfl
      obtain ⟨i0, hinf, hz0, hz1', hz2'⟩ := info_parts infoExpr
      go_wp2_with (at_builtin; refine wpList_append_any _ rfl (.tmp 76) (.tmp 77) 27 rfl w.heap.size 29 i0 (.agg #[.int .i64 0, .string ⟨#[]⟩, .int .i64 0, .slice none 0 0]) 4 56 Try.underlying27 hinf hz0 hz1' hz2' rfl (by decide) _ 0 [] rfl ho0 _ _ _ _ css rfl hrr hone (by unfold maxLen; omega) (by omega) (by simp; omega) ?_)
      intro v6 w6 hown6 hg6 hv6
      skip
      have HO6 := Lib.hid hown6
      have hg56 : wr.grownBy w6 none := by
        refine ⟨?_, ?_, ?_, ?_, ?_⟩
        · exact hg6.os.trans HK5.out.os
        · exact hg6.tape.trans HK5.out.tape
        · exact hg6.output.trans HK5.out.output
        · have := hg6.size; simp at this; omega
        · intro i hi _
          rw [hg6.block i (by simp; omega) (fun e => by have e : some i = some w5.heap.size := e; injection e with e; omega), Below.heap_alloc w5 _ i (by omega), HK5.out.block i hi]
      have HK6 : Hid (Below wr.heap.size wr w6) := Lib.hid ⟨hg56.os, hg56.tape, hg56.output, hg56.size, fun i hi => hg56.block i hi (fun e => by cases e)⟩
      have hk6 := HK6.out.size
      have hv6' : v6.ownBlock = some w5.heap.size ∨ v6.ownBlock = some (w5.heap.size + 1) := by
        rcases hv6 with h | h
        · exact .inl h
        · exact .inr (by simpa using h)
      have HV6 := Lib.hid hv6'
      clear hrr hone ho0 hinf hz0 hz1' hz2' hown6 hg6 hv6 hg56 hv6'
      go_wp2_with fail
      refine (lw_number _ _).mono ?_
      rintro e w7 ⟨rfl, hb7⟩
      have ho7 := (own_below HO6.out hb7).alloc (.cells #[.int .i64 1, .string ⟨#[]⟩, .int .i64 1, .slice none 0 0] 29)
      have HK7 := Lib.hid (HK6.out.trans (hb7.mono hk6))
      have hk7 := HK7.out.size
      have hz67 := hb7.size
      have hrr := reads4 w7 (.int .i64 1) (.string ⟨#[]⟩) (.int .i64 1) (.slice none 0 0) 29
      have hone : ∀ u ∈ ([.int .i64 1, .string ⟨#[]⟩, .int .i64 1, .slice none 0 0] : List Value), u.oneCell' = true := by simp [Value.oneCell']
      clear hb7
      obtain ⟨i0, hinf, hz0, hz1', hz2'⟩ := info_parts infoExpr
      go_wp2_with (at_builtin; refine wpList_append_any _ rfl (.tmp 78) (.tmp 80) 27 rfl w.heap.size 29 i0 (.agg #[.int .i64 0, .string ⟨#[]⟩, .int .i64 0, .slice none 0 0]) 4 56 Try.underlying27 hinf hz0 hz1' hz2' rfl (by decide) _ N css rfl ho7 _ _ _ _ [.int .i64 1, .string ⟨#[]⟩, .int .i64 1, .slice none 0 0] rfl hrr hone (by unfold maxLen; omega) (by omega) (by simp; omega) ?_)
      intro v8 w8 hown8 hg8 hv8
      obtain ⟨g8, c8, cur8, rfl, hnc8, hbg8, hB8, hsz8, ht8, _⟩ := own_full hown8 (by omega)
      have hlow : ∀ j, v6.ownBlock = some j → wr.heap.size ≤ j := fun j e => by
        rcases HV6.out with h | h <;> (rw [h] at e; injection e with e; omega)
      have HK8 : Hid (Below wr.heap.size wr w8) := Lib.hid ((HK7.out.alloc hk7 _).grown hg8 (by simp; omega) (fun j e => hlow j e))
      have hk8 := HK8.out.size
      have HN8 : Hid (NodeVs w8 (fun i => i < w8.heap.size) (S.map sampleT ++ [numT 1]) (css ++ [.int .i64 1, .string ⟨#[]⟩, .int .i64 1, .slice none 0 0])) := Lib.hid (NodeVs.append (HNS.out.below HK8.out) (NodeVs.one (NodeV.leaf _ _ 1 [] 1)))
      have HB8 := Lib.hid hB8
      have HT8 := Lib.hid ht8
      clear hrr hone ho7 hinf hz0 hz1' hz2' hown8 hg8 hv8 hlow hB8 ht8
      go_wp2_with fail
      refine (lw_call _ _ _ _ _).mono ?_
      rintro e w9 ⟨rfl, hb9⟩
      have HK9 := Lib.hid (HK8.out.trans (hb9.mono hk8))
      have hk9 := HK9.out.size
      have hnc : NodeV w9 (fun i => i < w9.heap.size) _ _ := row_call (c := c8) HB8.out HT8.out HN8.out (by rw [List.length_append, ← HNl.out]; rfl) hb9 nm
      have hft := fitT_of HOK.out.moreF
      have hof := of_tx _ _ w9 hnc hft.1 hft.2
      rw [HOK.out.more] at hof
      have HOF := Lib.hid hof
      clear hof hnc hft
      go_wp2_with fail
      refine HOF.out.mono ?_
      rintro e w10 ⟨rfl, hb⟩
      have HK10 := Lib.hid (HK9.out.trans (hb.mono HK9.out.size))
      clear hb HOF
      have hk10 := HK10.out.size
      clear hb9
      go_wp2_with fail
      refine (is_errV 12 12 _ (by decide)).mono ?_
      rintro e w' ⟨rfl, rfl⟩
      have hcs : (N = 1 ∧ cl = 1) ∨ (N = 1 ∧ cl ≠ 1) ∨ (N = 2 ∧ cl ≠ 1) ∨ (N = 3 ∧ cl ≠ 1) := by omega
      have hb23 := tmodN at_ N (by omega)
      rcases hcs with ⟨rfl, rfl⟩ | ⟨rfl, hcl⟩ | ⟨rfl, hcl⟩ | ⟨rfl, hcl⟩
      · obtain ⟨b31, b32⟩ : 0 ≤ at_.tmod 1 ∧ at_.tmod 1 ≤ 0 := by
          have h1 : (-(((1 : Nat)) : Int)) < at_.tmod ((1 : Nat) : Int) := hb23.1
          have h2 : at_.tmod ((1 : Nat) : Int) < ((1 : Nat) : Int) := hb23.2
          simp at h1 h2 ⊢
          try omega
        clear hb23
        go_wp2_with fail
        refine (lw_call _ _ _ _ _).mono ?_
        rintro e w11 ⟨rfl, hb11⟩
        have HK11 := Lib.hid (HK10.out.trans (hb11.mono hk10))
        have hk11 := HK11.out.size
        clear hb11
        have hnc : NodeV w11 (fun i => i < w11.heap.size) _ _ := row_cut (n := 1) (c := 0) HBl.out HTl.out HNS.out HNl.out (by decide) HK11.out nm (some ⟨gl, 0, none⟩) (fun h => absurd rfl h)
        have hft := fitT_of HOK.out.lessF
        have hof := of_tx _ _ w11 hnc hft.1 hft.2
        rw [HOK.out.less] at hof
        have HOF := Lib.hid hof
        clear hof hnc hft
        go_wp2_with fail
        refine HOF.out.mono ?_
        rintro e w12 ⟨rfl, hb12⟩
        have HK12 := Lib.hid (HK11.out.trans (hb12.mono hk11))
        have hk12 := HK12.out.size
        clear hb12 HOF
        go_wp2_with fail
        refine (is_errV 12 12 _ (by decide)).mono ?_
        rintro e w' ⟨rfl, rfl⟩
        obtain ⟨j, hj⟩ : ∃ j : Nat, (j : Int) = at_.tmod 1 % 1 := ⟨(at_.tmod 1 % 1).toNat, by omega⟩
        have hjN : j < 1 := by omega
        obtain ⟨t, ht⟩ : ∃ t, t = 1 + other.tmod 4 % 4 := ⟨_, rfl⟩
        have ht1 : 1 ≤ t ∧ t ≤ 4 := by omega
        have HT1 := Lib.hid ht1
        obtain ⟨sv, hsv⟩ : ∃ sv, S[j]? = some sv := ⟨S[j]'(by rw [← HNS'.out]; exact hjN), List.getElem?_eq_getElem _⟩
        have hcs : w12.cell? ⟨w2.heap.size, j, none⟩ = some (.int .i64 sv) := by rw [(HSB.out.below HK12.out hbl).cell]; simp [hsv]
        have HSV := Lib.hid hsv
        have ht2 : 1 + other.tmod 4 % 4 = t := ht.symm
        have ht3 : 1 + (other.tmod 4 + 4) % 4 = t := by omega
        obtain rfl : j = 0 := by omega
        clear hj ht ht1 hsv
        by_cases hts : t = sv
        · have e1 : (t == sv) = true := by simp [hts]
          clear hts
          go_wp2_with fail
          go_ret
          exact ⟨rfl, HBW.out.trans (HK12.out.mono hHS)⟩
        · have e1 : (t == sv) = false := by simpa using hts
          have HTS := Lib.hid hts
          clear hts
          go_wp2_with fail
          refine (sample_any t _).mono ?_
          rintro e w13 ⟨cs13, rfl, hn13, hb13⟩
          obtain ⟨k9, t9, m9, A9, n9, c9, rfl⟩ := hn13.form
          have HK13 := Lib.hid (HK12.out.trans (hb13.mono hk12))
          have hk13 := HK13.out.size
          have hB13 := HBl.out.below HK13.out hgl0
          obtain ⟨o0, o1, o2, o3, f0, f1, f2, f3⟩ := HNS.out.get 0 (by rw [← HNl.out]; decide)
          have hcc : ∀ q u, css[q]? = some u → w13.cell? ⟨gl, q, none⟩ = some u := fun q u hq => by
            rw [hB13.cell]
            rw [← HTl.out, List.getElem?_take] at hq
            split at hq
            · simpa using hq
            · cases hq
          have c0' := hcc _ _ f0
          have c1' := hcc _ _ f1
          have c2' := hcc _ _ f2
          have c3' := hcc _ _ f3
          have z0 := hB13.frozen (0 * 4)
          have z1 := hB13.frozen (0 * 4 + 1)
          have z2 := hB13.frozen (0 * 4 + 2)
          have z3 := hB13.frozen (0 * 4 + 3)
          have HB13 := Lib.hid hB13
          have HN13 := Lib.hid hn13
          clear hcc f0 f1 f2 f3 hB13 hn13 hb13
          simp only [Nat.zero_mul, Nat.zero_add] at c0' c1' c2' c3' z0 z1 z2 z3
          go_wp2_with fail
          have hwk : Below wr.heap.size wr w13 := HK13.out
          obtain ⟨ws, hws⟩ : ∃ ws, ws = ((((w13.setCell ⟨gl, 0 * 4, none⟩ (.int .i64 k9)).setCell ⟨gl, 0 * 4 + 1, none⟩ (.string t9)).setCell ⟨gl, 0 * 4 + 2, none⟩ (.int .i64 m9)).setCell ⟨gl, 0 * 4 + 3, none⟩ (.slice A9 n9 c9)) := ⟨_, rfl⟩
          have hws' := hws
          simp only [Nat.zero_mul, Nat.zero_add] at hws'
          rw [← hws']
          have hsz : ws.heap.size = w13.heap.size := by rw [hws]; simp
          have hBs := (((HB13.out.set_ (0 * 4) (.int .i64 k9)).set_ (0 * 4 + 1) (.string t9)).set_ (0 * 4 + 2) (.int .i64 m9)).set_ (0 * 4 + 3) (.slice A9 n9 c9)
          rw [← hws] at hBs
          have hfar : ∀ i, i ≠ gl → ws.heap[i]? = w13.heap[i]? := fun i hi => by rw [hws]; exact four_row hi
          have hnss : NodeVs ws (fun i => i < ws.heap.size) (S.map sampleT) css := NodeVs.keep (F := fun i => i < wr.heap.size ∧ i ≠ gl) (fun i hi hl => (hfar i hi.2).trans (HK13.out.block i hi.1)) (fun i hi _ => by rw [hsz]; exact Nat.lt_of_lt_of_le hi.1 hk13) HNO.out
          have hn9 : NodeV ws (fun i => i < ws.heap.size) (sampleT t) [.int .i64 k9, .string t9, .int .i64 m9, .slice A9 n9 c9] := NodeV.keep (F := rng w12.heap.size w13.heap.size) (fun i hi hl => hfar i (by have := hi.1; omega)) (fun i hi _ => by rw [hsz]; exact hi.2) HN13.out
          have hcw := HOK.out.wrong 0 t (by rw [← HNS'.out]; decide) HT1.out.1 HT1.out.2 (by rw [HSV.out]; intro e; injection e with e; exact HTS.out e.symm)
          have hbs : Below w.heap.size w ws := by rw [hws]; exact ((((HBW.out.trans (HK13.out.mono hHS)).setCell hbgl _).setCell hbgl _).setCell hbgl _).setCell hbgl _
          have HBS := Lib.hid hbs
          have HNN := Lib.hid (node_calls (F := fun i => i < ws.heap.size) (m := 1) (c := 1) hBs (by rw [hsz]; show gl < _; omega) (NodeVs.set hn9 hnss 0 (by rw [← HNl.out]; decide)) (set_four HTl.out (by decide) (by rw [hszl]; omega)) (by rw [List.length_set, ← HNl.out]) nm)
          have HCW := Lib.hid hcw
          have HSZ := Lib.hid hsz
          clear hws hws' hwk hBs hfar hnss hn9 hcw hbs hsz HB13 c0' c1' c2' c3' z0 z1 z2 z3
          refine (lw_call _ _ _ _ _).mono ?_
          rintro e w14 ⟨rfl, hb14⟩
          have hnc := HNN.out.below hb14
          have hft := fitT_of HCW.out.2
          have hof := of_tx _ _ w14 hnc hft.1 hft.2
          rw [HCW.out.1] at hof
          have HOF := Lib.hid hof
          have HB14 := Lib.hid (HBS.out.trans (hb14.mono HBS.out.size))
          clear hof hnc hft hb14
          go_wp2_with fail
          refine HOF.out.mono ?_
          rintro e w15 ⟨rfl, hb15⟩
          have HB15 := Lib.hid (HB14.out.trans (hb15.mono HB14.out.size))
          clear hb15 HOF
          go_wp2_with fail
          refine (is_errV 12 12 _ (by decide)).mono ?_
          rintro e w' ⟨rfl, rfl⟩
          go_wp2_with fail
          go_ret
          exact ⟨rfl, HB15.out⟩
      · obtain ⟨b31, b32⟩ : 0 ≤ at_.tmod 1 ∧ at_.tmod 1 ≤ 0 := by
          have h1 : (-(((1 : Nat)) : Int)) < at_.tmod ((1 : Nat) : Int) := hb23.1
          have h2 : at_.tmod ((1 : Nat) : Int) < ((1 : Nat) : Int) := hb23.2
          simp at h1 h2 ⊢
          try omega
        clear hb23
        go_wp2_with fail
        refine (lw_call _ _ _ _ _).mono ?_
        rintro e w11 ⟨rfl, hb11⟩
        have HK11 := Lib.hid (HK10.out.trans (hb11.mono hk10))
        have hk11 := HK11.out.size
        clear hb11
        have hnc : NodeV w11 (fun i => i < w11.heap.size) _ _ := row_cut (n := 1) (c := (cl - 1)) HBl.out HTl.out HNS.out HNl.out (by decide) HK11.out nm (some ⟨gl, 4, none⟩) (fun _ => rfl)
        have hft := fitT_of HOK.out.lessF
        have hof := of_tx _ _ w11 hnc hft.1 hft.2
        rw [HOK.out.less] at hof
        have HOF := Lib.hid hof
        clear hof hnc hft
        go_wp2_with fail
        refine HOF.out.mono ?_
        rintro e w12 ⟨rfl, hb12⟩
        have HK12 := Lib.hid (HK11.out.trans (hb12.mono hk11))
        have hk12 := HK12.out.size
        clear hb12 HOF
        go_wp2_with fail
        refine (is_errV 12 12 _ (by decide)).mono ?_
        rintro e w' ⟨rfl, rfl⟩
        obtain ⟨j, hj⟩ : ∃ j : Nat, (j : Int) = at_.tmod 1 % 1 := ⟨(at_.tmod 1 % 1).toNat, by omega⟩
        have hjN : j < 1 := by omega
        obtain ⟨t, ht⟩ : ∃ t, t = 1 + other.tmod 4 % 4 := ⟨_, rfl⟩
        have ht1 : 1 ≤ t ∧ t ≤ 4 := by omega
        have HT1 := Lib.hid ht1
        obtain ⟨sv, hsv⟩ : ∃ sv, S[j]? = some sv := ⟨S[j]'(by rw [← HNS'.out]; exact hjN), List.getElem?_eq_getElem _⟩
        have hcs : w12.cell? ⟨w2.heap.size, j, none⟩ = some (.int .i64 sv) := by rw [(HSB.out.below HK12.out hbl).cell]; simp [hsv]
        have HSV := Lib.hid hsv
        have ht2 : 1 + other.tmod 4 % 4 = t := ht.symm
        have ht3 : 1 + (other.tmod 4 + 4) % 4 = t := by omega
        obtain rfl : j = 0 := by omega
        clear hj ht ht1 hsv
        by_cases hts : t = sv
        · have e1 : (t == sv) = true := by simp [hts]
          clear hts
          go_wp2_with fail
          go_ret
          exact ⟨rfl, HBW.out.trans (HK12.out.mono hHS)⟩
        · have e1 : (t == sv) = false := by simpa using hts
          have HTS := Lib.hid hts
          clear hts
          go_wp2_with fail
          refine (sample_any t _).mono ?_
          rintro e w13 ⟨cs13, rfl, hn13, hb13⟩
          obtain ⟨k9, t9, m9, A9, n9, c9, rfl⟩ := hn13.form
          have HK13 := Lib.hid (HK12.out.trans (hb13.mono hk12))
          have hk13 := HK13.out.size
          have hB13 := HBl.out.below HK13.out hgl0
          obtain ⟨o0, o1, o2, o3, f0, f1, f2, f3⟩ := HNS.out.get 0 (by rw [← HNl.out]; decide)
          have hcc : ∀ q u, css[q]? = some u → w13.cell? ⟨gl, q, none⟩ = some u := fun q u hq => by
            rw [hB13.cell]
            rw [← HTl.out, List.getElem?_take] at hq
            split at hq
            · simpa using hq
            · cases hq
          have c0' := hcc _ _ f0
          have c1' := hcc _ _ f1
          have c2' := hcc _ _ f2
          have c3' := hcc _ _ f3
          have z0 := hB13.frozen (0 * 4)
          have z1 := hB13.frozen (0 * 4 + 1)
          have z2 := hB13.frozen (0 * 4 + 2)
          have z3 := hB13.frozen (0 * 4 + 3)
          have HB13 := Lib.hid hB13
          have HN13 := Lib.hid hn13
          clear hcc f0 f1 f2 f3 hB13 hn13 hb13
          simp only [Nat.zero_mul, Nat.zero_add] at c0' c1' c2' c3' z0 z1 z2 z3
          go_wp2_with fail
          have hwk : Below wr.heap.size wr w13 := HK13.out
          obtain ⟨ws, hws⟩ : ∃ ws, ws = ((((w13.setCell ⟨gl, 0 * 4, none⟩ (.int .i64 k9)).setCell ⟨gl, 0 * 4 + 1, none⟩ (.string t9)).setCell ⟨gl, 0 * 4 + 2, none⟩ (.int .i64 m9)).setCell ⟨gl, 0 * 4 + 3, none⟩ (.slice A9 n9 c9)) := ⟨_, rfl⟩
          have hws' := hws
          simp only [Nat.zero_mul, Nat.zero_add] at hws'
          rw [← hws']
          have hsz : ws.heap.size = w13.heap.size := by rw [hws]; simp
          have hBs := (((HB13.out.set_ (0 * 4) (.int .i64 k9)).set_ (0 * 4 + 1) (.string t9)).set_ (0 * 4 + 2) (.int .i64 m9)).set_ (0 * 4 + 3) (.slice A9 n9 c9)
          rw [← hws] at hBs
          have hfar : ∀ i, i ≠ gl → ws.heap[i]? = w13.heap[i]? := fun i hi => by rw [hws]; exact four_row hi
          have hnss : NodeVs ws (fun i => i < ws.heap.size) (S.map sampleT) css := NodeVs.keep (F := fun i => i < wr.heap.size ∧ i ≠ gl) (fun i hi hl => (hfar i hi.2).trans (HK13.out.block i hi.1)) (fun i hi _ => by rw [hsz]; exact Nat.lt_of_lt_of_le hi.1 hk13) HNO.out
          have hn9 : NodeV ws (fun i => i < ws.heap.size) (sampleT t) [.int .i64 k9, .string t9, .int .i64 m9, .slice A9 n9 c9] := NodeV.keep (F := rng w12.heap.size w13.heap.size) (fun i hi hl => hfar i (by have := hi.1; omega)) (fun i hi _ => by rw [hsz]; exact hi.2) HN13.out
          have hcw := HOK.out.wrong 0 t (by rw [← HNS'.out]; decide) HT1.out.1 HT1.out.2 (by rw [HSV.out]; intro e; injection e with e; exact HTS.out e.symm)
          have hbs : Below w.heap.size w ws := by rw [hws]; exact ((((HBW.out.trans (HK13.out.mono hHS)).setCell hbgl _).setCell hbgl _).setCell hbgl _).setCell hbgl _
          have HBS := Lib.hid hbs
          have HNN := Lib.hid (node_calls (F := fun i => i < ws.heap.size) (m := 1) (c := cl) hBs (by rw [hsz]; show gl < _; omega) (NodeVs.set hn9 hnss 0 (by rw [← HNl.out]; decide)) (set_four HTl.out (by decide) (by rw [hszl]; omega)) (by rw [List.length_set, ← HNl.out]) nm)
          have HCW := Lib.hid hcw
          have HSZ := Lib.hid hsz
          clear hws hws' hwk hBs hfar hnss hn9 hcw hbs hsz HB13 c0' c1' c2' c3' z0 z1 z2 z3
          refine (lw_call _ _ _ _ _).mono ?_
          rintro e w14 ⟨rfl, hb14⟩
          have hnc := HNN.out.below hb14
          have hft := fitT_of HCW.out.2
          have hof := of_tx _ _ w14 hnc hft.1 hft.2
          rw [HCW.out.1] at hof
          have HOF := Lib.hid hof
          have HB14 := Lib.hid (HBS.out.trans (hb14.mono HBS.out.size))
          clear hof hnc hft hb14
          go_wp2_with fail
          refine HOF.out.mono ?_
          rintro e w15 ⟨rfl, hb15⟩
          have HB15 := Lib.hid (HB14.out.trans (hb15.mono HB14.out.size))
          clear hb15 HOF
          go_wp2_with fail
          refine (is_errV 12 12 _ (by decide)).mono ?_
          rintro e w' ⟨rfl, rfl⟩
          go_wp2_with fail
          go_ret
          exact ⟨rfl, HB15.out⟩
      · obtain ⟨b31, b32⟩ : -1 ≤ at_.tmod 2 ∧ at_.tmod 2 ≤ 1 := by
          have h1 : (-(((2 : Nat)) : Int)) < at_.tmod ((2 : Nat) : Int) := hb23.1
          have h2 : at_.tmod ((2 : Nat) : Int) < ((2 : Nat) : Int) := hb23.2
          simp at h1 h2 ⊢
          try omega
        clear hb23
        go_wp2_with fail
        refine (lw_call _ _ _ _ _).mono ?_
        rintro e w11 ⟨rfl, hb11⟩
        have HK11 := Lib.hid (HK10.out.trans (hb11.mono hk10))
        have hk11 := HK11.out.size
        clear hb11
        have hnc : NodeV w11 (fun i => i < w11.heap.size) _ _ := row_cut (n := 2) (c := (cl - 1)) HBl.out HTl.out HNS.out HNl.out (by decide) HK11.out nm (some ⟨gl, 4, none⟩) (fun _ => rfl)
        have hft := fitT_of HOK.out.lessF
        have hof := of_tx _ _ w11 hnc hft.1 hft.2
        rw [HOK.out.less] at hof
        have HOF := Lib.hid hof
        clear hof hnc hft
        go_wp2_with fail
        refine HOF.out.mono ?_
        rintro e w12 ⟨rfl, hb12⟩
        have HK12 := Lib.hid (HK11.out.trans (hb12.mono hk11))
        have hk12 := HK12.out.size
        clear hb12 HOF
        go_wp2_with fail
        refine (is_errV 12 12 _ (by decide)).mono ?_
        rintro e w' ⟨rfl, rfl⟩
        obtain ⟨j, hj⟩ : ∃ j : Nat, (j : Int) = at_.tmod 2 % 2 := ⟨(at_.tmod 2 % 2).toNat, by omega⟩
        have hjN : j < 2 := by omega
        obtain ⟨t, ht⟩ : ∃ t, t = 1 + other.tmod 4 % 4 := ⟨_, rfl⟩
        have ht1 : 1 ≤ t ∧ t ≤ 4 := by omega
        have HT1 := Lib.hid ht1
        obtain ⟨sv, hsv⟩ : ∃ sv, S[j]? = some sv := ⟨S[j]'(by rw [← HNS'.out]; exact hjN), List.getElem?_eq_getElem _⟩
        have hcs : w12.cell? ⟨w2.heap.size, j, none⟩ = some (.int .i64 sv) := by rw [(HSB.out.below HK12.out hbl).cell]; simp [hsv]
        have HSV := Lib.hid hsv
        have hj2 : at_.tmod 2 % 2 = (j : Int) := hj.symm
        have hj3 : (at_.tmod 2 + 2) % 2 = (j : Int) := by omega
        have ht2 : 1 + other.tmod 4 % 4 = t := ht.symm
        have ht3 : 1 + (other.tmod 4 + 4) % 4 = t := by omega
        have j1 : (0 : Int) ≤ (j : Int) := by omega
        have j2 : (j : Int) < 2 := by omega
        have HJ := Lib.hid hj
        clear hj ht ht1 hsv
        by_cases hts : t = sv
        · have e1 : (t == sv) = true := by simp [hts]
          clear hts
          go_wp2_with fail
          go_ret
          exact ⟨rfl, HBW.out.trans (HK12.out.mono hHS)⟩
        · have e1 : (t == sv) = false := by simpa using hts
          have HTS := Lib.hid hts
          clear hts
          go_wp2_with fail
          refine (sample_any t _).mono ?_
          rintro e w13 ⟨cs13, rfl, hn13, hb13⟩
          obtain ⟨k9, t9, m9, A9, n9, c9, rfl⟩ := hn13.form
          have HK13 := Lib.hid (HK12.out.trans (hb13.mono hk12))
          have hk13 := HK13.out.size
          have hB13 := HBl.out.below HK13.out hgl0
          obtain ⟨o0, o1, o2, o3, f0, f1, f2, f3⟩ := HNS.out.get j (by rw [← HNl.out]; omega)
          have hcc : ∀ q u, css[q]? = some u → w13.cell? ⟨gl, q, none⟩ = some u := fun q u hq => by
            rw [hB13.cell]
            rw [← HTl.out, List.getElem?_take] at hq
            split at hq
            · simpa using hq
            · cases hq
          have c0' := hcc _ _ f0
          have c1' := hcc _ _ f1
          have c2' := hcc _ _ f2
          have c3' := hcc _ _ f3
          have z0 := hB13.frozen (j * 4)
          have z1 := hB13.frozen (j * 4 + 1)
          have z2 := hB13.frozen (j * 4 + 2)
          have z3 := hB13.frozen (j * 4 + 3)
          have HB13 := Lib.hid hB13
          have HN13 := Lib.hid hn13
          clear hcc f0 f1 f2 f3 hB13 hn13 hb13
          go_wp2_with fail
          have hwk : Below wr.heap.size wr w13 := HK13.out
          obtain ⟨ws, hws⟩ : ∃ ws, ws = ((((w13.setCell ⟨gl, j * 4, none⟩ (.int .i64 k9)).setCell ⟨gl, j * 4 + 1, none⟩ (.string t9)).setCell ⟨gl, j * 4 + 2, none⟩ (.int .i64 m9)).setCell ⟨gl, j * 4 + 3, none⟩ (.slice A9 n9 c9)) := ⟨_, rfl⟩
          have hws' := hws
          rw [← hws']
          have hsz : ws.heap.size = w13.heap.size := by rw [hws]; simp
          have hBs := (((HB13.out.set_ (j * 4) (.int .i64 k9)).set_ (j * 4 + 1) (.string t9)).set_ (j * 4 + 2) (.int .i64 m9)).set_ (j * 4 + 3) (.slice A9 n9 c9)
          rw [← hws] at hBs
          have hfar : ∀ i, i ≠ gl → ws.heap[i]? = w13.heap[i]? := fun i hi => by rw [hws]; exact four_row hi
          have hnss : NodeVs ws (fun i => i < ws.heap.size) (S.map sampleT) css := NodeVs.keep (F := fun i => i < wr.heap.size ∧ i ≠ gl) (fun i hi hl => (hfar i hi.2).trans (HK13.out.block i hi.1)) (fun i hi _ => by rw [hsz]; exact Nat.lt_of_lt_of_le hi.1 hk13) HNO.out
          have hn9 : NodeV ws (fun i => i < ws.heap.size) (sampleT t) [.int .i64 k9, .string t9, .int .i64 m9, .slice A9 n9 c9] := NodeV.keep (F := rng w12.heap.size w13.heap.size) (fun i hi hl => hfar i (by have := hi.1; omega)) (fun i hi _ => by rw [hsz]; exact hi.2) HN13.out
          have hcw := HOK.out.wrong j t (by rw [← HNS'.out]; omega) HT1.out.1 HT1.out.2 (by rw [HSV.out]; intro e; injection e with e; exact HTS.out e.symm)
          have hbs : Below w.heap.size w ws := by rw [hws]; exact ((((HBW.out.trans (HK13.out.mono hHS)).setCell hbgl _).setCell hbgl _).setCell hbgl _).setCell hbgl _
          have HBS := Lib.hid hbs
          have HNN := Lib.hid (node_calls (F := fun i => i < ws.heap.size) (m := 2) (c := cl) hBs (by rw [hsz]; show gl < _; omega) (NodeVs.set hn9 hnss j (by rw [← HNl.out]; omega)) (set_four HTl.out hjN (by rw [hszl]; omega)) (by rw [List.length_set, ← HNl.out]) nm)
          have HCW := Lib.hid hcw
          have HSZ := Lib.hid hsz
          clear hws hws' hwk hBs hfar hnss hn9 hcw hbs hsz HB13 c0' c1' c2' c3' z0 z1 z2 z3
          refine (lw_call _ _ _ _ _).mono ?_
          rintro e w14 ⟨rfl, hb14⟩
          have hnc := HNN.out.below hb14
          have hft := fitT_of HCW.out.2
          have hof := of_tx _ _ w14 hnc hft.1 hft.2
          rw [HCW.out.1] at hof
          have HOF := Lib.hid hof
          have HB14 := Lib.hid (HBS.out.trans (hb14.mono HBS.out.size))
          clear hof hnc hft hb14
          go_wp2_with fail
          refine HOF.out.mono ?_
          rintro e w15 ⟨rfl, hb15⟩
          have HB15 := Lib.hid (HB14.out.trans (hb15.mono HB14.out.size))
          clear hb15 HOF
          go_wp2_with fail
          refine (is_errV 12 12 _ (by decide)).mono ?_
          rintro e w' ⟨rfl, rfl⟩
          go_wp2_with fail
          go_ret
          exact ⟨rfl, HB15.out⟩
      · obtain ⟨b31, b32⟩ : -2 ≤ at_.tmod 3 ∧ at_.tmod 3 ≤ 2 := by
          have h1 : (-(((3 : Nat)) : Int)) < at_.tmod ((3 : Nat) : Int) := hb23.1
          have h2 : at_.tmod ((3 : Nat) : Int) < ((3 : Nat) : Int) := hb23.2
          simp at h1 h2 ⊢
          try omega
        clear hb23
        go_wp2_with fail
        refine (lw_call _ _ _ _ _).mono ?_
        rintro e w11 ⟨rfl, hb11⟩
        have HK11 := Lib.hid (HK10.out.trans (hb11.mono hk10))
        have hk11 := HK11.out.size
        clear hb11
        have hnc : NodeV w11 (fun i => i < w11.heap.size) _ _ := row_cut (n := 3) (c := (cl - 1)) HBl.out HTl.out HNS.out HNl.out (by decide) HK11.out nm (some ⟨gl, 4, none⟩) (fun _ => rfl)
        have hft := fitT_of HOK.out.lessF
        have hof := of_tx _ _ w11 hnc hft.1 hft.2
        rw [HOK.out.less] at hof
        have HOF := Lib.hid hof
        clear hof hnc hft
        go_wp2_with fail
        refine HOF.out.mono ?_
        rintro e w12 ⟨rfl, hb12⟩
        have HK12 := Lib.hid (HK11.out.trans (hb12.mono hk11))
        have hk12 := HK12.out.size
        clear hb12 HOF
        go_wp2_with fail
        refine (is_errV 12 12 _ (by decide)).mono ?_
        rintro e w' ⟨rfl, rfl⟩
        obtain ⟨j, hj⟩ : ∃ j : Nat, (j : Int) = at_.tmod 3 % 3 := ⟨(at_.tmod 3 % 3).toNat, by omega⟩
        have hjN : j < 3 := by omega
        obtain ⟨t, ht⟩ : ∃ t, t = 1 + other.tmod 4 % 4 := ⟨_, rfl⟩
        have ht1 : 1 ≤ t ∧ t ≤ 4 := by omega
        have HT1 := Lib.hid ht1
        obtain ⟨sv, hsv⟩ : ∃ sv, S[j]? = some sv := ⟨S[j]'(by rw [← HNS'.out]; exact hjN), List.getElem?_eq_getElem _⟩
        have hcs : w12.cell? ⟨w2.heap.size, j, none⟩ = some (.int .i64 sv) := by rw [(HSB.out.below HK12.out hbl).cell]; simp [hsv]
        have HSV := Lib.hid hsv
        have hj2 : at_.tmod 3 % 3 = (j : Int) := hj.symm
        have hj3 : (at_.tmod 3 + 3) % 3 = (j : Int) := by omega
        have ht2 : 1 + other.tmod 4 % 4 = t := ht.symm
        have ht3 : 1 + (other.tmod 4 + 4) % 4 = t := by omega
        have j1 : (0 : Int) ≤ (j : Int) := by omega
        have j2 : (j : Int) < 3 := by omega
        have HJ := Lib.hid hj
        clear hj ht ht1 hsv
        by_cases hts : t = sv
        · have e1 : (t == sv) = true := by simp [hts]
          clear hts
          go_wp2_with fail
          go_ret
          exact ⟨rfl, HBW.out.trans (HK12.out.mono hHS)⟩
        · have e1 : (t == sv) = false := by simpa using hts
          have HTS := Lib.hid hts
          clear hts
          go_wp2_with fail
          refine (sample_any t _).mono ?_
          rintro e w13 ⟨cs13, rfl, hn13, hb13⟩
          obtain ⟨k9, t9, m9, A9, n9, c9, rfl⟩ := hn13.form
          have HK13 := Lib.hid (HK12.out.trans (hb13.mono hk12))
          have hk13 := HK13.out.size
          have hB13 := HBl.out.below HK13.out hgl0
          obtain ⟨o0, o1, o2, o3, f0, f1, f2, f3⟩ := HNS.out.get j (by rw [← HNl.out]; omega)
          have hcc : ∀ q u, css[q]? = some u → w13.cell? ⟨gl, q, none⟩ = some u := fun q u hq => by
            rw [hB13.cell]
            rw [← HTl.out, List.getElem?_take] at hq
            split at hq
            · simpa using hq
            · cases hq
          have c0' := hcc _ _ f0
          have c1' := hcc _ _ f1
          have c2' := hcc _ _ f2
          have c3' := hcc _ _ f3
          have z0 := hB13.frozen (j * 4)
          have z1 := hB13.frozen (j * 4 + 1)
          have z2 := hB13.frozen (j * 4 + 2)
          have z3 := hB13.frozen (j * 4 + 3)
          have HB13 := Lib.hid hB13
          have HN13 := Lib.hid hn13
          clear hcc f0 f1 f2 f3 hB13 hn13 hb13
          go_wp2_with fail
          have hwk : Below wr.heap.size wr w13 := HK13.out
          obtain ⟨ws, hws⟩ : ∃ ws, ws = ((((w13.setCell ⟨gl, j * 4, none⟩ (.int .i64 k9)).setCell ⟨gl, j * 4 + 1, none⟩ (.string t9)).setCell ⟨gl, j * 4 + 2, none⟩ (.int .i64 m9)).setCell ⟨gl, j * 4 + 3, none⟩ (.slice A9 n9 c9)) := ⟨_, rfl⟩
          have hws' := hws
          rw [← hws']
          have hsz : ws.heap.size = w13.heap.size := by rw [hws]; simp
          have hBs := (((HB13.out.set_ (j * 4) (.int .i64 k9)).set_ (j * 4 + 1) (.string t9)).set_ (j * 4 + 2) (.int .i64 m9)).set_ (j * 4 + 3) (.slice A9 n9 c9)
          rw [← hws] at hBs
          have hfar : ∀ i, i ≠ gl → ws.heap[i]? = w13.heap[i]? := fun i hi => by rw [hws]; exact four_row hi
          have hnss : NodeVs ws (fun i => i < ws.heap.size) (S.map sampleT) css := NodeVs.keep (F := fun i => i < wr.heap.size ∧ i ≠ gl) (fun i hi hl => (hfar i hi.2).trans (HK13.out.block i hi.1)) (fun i hi _ => by rw [hsz]; exact Nat.lt_of_lt_of_le hi.1 hk13) HNO.out
          have hn9 : NodeV ws (fun i => i < ws.heap.size) (sampleT t) [.int .i64 k9, .string t9, .int .i64 m9, .slice A9 n9 c9] := NodeV.keep (F := rng w12.heap.size w13.heap.size) (fun i hi hl => hfar i (by have := hi.1; omega)) (fun i hi _ => by rw [hsz]; exact hi.2) HN13.out
          have hcw := HOK.out.wrong j t (by rw [← HNS'.out]; omega) HT1.out.1 HT1.out.2 (by rw [HSV.out]; intro e; injection e with e; exact HTS.out e.symm)
          have hbs : Below w.heap.size w ws := by rw [hws]; exact ((((HBW.out.trans (HK13.out.mono hHS)).setCell hbgl _).setCell hbgl _).setCell hbgl _).setCell hbgl _
          have HBS := Lib.hid hbs
          have HNN := Lib.hid (node_calls (F := fun i => i < ws.heap.size) (m := 3) (c := cl) hBs (by rw [hsz]; show gl < _; omega) (NodeVs.set hn9 hnss j (by rw [← HNl.out]; omega)) (set_four HTl.out hjN (by rw [hszl]; omega)) (by rw [List.length_set, ← HNl.out]) nm)
          have HCW := Lib.hid hcw
          have HSZ := Lib.hid hsz
          clear hws hws' hwk hBs hfar hnss hn9 hcw hbs hsz HB13 c0' c1' c2' c3' z0 z1 z2 z3
          refine (lw_call _ _ _ _ _).mono ?_
          rintro e w14 ⟨rfl, hb14⟩
          have hnc := HNN.out.below hb14
          have hft := fitT_of HCW.out.2
          have hof := of_tx _ _ w14 hnc hft.1 hft.2
          rw [HCW.out.1] at hof
          have HOF := Lib.hid hof
          have HB14 := Lib.hid (HBS.out.trans (hb14.mono HBS.out.size))
          clear hof hnc hft hb14
          go_wp2_with fail
          refine HOF.out.mono ?_
          rintro e w15 ⟨rfl, hb15⟩
          have HB15 := Lib.hid (HB14.out.trans (hb15.mono HB14.out.size))
          clear hb15 HOF
          go_wp2_with fail
          refine (is_errV 12 12 _ (by decide)).mono ?_
          rintro e w' ⟨rfl, rfl⟩
          go_wp2_with fail
          go_ret
          exact ⟨rfl, HB15.out⟩
end Go.Proofs.Ytfdpohceoabinaa
