/- The walks of slices.Clone of steps and of optimize.newEditor. -/
import Derived.Test.YtniefnjcimempaarRy2
import Derived.Test.YtniefnjcimempaarRi
import Derived.Test.YtniefnjcimempaarShelf
import Derived.Deep.RegionHeld3
import Derived.Lib.SliceRun
namespace Go.Proofs.Ytniefnjcimempaa
open Go.RowKit
theorem own_zero (w : World) (e : TypeId) (size : Nat) : (w.alloc (.cells #[] e)).ownsRow w.heap.size e size (.slice (some ⟨w.heap.size, 0, none⟩) 0 0) 0 [] :=
  ⟨by simp, .inr ⟨w.heap.size, 0, #[], rfl, Nat.le_refl _, heap_alloc_new w _, Nat.le_refl _, by unfold maxLen; omega, by simp, by simp⟩⟩
set_option maxRecDepth 100000 in
theorem clone_steps (b o n c : Nat) (css : List Value) (w : World) (hn : n ≤ 100000) (h : Reads w w.heap.size 5 (some ⟨b, o, none⟩) n css) (h1 : ∀ u ∈ css, u.oneCell' = true) :
    Calls Try.prog 52 #[.slice (some ⟨b, o, none⟩) n c] w fun e w' => ∃ v', e = .returned v' ∧ w'.ownsRow w.heap.size 25 5 v' n css ∧ Below w.heap.size w w' := by
  obtain ⟨i0, hinf, hz0, hz1, hz2⟩ := info_parts infoPStep
  have HR := Lib.hid ((h.below (below_alloc w (.cells #[] 25))))
  have H1 := Lib.hid h1
  have HO := Lib.hid (own_zero w 25 5)
  have heq : ∀ W : World, (binOp .eql 26 (.slice (some ⟨b, o, none⟩) n c) (.slice none 0 0)).run Try.prog W = .ok (.bool false) W := fun W => Lib.run_eql_slice_nil W 26 25 (some ⟨b, o, none⟩) n c 0 0 Try.underlying26
  clear h h1
  go_enter Try.func52, Try.ntmps52
  go_wp2_with (at_builtin; refine wpList_append_any _ rfl (.tmp 5) (.tmp 6) 26 rfl w.heap.size 25 i0 (.agg #[.string ⟨#[]⟩, .slice none 0 0, .int .i64 0, .string ⟨#[]⟩, .int .i64 0]) 5 72 Try.underlying26 hinf hz0 hz1 hz2 rfl (by decide) _ 0 [] rfl HO.out _ _ n c css rfl HR.out H1.out (by unfold maxLen; omega) (by omega) (by simp) ?_)
  intro v2 w2 ho2 hg2 _
  have HO2 := Lib.hid ho2
  have HB2 := Lib.hid (below_own (below_alloc w (.cells #[] 25)) (by simp) (Nat.le_refl _) HO.out hg2)
  clear ho2 hg2
  go_wp2_with fail
  go_ret
  exact ⟨_, rfl, by simpa using HO2.out, HB2.out⟩
theorem clone_ints (As : Option Addr) (c : Nat) (zs : List Int) (w : World) (hn : zs.length ≤ 100000) (h : Reads w w.heap.size 1 As zs.length (zs.map (Value.int .i64))) :
    Calls Try.prog 53 #[.slice As zs.length c] w fun e w' => ∃ A' c', e = .returned (.slice A' zs.length c') ∧ w'.ownsRow w.heap.size 3 1 (.slice A' zs.length c') zs.length (zs.map (Value.int .i64)) ∧ Below w.heap.size w w' := by
  rcases Nat.eq_zero_or_pos zs.length with h0 | h0
  · have hz : zs = [] := List.eq_nil_of_length_eq_zero h0
    subst hz
    cases As with
    | none =>
      refine (Try.slices_Clone_int_nil 0 c w).mono ?_
      rintro e w' ⟨rfl, rfl⟩
      exact ⟨none, 0, rfl, ⟨rfl, .inl ⟨rfl, rfl⟩⟩, Below.refl _ _⟩
    | some a =>
      refine (Try.slices_Clone_int_zero a c w).mono ?_
      rintro e w' ⟨v', rfl, ho, _, hb⟩
      obtain ⟨A', c', rfl⟩ := own_form ho
      exact ⟨A', c', rfl, ho, hb⟩
  · obtain ⟨b, o, rfl, _, hc⟩ := h.form h0
    refine (Try.slices_Clone_int b o zs.length c zs w (Nat.le_refl _) (by omega) (fun j hj => ?_)).mono ?_
    · exact hc j _ (by rw [List.getElem?_map, List.getElem?_eq_getElem hj, List.getD_eq_getElem?_getD, List.getElem?_eq_getElem hj]; rfl)
    · rintro e w' ⟨v', rfl, ho, _, hb⟩
      rw [List.take_length] at ho
      obtain ⟨A', c', rfl⟩ := own_form ho
      exact ⟨A', c', rfl, ho, hb⟩
theorem stvs_one {w : World} {F : Nat → Prop} : ∀ {l : List St} {cs : List Value}, StVs w F l cs → ∀ u ∈ cs, u.oneCell' = true
  | [], cs, h, u, hu => by
    have h : cs = [] := h
    rw [h] at hu
    cases hu
  | s :: l, cs, h, u, hu => by
    obtain ⟨a, b, rfl, ⟨A, c, rfl, _⟩, h3⟩ := h
    rcases List.mem_append.1 hu with hu | hu
    · simp only [List.mem_cons, List.not_mem_nil, or_false] at hu
      rcases hu with rfl | rfl | rfl | rfl | rfl <;> rfl
    · exact stvs_one h3 u hu
theorem ed_new {w w1 : World} {l : List St} {css : List Value} {v : Value} (hp : StVs w (fun i => i < w.heap.size) l css) (hl : 0 < l.length) (hn : l.length ≤ 100000) (hb : Below w.heap.size w w1) (ho : w1.ownsRow w.heap.size 25 5 v l.length css) :
    ∃ gs cap, v = .slice (some ⟨gs, 0, none⟩) l.length cap ∧ w.heap.size ≤ gs ∧ gs < w1.heap.size ∧ ∀ V, EdAt (w1.alloc (.cells #[v, V] 83)) w1.heap.size gs cap l V := by
  obtain ⟨gs, cap, cur, rfl, hnc, hbg, hB, hsz, ht, _⟩ := own_full ho hl
  refine ⟨gs, cap, rfl, hbg, hB.lt, fun V => ⟨Blk.new _ _ _, fun i s hs => ?_, ⟨cur, hB.alloc _, hsz, fun i v hi hv => ?_⟩, hnc, hn⟩⟩
  · obtain ⟨cs, ⟨A, c, rfl, hr⟩, hg⟩ := hp.get i s hs
    have hil := (List.getElem?_eq_some_iff.1 hs).1
    have hc : ∀ (j : Nat) u, ([.string ⟨s.op.toArray⟩, .slice A s.args.length c, .int .i64 s.num, .string ⟨s.text.toArray⟩, .int .i64 s.ty] : List Value)[j]? = some u → (w1.alloc (.cells #[.slice (some ⟨gs, 0, none⟩) l.length cap, V] 83)).cell? ⟨gs, i * 5 + j, none⟩ = some u := fun j u hj => by
      rw [(hB.alloc _).cell]
      have h := hg j u hj
      have hj5 := (List.getElem?_eq_some_iff.1 hj).1
      rw [← ht, List.getElem?_take] at h
      split at h
      · simpa using h
      · cases h
    exact ⟨A, c, hc 0 _ rfl, hc 1 _ rfl, hc 2 _ rfl, hc 3 _ rfl, hc 4 _ rfl, hr.keep (fun b hb' hl => (Below.heap_alloc w1 _ b (Nat.lt_of_lt_of_le hl hb.size)).trans (hb.block b hl)) (Nat.le_trans hb.size (by simp)) (fun b hb' _ => ⟨by have : b < w.heap.size := hb'; have := hb.size; omega, by have : b < w.heap.size := hb'; omega⟩)⟩
  · have hm : cur.toList[i]? = some v := by rw [Array.getElem?_toList]; exact hv
    have : css[i]? = some v := by rw [← ht, List.getElem?_take, if_pos hi]; exact hm
    exact stvs_one hp v (List.mem_of_getElem? this)
theorem EdAt.arg {w w1 : World} {g gs cap i : Nat} {l : List St} {V : Value} {s : St} (h : EdAt w g gs cap l V) (hs : l[i]? = some s) (hb : Below w.heap.size w w1) (A' : Option Addr) (c' : Nat) (ho : w1.ownsRow w.heap.size 3 1 (.slice A' s.args.length c') s.args.length (s.args.map (Value.int .i64))) :
    EdAt (w1.setCell ⟨gs, i * 5 + 1, none⟩ (.slice A' s.args.length c')) g gs cap l V := by
  have h1 := h.below hb
  obtain ⟨cs, e1, e2, e3⟩ := h1.blk
  have hne := h.ne
  have hgl := h.ed.lt
  have hgsl := h.gs_lt
  have hle := h.le
  have hil := (List.getElem?_eq_some_iff.1 hs).1
  have hk : ∀ b, b ≠ gs → (w1.setCell ⟨gs, i * 5 + 1, none⟩ (.slice A' s.args.length c')).heap[b]? = w1.heap[b]? := fun b hbn => Below.heap_setCell w1 ⟨gs, i * 5 + 1, none⟩ _ b hbn
  have hB := e1.set_ (i * 5 + 1) (.slice A' s.args.length c')
  refine ⟨h1.ed.far (p := ⟨gs, i * 5 + 1, none⟩) hne _, fun j t ht => ?_, ⟨_, hB, by rw [Array.size_setIfInBounds]; exact e2, fun j v hj hv => ?_⟩, hle, h.cap⟩
  · obtain ⟨As, c, x0, x1, x2, x3, x4, hr⟩ := h1.st j t ht
    have hc : ∀ k, j * 5 + k ≠ i * 5 + 1 → (w1.setCell ⟨gs, i * 5 + 1, none⟩ (.slice A' s.args.length c')).cell? ⟨gs, j * 5 + k, none⟩ = w1.cell? ⟨gs, j * 5 + k, none⟩ := fun k hk => by
      rw [hB.cell, e1.cell, Array.getElem?_setIfInBounds_ne (fun e => hk e.symm)]
    have hr' := hr.keep (w' := w1.setCell ⟨gs, i * 5 + 1, none⟩ (.slice A' s.args.length c')) (fun b hb _ => hk b hb.2) (by simp) (fun _ hb _ => hb)
    by_cases hij : i = j
    · subst hij
      obtain rfl : t = s := by rw [hs] at ht; injection ht with ht; exact ht.symm
      refine ⟨A', c', (hc 0 (by omega)).trans x0, ?_, (hc 2 (by omega)).trans x2, (hc 3 (by omega)).trans x3, (hc 4 (by omega)).trans x4, ?_⟩
      · rw [hB.cell, Array.getElem?_setIfInBounds_self_of_lt (by omega)]
      · refine ⟨by simp, fun h0 => ?_⟩
        obtain ⟨q, c2, cur, hv, hnc, hbg, hB2, hsz, htk, _⟩ := own_full ho h0
        injection hv with hA _ hc2
        subst hA
        have hqs : q ≠ gs := by omega
        refine ⟨q, 0, rfl, ⟨by omega, hqs⟩, by simpa using hB2.lt, fun k u hu => ?_⟩
        rw [World.cell?_of_block (a := ⟨q, 0 + k, none⟩) (hk q hqs), Nat.zero_add, hB2.cell, ← Array.getElem?_toList]
        rw [← htk, List.getElem?_take] at hu
        split at hu
        · exact hu
        · cases hu
    · exact ⟨As, c, (hc 0 (by omega)).trans x0, (hc 1 (by omega)).trans x1, (hc 2 (by omega)).trans x2, (hc 3 (by omega)).trans x3, (hc 4 (by omega)).trans x4, hr'⟩
  · by_cases hij : j = i * 5 + 1
    · subst hij
      rw [Array.getElem?_setIfInBounds_self_of_lt (by omega)] at hv
      injection hv with hv
      rw [← hv]
      rfl
    · rw [Array.getElem?_setIfInBounds_ne (fun e => hij e.symm)] at hv
      exact e3 j v hj hv
def NeRel (w : World) (g gs cap : Nat) (l : List St) (f : Nat) (i : Value) (wr : World) : Prop := ∃ k : Nat, i = .int .i64 k ∧ k ≤ l.length ∧ l.length - k < f ∧ Hid (EdAt wr g gs cap l (.slice none 0 0)) ∧ Hid (Below w.heap.size w wr)
set_option maxRecDepth 100000 in
set_option maxHeartbeats 8000000 in
theorem newEditor_any (A : Option Addr) (c : Nat) (l : List St) (w : World) (hp : PlAt w (fun i => i < w.heap.size) A l) (hl : 0 < l.length) (hn : l.length ≤ 100000) (hr : ∀ s ∈ l, s.args.length ≤ 3 ∧ ∀ a ∈ s.args, 0 ≤ a ∧ a < (l.length : Int)) :
    Calls Try.prog 34 #[.agg #[.slice A l.length c]] w fun e w' => ∃ g gs cap gu, e = .returned (.pointer (some ⟨g, 0, none⟩)) ∧ EdAt w' g gs cap l (.slice (some ⟨gu, 0, none⟩) l.length l.length) ∧ Blk w' gu 3 (uarr (usesR l)) ∧ Below w.heap.size w w' ∧ w.heap.size ≤ g ∧ w.heap.size ≤ gs := by
  obtain ⟨w0, hw0⟩ : ∃ w0, w0 = w.alloc (.cells #[.slice A l.length c] 28) := ⟨_, rfl⟩
  have hb0 : Below w.heap.size w w0 := by rw [hw0]; exact below_alloc _ _
  obtain ⟨css, hrd, hst⟩ := hp.below hb0
  obtain ⟨b, o, rfl, _, _, _⟩ := hrd.form hl
  have HC := Lib.hid (clone_steps b o l.length c css w0 hn hrd.reads (stvs_one hst))
  have HST := Lib.hid hst
  have HB0 := Lib.hid hb0
  have HW0 := Lib.hid hw0
  have HR := Lib.hid hr
  clear hp hrd hst hb0 hw0 hr
  go_enter Try.func34, Try.ntmps34
  go_wp2_with fail
  rw [← HW0.out]
  refine HC.out.mono ?_
  rintro e w1 ⟨v1, rfl, ho1, hb1⟩
  obtain ⟨gs, cap, rfl, hgs, hgsl, hed⟩ := ed_new HST.out hl hn hb1 ho1
  have HB1 := Lib.hid (HB0.out.trans (hb1.mono HB0.out.size))
  have HE1 := Lib.hid (hed (.slice none 0 0))
  have hz1 := HB1.out.size
  have hz0 := HB0.out.size
  have HB2 := Lib.hid (HB1.out.alloc hz1 (.cells #[.slice (some ⟨gs, 0, none⟩) l.length cap, .slice none 0 0] 83))
  clear ho1 hb1 hed HC
  go_wp2_with fail
  go_loopg [4, 15] (l.length + 1) (fun f _ i wr => NeRel w w1.heap.size gs cap l f i wr)
  case atStart => exact ⟨0, rfl, by omega, by omega, HE1, HB2⟩
  case round =>
    clear HE1 HB2
    obtain ⟨k, rfl, hk, hkf, HE, HB⟩ := hrel
    obtain ⟨f, rfl⟩ : ∃ f, gk = f + 1 := ⟨gk - 1, by omega⟩
    by_cases hlt : k < l.length
    · obtain ⟨s, hs⟩ : ∃ s, l[k]? = some s := ⟨l[k], List.getElem?_eq_getElem hlt⟩
      obtain ⟨As, cs, x0, x1, x2, x3, x4, har⟩ := HE.out.st k s hs
      have g0 := HE.out.ed.cell 0
      simp only [List.getElem?_toArray, List.getElem?_cons_zero] at g0
      have hal := (HR.out s (List.mem_of_getElem? hs)).1
      have HAR := Lib.hid har.reads
      have HS := Lib.hid hs
      have hgl := HE.out.ed.lt
      have hsl := HE.out.gs_lt
      have hzr := HB.out.size
      have q0 : (k : Int) < (l.length : Int) := by omega
      have q1 : (0 : Int) ≤ (k : Int) := by omega
      clear hs har x0 x2 x3 x4
      go_wp2_with fail
      go_region_with (first | (go_at_call 53; refine (clone_ints As cs s.args wr.drew (by omega) HAR.out.drew).mono ?_; rintro e w6 ⟨A', c', rfl, ho6, hb6⟩; have hW : Below wr.heap.size wr w6 := (Below.refl _ wr).drew.trans hb6; have o0 := (hW.cell (p := ⟨w1.heap.size, 0, none⟩) hgl).trans g0; have o1 := (hW.cell (p := ⟨gs, k * 5 + 1, none⟩) hsl).trans x1; have fz : w6.frozen? ⟨gs, k * 5 + 1, none⟩ = false := by obtain ⟨cs6, e6, _⟩ := (HE.out.below hW).blk; exact e6.frozen _))
      all_goals
        have HE6 := Lib.hid (HE.out.arg HS.out hW A' c' ho6)
        have HB6 := Lib.hid ((HB.out.trans (hW.mono hzr)).setCell (p := ⟨gs, k * 5 + 1, none⟩) (by show w.heap.size ≤ gs; omega) (.slice A' s.args.length c'))
        clear ho6 hb6 hW o0 o1 fz
        go_wp2_with fail
        go_roundg f
        case measure => omega
        case rel => exact ⟨k + 1, by go_num, by omega, by omega, HE6, HB6⟩
    · have hkn : k = l.length := by omega
      subst hkn
      have q0 : ¬ ((l.length : Int) < (l.length : Int)) := by omega
      have HCT := Lib.hid (count_any w1.heap.size gs cap l _ wr HE.out HR.out)
      go_wp2_with fail
      refine HCT.out.mono ?_
      rintro e w7 ⟨rfl, he7, hu7, hg7⟩
      have HE7 := Lib.hid he7
      have HU7 := Lib.hid hu7
      have HB7 : Hid (Below w.heap.size w w7) := Lib.hid (HB.out.trans ⟨hg7.os, hg7.tape, hg7.output, hg7.size, fun i hi => hg7.block i (Nat.lt_of_lt_of_le hi HB.out.size) (fun e => by injection e with e; omega)⟩)
      clear he7 hu7 hg7
      go_wp2_with fail
      go_ret
      exact ⟨_, gs, cap, _, rfl, HE7.out, HU7.out, HB7.out, by omega, by omega⟩
end Go.Proofs.Ytniefnjcimempaa
