/- The walk of the store's add. -/
import Derived.Test.YtphpfkhpihlalaaIn4
namespace Go.Proofs.Ytphpfkhpihlalaa
open Go.RowKit
theorem infoEn : (Try.prog.info? 97).map (fun i => (i.zero, i.size, i.bytes)) = some (some (.agg #[.int .i64 0, .int .u8 0, .int .i64 0, .int .i64 0, .int .i64 0, .int .i64 0, .int .i64 0, .int .i64 0, .int .i64 0, .int .u64 0, .int .u64 0, .int .i64 0, .bool false]), 13, 104) := by kernel_rfl
theorem en_parts {X : Option TypeInfo} {z : Value} {s b : Nat} (h : X.map (fun i => (i.zero, i.size, i.bytes)) = some (some z, s, b)) : ∃ i, X = some i ∧ i.zero = some z ∧ i.size = s ∧ i.bytes = b := by
  cases X with
  | none => cases h
  | some i =>
    simp only [Option.map_some, Option.some.injEq, Prod.mk.injEq] at h
    exact ⟨i, rfl, h⟩
theorem reads_new (w : World) (cs : Array Value) (t : TypeId) (n : Nat) (hn : cs.size = n) : Reads (w.alloc (.cells cs t)) (w.heap.size + 1) n (some ⟨w.heap.size, 0, none⟩) 1 cs.toList :=
  ⟨by simp [hn], fun _ => ⟨_, rfl, Nat.lt_succ_self _, news_alloc w cs t⟩⟩
theorem flat_push (E : List En) (e : En) : flat E ++ e.cells = flat (E ++ [e]) := by simp [flat]
set_option maxRecDepth 100000 in
set_option maxHeartbeats 4000000 in
theorem add_any {w : World} {F : Nat → Prop} {p m : Nat} {E : List En} (h : StAt w F p m E) (e : En) (hlen : E.length < m) (hnone : idOf E e.ru = none) : Calls Try.prog 87 #[ptr p, .agg e.cells.toArray] w fun r w' => r = .returned (.int .i64 ((E.length + 1 : Nat) : Int)) ∧ Kept F w w' ∧ StAt w' (NewF F w w') p m (E ++ [e]) := by
  obtain ⟨g, A, c, h⟩ := h
  have HS := Lib.hid h
  have hpl := h.blk.lt
  have hgl := h.map.lt
  have hml := h.most
  have kp := h.blk
  have hpg : p ≠ g := fun e => by
    obtain ⟨es, ck, h1, _⟩ := h.map
    have h2 := h.blk
    unfold Blk at h2
    rw [e] at h2
    rw [h2] at h1
    cases h1
  have hno := own_blk_ne h.row kp (show (97 : TypeId) ≠ 91 by decide)
  have hng : (Value.slice A E.length c).ownBlock ≠ some g := fun e => by
    obtain ⟨es, ck, h1, _⟩ := h.map
    rcases h.row.2 with ⟨h2, _⟩ | ⟨g', cap, cur, h2, _, h3, _⟩
    · rw [h2] at e; cases e
    · rw [h2] at e
      injection e with e
      have e : g' = g := e
      rw [e, h1] at h3
      cases h3
  have HUP := Lib.hid (upd_map e E 0 hnone)
  have HFL := Lib.hid (flat_push E e)
  obtain ⟨i0, hinf, hz0, hz1, hz2⟩ := en_parts infoEn
  have HI := Lib.hid hinf
  have HI0 := Lib.hid hz0
  have HI1 := Lib.hid hz1
  have HI2 := Lib.hid hz2
  clear hinf hz0 hz1 hz2 h hnone
  obtain ⟨⟨k, b0, l, r, t⟩, ⟨n, nl, hd, tl, ⟨dv, ds⟩⟩, dp, ev, tx⟩ := e
  have HEN : Hid ((⟨⟨k, b0, l, r, t⟩, ⟨n, nl, hd, tl, ⟨dv, ds⟩⟩, dp, ev, tx⟩ : En).cells = [.int .i64 k, .int .u8 b0, .int .i64 l, .int .i64 r, .int .i64 t, .int .i64 n, .int .i64 nl, .int .i64 hd, .int .i64 tl, .int .u64 dv, .int .u64 ds, .int .i64 dp, .bool ev]) := Lib.hid rfl
  obtain ⟨e, he⟩ : ∃ e : En, e = ⟨⟨k, b0, l, r, t⟩, ⟨n, nl, hd, tl, ⟨dv, ds⟩⟩, dp, ev, tx⟩ := ⟨_, rfl⟩
  have HRU : Hid (encR e.ru = .agg #[.int .i64 k, .int .u8 b0, .int .i64 l, .int .i64 r, .int .i64 t]) := Lib.hid (by rw [he]; rfl)
  rw [← he] at HUP HFL HEN ⊢
  clear he
  rw [HEN.out]
  generalize (dv : Int) = dv at HEN ⊢
  generalize (ds : Int) = ds at HEN ⊢
  generalize (dp : Int) = dp at HEN ⊢
  unfold ptr
  have k1 := Blk.new w 97 #[.int .i64 k, .int .u8 b0, .int .i64 l, .int .i64 r, .int .i64 t, .int .i64 n, .int .i64 nl, .int .i64 hd, .int .i64 tl, .int .u64 dv, .int .u64 ds, .int .i64 dp, .bool ev]
  have hb1 : Below w.heap.size w (w.alloc (.cells #[.int .i64 k, .int .u8 b0, .int .i64 l, .int .i64 r, .int .i64 t, .int .i64 n, .int .i64 nl, .int .i64 hd, .int .i64 tl, .int .u64 dv, .int .u64 ds, .int .i64 dp, .bool ev] 97)) := (Below.refl _ _).alloc (Nat.le_refl _) _
  obtain ⟨w1, hw1⟩ : ∃ w1, w1 = w.alloc (.cells #[.int .i64 k, .int .u8 b0, .int .i64 l, .int .i64 r, .int .i64 t, .int .i64 n, .int .i64 nl, .int .i64 hd, .int .i64 tl, .int .u64 dv, .int .u64 ds, .int .i64 dp, .bool ev] 97) := ⟨_, rfl⟩
  rw [← hw1] at k1 hb1
  have HW1 := Lib.hid hw1
  clear hw1
  have kp1 := kp.below hb1 kp.lt
  have c1 := kp1.cell 1
  simp only [List.getElem?_toArray, List.getElem?_cons_zero, List.getElem?_cons_succ] at c1
  have z0 := k1.cell 0
  have z1 := k1.cell 1
  have z2 := k1.cell 2
  have z3 := k1.cell 3
  have z4 := k1.cell 4
  have z5 := k1.cell 5
  have z6 := k1.cell 6
  have z7 := k1.cell 7
  have z8 := k1.cell 8
  have z9 := k1.cell 9
  have z10 := k1.cell 10
  have z11 := k1.cell 11
  have z12 := k1.cell 12
  simp only [List.getElem?_toArray, List.getElem?_cons_zero, List.getElem?_cons_succ] at z0 z1 z2 z3 z4 z5 z6 z7 z8 z9 z10 z11 z12
  have HKP := Lib.hid kp1
  have HK1 := Lib.hid k1
  have HB1 := Lib.hid hb1
  clear kp kp1 k1 hb1
  go_enter Try.func87, Try.ntmps87
  go_upto_region 1 with (fail)
  rw [← HW1.out]
  have hw1s : w1.heap.size = w.heap.size + 1 := by rw [HW1.out]; simp
  clear HW1
  refine wp_region_noPanic ?_
  refine wp_region_Z (z := 10) (S := (fun w' => w'.cell? ⟨p, 1, none⟩ = some (.slice A E.length c) ∧ w'.cell? ⟨w.heap.size, 0, none⟩ = some (.int .i64 k) ∧ w'.cell? ⟨w.heap.size, 1, none⟩ = some (.int .u8 b0) ∧ w'.cell? ⟨w.heap.size, 2, none⟩ = some (.int .i64 l) ∧ w'.cell? ⟨w.heap.size, 3, none⟩ = some (.int .i64 r) ∧ w'.cell? ⟨w.heap.size, 4, none⟩ = some (.int .i64 t) ∧ w'.cell? ⟨w.heap.size, 5, none⟩ = some (.int .i64 n) ∧ w'.cell? ⟨w.heap.size, 6, none⟩ = some (.int .i64 nl) ∧ w'.cell? ⟨w.heap.size, 7, none⟩ = some (.int .i64 hd) ∧ w'.cell? ⟨w.heap.size, 8, none⟩ = some (.int .i64 tl) ∧ w'.cell? ⟨w.heap.size, 9, none⟩ = some (.int .u64 dv) ∧ w'.cell? ⟨w.heap.size, 10, none⟩ = some (.int .u64 ds) ∧ w'.cell? ⟨w.heap.size, 11, none⟩ = some (.int .i64 dp) ∧ w'.cell? ⟨w.heap.size, 12, none⟩ = some (.bool ev))) (by kernel_rfl) ⟨c1, z0, z1, z2, z3, z4, z5, z6, z7, z8, z9, z10, z11, z12⟩ (fun hHeld => ?_)
  refine wpAnyZ_take (i := 0) (v := ?_) rfl (by kernel_rfl) (by kernel_rfl) (by kernel_rfl) (by kernel_rfl) (fun _ _ _ h => h) (Or.inl ⟨by kernel_rfl, ?_⟩) hHeld ?_
  rotate_left
  · intro w' hSw
    (try dsimp only at hSw)
    go_simp <;> with_reducible rfl
  try simp only [Act.put, List.setIfInBounds_toArray, List.set_cons_zero, List.set_cons_succ]
  refine wpAnyZ_take (i := 1) (v := ?_) rfl (by kernel_rfl) (by kernel_rfl) (by kernel_rfl) (by kernel_rfl) (fun _ _ _ h => h) (Or.inl ⟨by kernel_rfl, ?_⟩) hHeld ?_
  rotate_left
  · intro w' hSw
    (try dsimp only at hSw)
    go_simp <;> with_reducible rfl
  try simp only [Act.put, List.setIfInBounds_toArray, List.set_cons_zero, List.set_cons_succ]
  refine wpAnyZ_take (i := 2) (v := ?_) rfl (by kernel_rfl) (by kernel_rfl) (by kernel_rfl) (by kernel_rfl) (fun _ _ _ h => h) (Or.inl ⟨by kernel_rfl, ?_⟩) hHeld ?_
  rotate_left
  · intro w' hSw
    (try dsimp only at hSw)
    go_simp <;> with_reducible rfl
  try simp only [Act.put, List.setIfInBounds_toArray, List.set_cons_zero, List.set_cons_succ]
  refine wpAnyZ_take (i := 3) (v := ?_) rfl (by kernel_rfl) (by kernel_rfl) (by kernel_rfl) (by kernel_rfl) (fun _ _ _ h => h) (Or.inl ⟨by kernel_rfl, ?_⟩) hHeld ?_
  rotate_left
  · intro w' hSw
    (try dsimp only at hSw)
    go_simp <;> with_reducible rfl
  try simp only [Act.put, List.setIfInBounds_toArray, List.set_cons_zero, List.set_cons_succ]
  refine wpAnyZ_take (i := 4) (v := ?_) rfl (by kernel_rfl) (by kernel_rfl) (by kernel_rfl) (by kernel_rfl) (fun _ _ _ h => h) (Or.inl ⟨by kernel_rfl, ?_⟩) hHeld ?_
  rotate_left
  · intro w' hSw
    (try dsimp only at hSw)
    go_simp <;> with_reducible rfl
  try simp only [Act.put, List.setIfInBounds_toArray, List.set_cons_zero, List.set_cons_succ]
  refine wpAnyZ_take (i := 5) (v := ?_) rfl (by kernel_rfl) (by kernel_rfl) (by kernel_rfl) (by kernel_rfl) (fun _ _ _ h => h) (Or.inl ⟨by kernel_rfl, ?_⟩) hHeld ?_
  rotate_left
  · intro w' hSw
    (try dsimp only at hSw)
    go_simp <;> with_reducible rfl
  try simp only [Act.put, List.setIfInBounds_toArray, List.set_cons_zero, List.set_cons_succ]
  refine wpAnyZ_one (i := 6) (by kernel_rfl) rfl (fun K hK => ?_)
  go_simp
  have hb7 : Below w1.heap.size w1 ((w1.alloc (.cells #[.int .i64 k, .int .u8 b0, .int .i64 l, .int .i64 r, .int .i64 t, .int .i64 n, .int .i64 nl, .int .i64 hd, .int .i64 tl, .int .u64 dv, .int .u64 ds, .int .i64 dp, .bool ev] 97)).drew) := ((Below.refl _ _).alloc (Nat.le_refl _) _).drew
  have hrr : Reads ((w1.alloc (.cells #[.int .i64 k, .int .u8 b0, .int .i64 l, .int .i64 r, .int .i64 t, .int .i64 n, .int .i64 nl, .int .i64 hd, .int .i64 tl, .int .u64 dv, .int .u64 ds, .int .i64 dp, .bool ev] 97)).drew) (w1.heap.size + 1) 13 (some ⟨w1.heap.size, 0, none⟩) 1 [.int .i64 k, .int .u8 b0, .int .i64 l, .int .i64 r, .int .i64 t, .int .i64 n, .int .i64 nl, .int .i64 hd, .int .i64 tl, .int .u64 dv, .int .u64 ds, .int .i64 dp, .bool ev] := reads_new w1 #[.int .i64 k, .int .u8 b0, .int .i64 l, .int .i64 r, .int .i64 t, .int .i64 n, .int .i64 nl, .int .i64 hd, .int .i64 tl, .int .u64 dv, .int .u64 ds, .int .i64 dp, .bool ev] 97 13 rfl
  have hs7 : ((w1.alloc (.cells #[.int .i64 k, .int .u8 b0, .int .i64 l, .int .i64 r, .int .i64 t, .int .i64 n, .int .i64 nl, .int .i64 hd, .int .i64 tl, .int .u64 dv, .int .u64 ds, .int .i64 dp, .bool ev] 97)).drew).heap.size = w1.heap.size + 1 := by simp [World.drew]
  obtain ⟨w7, hw7⟩ : ∃ w7, w7 = (w1.alloc (.cells #[.int .i64 k, .int .u8 b0, .int .i64 l, .int .i64 r, .int .i64 t, .int .i64 n, .int .i64 nl, .int .i64 hd, .int .i64 tl, .int .u64 dv, .int .u64 ds, .int .i64 dp, .bool ev] 97)).drew := ⟨_, rfl⟩
  rw [← hw7] at hb7 hrr hs7 ⊢
  clear hw7
  rw [hw1s] at hrr hs7
  have kp7 := HKP.out.below hb7 HKP.out.lt
  have k7 := HK1.out.below hb7 HK1.out.lt
  have HB7 := Lib.hid (HB1.out.trans (hb7.mono HB1.out.size))
  have own7 := own_same HS.out.row (w' := w7) (fun i hi => HB7.out.block i (HS.out.lt i (HS.out.fb i hi)))
  clear c1 z0 z1 z2 z3 z4 z5 z6 z7 z8 z9 z10 z11 z12
  have c1 := kp7.cell 1
  simp only [List.getElem?_toArray, List.getElem?_cons_zero, List.getElem?_cons_succ] at c1
  have z0 := k7.cell 0
  have z1 := k7.cell 1
  have z2 := k7.cell 2
  have z3 := k7.cell 3
  have z4 := k7.cell 4
  have z5 := k7.cell 5
  have z6 := k7.cell 6
  have z7 := k7.cell 7
  have z8 := k7.cell 8
  have z9 := k7.cell 9
  have z10 := k7.cell 10
  have z11 := k7.cell 11
  have z12 := k7.cell 12
  simp only [List.getElem?_toArray, List.getElem?_cons_zero, List.getElem?_cons_succ] at z0 z1 z2 z3 z4 z5 z6 z7 z8 z9 z10 z11 z12
  refine hK.out _ _ (fun _ => ⟨c1, z0, z1, z2, z3, z4, z5, z6, z7, z8, z9, z10, z11, z12⟩) ?_
  clear hK K
  try simp only [Act.put, List.setIfInBounds_toArray, List.set_cons_zero, List.set_cons_succ]
  refine wpAnyZ_one (i := 7) (by kernel_rfl) rfl (fun K hK => ?_)
  have hinf := HI.out
  have hz0 := HI0.out
  have hz1 := HI1.out
  have hz2 := HI2.out
  have hone : ∀ u ∈ ([.int .i64 k, .int .u8 b0, .int .i64 l, .int .i64 r, .int .i64 t, .int .i64 n, .int .i64 nl, .int .i64 hd, .int .i64 tl, .int .u64 dv, .int .u64 ds, .int .i64 dp, .bool ev] : List Value), u.oneCell' = true := by simp [Value.oneCell']
  refine step_append_any _ rfl (.tmp 10) (.tmp 12) 89 rfl 0 97 i0 (.agg #[.int .i64 0, .int .u8 0, .int .i64 0, .int .i64 0, .int .i64 0, .int .i64 0, .int .i64 0, .int .i64 0, .int .i64 0, .int .u64 0, .int .u64 0, .int .i64 0, .bool false]) 13 104 Try.underlying89 hinf hz0 hz1 hz2 rfl (by decide) (.slice A E.length c) E.length (flat E) rfl own7 _ _ _ _ [.int .i64 k, .int .u8 b0, .int .i64 l, .int .i64 r, .int .i64 t, .int .i64 n, .int .i64 nl, .int .i64 hd, .int .i64 tl, .int .u64 dv, .int .u64 ds, .int .i64 dp, .bool ev] rfl hrr hone (by unfold maxLen; omega) (by omega) (by omega) ?_
  intro v8 w8 hown8 hg8 hv8
  obtain ⟨A8, c8, rfl⟩ := own_form hown8
  have kp8 := kp7.grown hg8 (fun e => hno e.symm)
  have k8 := k7.grown hg8 (fun e => by have := HS.out.lt _ (HS.out.fb _ e.symm); omega)
  have HOW8 := Lib.hid hown8
  have HG8 := Lib.hid hg8
  have HV8 := Lib.hid hv8
  clear hinf hz0 hz1 hz2 hone hown8 hg8 hv8 own7 hrr c1 z0 z1 z2 z3 z4 z5 z6 z7 z8 z9 z10 z11 z12 kp7 k7
  have c1 := kp8.cell 1
  have f1 := kp8.frozen 1
  simp only [List.getElem?_toArray, List.getElem?_cons_zero, List.getElem?_cons_succ] at c1
  have z0 := k8.cell 0
  have z1 := k8.cell 1
  have z2 := k8.cell 2
  have z3 := k8.cell 3
  have z4 := k8.cell 4
  have z5 := k8.cell 5
  have z6 := k8.cell 6
  have z7 := k8.cell 7
  have z8 := k8.cell 8
  have z9 := k8.cell 9
  have z10 := k8.cell 10
  have z11 := k8.cell 11
  have z12 := k8.cell 12
  simp only [List.getElem?_toArray, List.getElem?_cons_zero, List.getElem?_cons_succ] at z0 z1 z2 z3 z4 z5 z6 z7 z8 z9 z10 z11 z12
  refine hK.out _ _ (fun _ => ⟨c1, z0, z1, z2, z3, z4, z5, z6, z7, z8, z9, z10, z11, z12⟩) ?_
  clear hK K hHeld
  have hHeld := And.intro c1 (And.intro z0 (And.intro z1 (And.intro z2 (And.intro z3 (And.intro z4 (And.intro z5 (And.intro z6 (And.intro z7 (And.intro z8 (And.intro z9 (And.intro z10 (And.intro z11 z12))))))))))))
  try simp only [Act.put, List.setIfInBounds_toArray, List.set_cons_zero, List.set_cons_succ]
  refine wpAnyZ_one (i := 8) (by kernel_rfl) rfl (fun K hK => ?_)
  go_simp
  refine hK.out _ _ (fun _ => hHeld) ?_
  clear hK K
  try simp only [Act.put, List.setIfInBounds_toArray, List.set_cons_zero, List.set_cons_succ]
  refine wpAnyZ_one (i := 9) (by kernel_rfl) rfl (fun K hK => ?_)
  go_simp
  refine hK.out _ _ (fun _ => hHeld) ?_
  clear hK K
  try simp only [Act.put, List.setIfInBounds_toArray, List.set_cons_zero, List.set_cons_succ]
  refine wpAnyZ_one (i := 10) (by kernel_rfl) rfl (fun K hK => ?_)
  go_simp
  refine hK.out _ _ (fun h => absurd rfl h) ?_
  clear hK K hHeld
  try simp only [Act.put, List.setIfInBounds_toArray, List.set_cons_zero, List.set_cons_succ]
  refine wpAnyZ_done (by kernel_rfl) ?_ _
  refine NoPanic.normal ?_
  try simp only [Act.put, List.setIfInBounds_toArray, List.set_cons_zero, List.set_cons_succ]
  have kp9 := kp8.set_ 1 (.slice A8 (E.length + 1) c8)
  have hpk : w.heap.size ≠ p := by omega
  have k9 := k8.far (p := ⟨p, 1, none⟩) hpk (.slice A8 (E.length + 1) c8)
  have how : ∀ i, (Value.slice A8 (E.length + 1) c8).ownBlock = some i → F i ∨ i = w7.heap.size := fun i hi => by
    rcases HV8.out with h | h
    · exact .inl (HS.out.fb i (h ▸ hi))
    · rw [h] at hi; injection hi with hi; exact .inr hi.symm
  have hnp : ∀ i, (Value.slice A8 (E.length + 1) c8).ownBlock = some i → i ≠ p := fun i hi e => by
    rcases HV8.out with h | h
    · rw [h, e] at hi; exact hno hi
    · rw [h] at hi; injection hi with hi; omega
  obtain ⟨w9, hw9⟩ : ∃ w9, w9 = w8.setCell ⟨p, 1, none⟩ (.slice A8 (E.length + 1) c8) := ⟨_, rfl⟩
  rw [← hw9] at kp9 k9 ⊢
  have hbk9 : ∀ i, i ≠ p → w9.heap[i]? = w8.heap[i]? := fun i hi => by rw [hw9]; exact Below.heap_setCell w8 ⟨p, 1, none⟩ _ i (by simpa using hi)
  have hsz9 : w9.heap.size = w8.heap.size := by rw [hw9]; simp
  have OWN9 := Lib.hid (own_same HOW8.out (w' := w9) (fun i hi => hbk9 i (hnp i hi)))
  have KP8 := Lib.hid (show Kept F w w8 from (Kept.of_below HB7.out).via (fun i h => .inl h) (Kept.of_grown HG8.out (fun g e => HS.out.fb g e)))
  have KP9 := Lib.hid (show Kept F w w9 by rw [hw9]; exact KP8.out.setCell (.inl HS.out.fp) _)
  clear hw9
  have MP9 := Lib.hid (show MapIs w9 g encR (mapF 0 E) from HS.out.map.keep ((hbk9 g hpg.symm).trans ((HG8.out.block g (Nat.lt_of_lt_of_le hgl HB7.out.size) (fun e => hng e.symm)).trans (HB7.out.block g hgl))))
  simp only [List.setIfInBounds_toArray, List.set_cons_zero, List.set_cons_succ] at kp9
  have HKP9 := Lib.hid kp9
  have c1 := kp9.cell 1
  have c2 := kp9.cell 2
  simp only [List.getElem?_toArray, List.getElem?_cons_zero, List.getElem?_cons_succ] at c1 c2
  clear z0 z1 z2 z3 z4 z5 z6 z7 z8 z9 z10 z11 z12 f1 kp8 k8 kp9
  have z0 := k9.cell 0
  have z1 := k9.cell 1
  have z2 := k9.cell 2
  have z3 := k9.cell 3
  have z4 := k9.cell 4
  simp only [List.getElem?_toArray, List.getElem?_cons_zero, List.getElem?_cons_succ] at z0 z1 z2 z3 z4
  clear k9
  go_wp2_with fail
  refine wp_region_noPanic ?_
  refine wp_region_Z (z := 7) (S := (fun w' => w'.cell? ⟨p, 2, none⟩ = some (.map (some g)) ∧ w'.cell? ⟨w.heap.size, 0, none⟩ = some (.int .i64 k) ∧ w'.cell? ⟨w.heap.size, 1, none⟩ = some (.int .u8 b0) ∧ w'.cell? ⟨w.heap.size, 2, none⟩ = some (.int .i64 l) ∧ w'.cell? ⟨w.heap.size, 3, none⟩ = some (.int .i64 r) ∧ w'.cell? ⟨w.heap.size, 4, none⟩ = some (.int .i64 t))) (by kernel_rfl) ⟨c2, z0, z1, z2, z3, z4⟩ (fun hHeld => ?_)
  refine wpAnyZ_take (i := 0) (v := ?_) rfl (by kernel_rfl) (by kernel_rfl) (by kernel_rfl) (by kernel_rfl) (fun _ _ _ h => h) (Or.inl ⟨by kernel_rfl, ?_⟩) hHeld ?_
  rotate_left
  · intro w' hSw
    (try dsimp only at hSw)
    go_simp <;> with_reducible rfl
  try simp only [Act.put, List.setIfInBounds_toArray, List.set_cons_zero, List.set_cons_succ]
  refine wpAnyZ_take (i := 1) (v := ?_) rfl (by kernel_rfl) (by kernel_rfl) (by kernel_rfl) (by kernel_rfl) (fun _ _ _ h => h) (Or.inl ⟨by kernel_rfl, ?_⟩) hHeld ?_
  rotate_left
  · intro w' hSw
    (try dsimp only at hSw)
    go_simp <;> with_reducible rfl
  try simp only [Act.put, List.setIfInBounds_toArray, List.set_cons_zero, List.set_cons_succ]
  refine wpAnyZ_take (i := 2) (v := ?_) rfl (by kernel_rfl) (by kernel_rfl) (by kernel_rfl) (by kernel_rfl) (fun _ _ _ h => h) (Or.inl ⟨by kernel_rfl, ?_⟩) hHeld ?_
  rotate_left
  · intro w' hSw
    (try dsimp only at hSw)
    go_simp <;> with_reducible rfl
  try simp only [Act.put, List.setIfInBounds_toArray, List.set_cons_zero, List.set_cons_succ]
  refine wpAnyZ_take (i := 3) (v := ?_) rfl (by kernel_rfl) (by kernel_rfl) (by kernel_rfl) (by kernel_rfl) (fun _ _ _ h => h) (Or.inl ⟨by kernel_rfl, ?_⟩) hHeld ?_
  rotate_left
  · intro w' hSw
    (try dsimp only at hSw)
    go_simp <;> with_reducible rfl
  try simp only [Act.put, List.setIfInBounds_toArray, List.set_cons_zero, List.set_cons_succ]
  refine wpAnyZ_take (i := 4) (v := ?_) rfl (by kernel_rfl) (by kernel_rfl) (by kernel_rfl) (by kernel_rfl) (fun _ _ _ h => h) (Or.inl ⟨by kernel_rfl, ?_⟩) hHeld ?_
  rotate_left
  · intro w' hSw
    (try dsimp only at hSw)
    go_simp <;> with_reducible rfl
  try simp only [Act.put, List.setIfInBounds_toArray, List.set_cons_zero, List.set_cons_succ]
  refine wpAnyZ_take (i := 5) (v := ?_) rfl (by kernel_rfl) (by kernel_rfl) (by kernel_rfl) (by kernel_rfl) (fun _ _ _ h => h) (Or.inl ⟨by kernel_rfl, ?_⟩) hHeld ?_
  rotate_left
  · intro w' hSw
    (try dsimp only at hSw)
    go_simp <;> with_reducible rfl
  try simp only [Act.put, List.setIfInBounds_toArray, List.set_cons_zero, List.set_cons_succ]
  refine wpAnyZ_take (i := 6) (v := ?_) rfl (by kernel_rfl) (by kernel_rfl) (by kernel_rfl) (by kernel_rfl) (fun _ _ _ h => h) (Or.inl ⟨by kernel_rfl, ?_⟩) hHeld ?_
  rotate_left
  · intro w' hSw
    (try dsimp only at hSw)
    go_simp <;> with_reducible rfl
  try simp only [Act.put, List.setIfInBounds_toArray, List.set_cons_zero, List.set_cons_succ]
  obtain ⟨w10, hrun, hm10, hg10, hs10⟩ := (show MapIs w9.drew g encR (mapF 0 E) from MP9.out).update (ru_keyEq w9.drew) Try.underlying88 (fun _ _ => trivial) e.ru trivial (.int .i64 ((E.length : Int) + 1))
  rw [HRU.out] at hrun
  refine wpAnyZ_one (i := 7) (by kernel_rfl) rfl (fun K hK => ?_)
  go_simp
  refine hK.out _ _ (fun h => absurd rfl h) ?_
  clear hK K hHeld
  try simp only [Act.put, List.setIfInBounds_toArray, List.set_cons_zero, List.set_cons_succ]
  refine wpAnyZ_done (by kernel_rfl) ?_ _
  refine NoPanic.normal ?_
  try simp only [Act.put, List.setIfInBounds_toArray, List.set_cons_zero, List.set_cons_succ]
  have hup := HUP.out
  rw [Nat.zero_add, show (((E.length + 1 : Nat) : Int)) = (E.length : Int) + 1 by omega] at hup
  rw [hup] at hm10
  have HM10 := Lib.hid hm10
  have KK : Kept F w w10 := KP9.out.drew.via (fun i h => .inl h) (Kept.of_grown hg10 (fun j e => by injection e with e; rw [← e]; exact HS.out.fg))
  have hbk : ∀ i, i < w9.heap.size → i ≠ g → w10.heap[i]? = w9.heap[i]? := fun i hi hn => hg10.block i hi (fun e => hn (by injection e))
  have hp9 : p < w9.heap.size := HKP9.out.lt
  have hg9 : ∀ i, (Value.slice A8 (E.length + 1) c8).ownBlock = some i → i < w9.heap.size ∧ i ≠ g := fun i hi => ⟨(OWN9.out.lt i hi).2, fun e => by
    rcases how i hi with h | h
    · rcases HV8.out with h2 | h2
      · rw [h2, e] at hi; exact hng hi
      · rw [h2] at hi; injection hi with hi; have := HS.out.map.lt; omega
    · have := HS.out.map.lt; omega⟩
  have hfin : StAt w10 (NewF F w w10) p m (E ++ [e]) := by
    refine ⟨g, A8, c8, ⟨?_, ?_, HM10.out, ⟨.inl HS.out.fp, Nat.lt_of_lt_of_le hpl KK.size⟩, ⟨.inl HS.out.fg, Nat.lt_of_lt_of_le hgl KK.size⟩, fun i hi => ?_, fun i hi => hi.2, hml, by simp; omega⟩⟩
    · rw [List.length_append]
      exact (hbk p hp9 hpg).trans HKP9.out
    · rw [List.length_append, ← HFL.out, HEN.out]
      exact own_same OWN9.out (fun i hi => hbk i (hg9 i hi).1 (hg9 i hi).2)
    · rw [List.length_append] at hi
      refine ⟨?_, ?_⟩
      · rcases how i hi with h | h
        · exact .inl h
        · exact .inr (by rw [h]; exact HB7.out.size)
      · have := (hg9 i hi).1
        have h3 := hs10
        have h4 : w9.drew.heap.size = w9.heap.size := rfl
        omega
  have HF := Lib.hid hfin
  have HKK := Lib.hid KK
  clear hfin KK hbk hg9 how hnp hup hm10 hg10 hrun
  go_wp2_with fail
  go_ret
  exact ⟨rfl, HKK.out, HF.out⟩
end Go.Proofs.Ytphpfkhpihlalaa
