/- The walk of the parser's terms. -/
import Derived.Test.YtpiagfmjekcncaaDoorjTerm
import Derived.Deep.LoopGhost
set_option linter.unusedVariables false
set_option linter.unusedSimpArgs false
set_option linter.unusedSectionVars false
namespace Go.Proofs.YtpiagfmjekcncaaDoor
open Go.RowKit
theorem infoR : (Tryd.prog.info? 27).map (fun i => (i.zero, i.size, i.bytes)) = some (some (.agg #[.int .i64 0, .int .u64 0, .int .u64 0, .int .u64 0, .int .u64 0, .int .i64 0, .int .i64 0, .slice none 0 0]), 8, 80) := by kernel_rfl
theorem own_keep {w w' : World} {base e size n : Nat} {v : Value} {xs : List Value} (h : w.ownsRow base e size v n xs) (hk : ∀ i, base ≤ i → i < w.heap.size → w'.heap[i]? = w.heap[i]?) : w'.ownsRow base e size v n xs := by
  refine ⟨h.1, ?_⟩
  rcases h.2 with h | ⟨g, cap, cur, h1, h2, h3, h4⟩
  · exact .inl h
  · refine .inr ⟨g, cap, cur, h1, h2, (hk g h2 ?_).trans h3, h4⟩
    rcases Nat.lt_or_ge g w.heap.size with hl | hl
    · exact hl
    · rw [Array.getElem?_eq_none hl] at h3; cases h3
/-- The blocks from lo on but for the list's own. -/
def offV (lo hi : Nat) (v : Value) : Nat → Prop := fun i => lo ≤ i ∧ i < hi ∧ v.ownBlock ≠ some i
/-- A list of trees that the call has made, in blocks from lo on. -/
def LSt (lo : Nat) (v : Value) (l : List Rx) (css : List Value) (w : World) : Prop := w.ownsRow lo 27 8 v l.length css ∧ RxVs w (offV lo w.heap.size v) l css
theorem LSt.kept {lo : Nat} {v : Value} {l : List Rx} {css : List Value} {w w' : World} {K : Nat → Prop} (h : LSt lo v l css w) (k : Kept K w w') (hK : ∀ i : Nat, lo ≤ i → i < w.heap.size → ¬ K i) : LSt lo v l css w' :=
  ⟨own_keep h.1 fun i h1 h2 => k.block i h2 (hK i h1 h2), h.2.kept k (fun i hi hl => hK i hi.1 hl) fun _ hi hl => ⟨hi.1, Nat.lt_of_lt_of_le hl k.size, hi.2.2⟩⟩
theorem LSt.nil (lo : Nat) (w : World) : LSt lo (.slice none 0 0) [] [] w := ⟨⟨rfl, .inl ⟨rfl, rfl⟩⟩, by unfold RxVs; rfl⟩
theorem own_form8 {w : World} {base e size n : Nat} {v : Value} {xs : List Value} (h : w.ownsRow base e size v n xs) : ∃ A c, v = .slice A n c ∧ RdF w (fun i => base ≤ i) size A n xs := by
  obtain ⟨hl, h2⟩ := h
  rcases h2 with ⟨rfl, rfl⟩ | ⟨g, cap, cur, rfl, h1, h3, _, _, h5, h6⟩
  · exact ⟨none, 0, rfl, hl, fun h => absurd h (by omega)⟩
  · refine ⟨_, _, rfl, hl, fun _ => ⟨g, 0, rfl, h1, Blk.lt h3, fun j u hu => ?_⟩⟩
    rw [← h6] at hu
    rw [Nat.zero_add, cell_of_row w g j cur e (0, 0) h3]
    have := List.mem_of_getElem? hu
    rw [List.getElem?_take] at hu
    split at hu
    · simpa using hu
    · cases hu
/-- Behind an append of one tree. -/
theorem LSt.push {lo : Nat} {v v' : Value} {l : List Rx} {css cs : List Value} {w w' : World} {r : Rx} {F : Nat → Prop} (hR : RxVs w (offV lo w.heap.size v) l css) (ho : w'.ownsRow lo 27 8 v' (l.length + 1) (css ++ cs)) (hg : w.grownBy w' v.ownBlock) (hv : v'.ownBlock = v.ownBlock ∨ v'.ownBlock = some w.heap.size)
    (hr : RxV w F r cs) (hF : ∀ i, F i → i < w.heap.size → lo ≤ i ∧ v.ownBlock ≠ some i) : LSt lo v' (l ++ [r]) (css ++ cs) w' := by
  have hk : ∀ i, i < w.heap.size → v.ownBlock ≠ some i → w'.heap[i]? = w.heap[i]? := fun i h1 h2 => hg.block i h1 (fun e => h2 e.symm)
  have hG : ∀ i, i < w.heap.size → lo ≤ i → v.ownBlock ≠ some i → offV lo w'.heap.size v' i := fun i h1 h2 h3 => ⟨h2, Nat.lt_of_lt_of_le h1 hg.size, by
    rcases hv with e | e
    · rw [e]; exact h3
    · rw [e]; intro e'; injection e' with e'; omega⟩
  refine ⟨by rw [List.length_append]; exact ho, RxVs.append ?_ (RxVs.one ?_)⟩
  · exact RxVs.keep (fun i hi hl => hk i hl hi.2.2) hg.size (fun i hi hl => hG i hl hi.1 hi.2.2) l css hR
  · exact RxV.keep (fun i hi hl => hk i hl (hF i hi hl).2) hg.size (fun i hi hl => hG i hl (hF i hi hl).1 (hF i hi hl).2) r cs hr
theorem reads8 (w : World) (v0 v1 v2 v3 v4 v5 v6 v7 : Value) : Reads (w.alloc (.cells #[v0, v1, v2, v3, v4, v5, v6, v7] 27)) (w.heap.size + 1) 8 (some ⟨w.heap.size, 0, none⟩) 1 [v0, v1, v2, v3, v4, v5, v6, v7] :=
  ⟨rfl, fun _ => ⟨_, rfl, by simp, fun j u hu => news_alloc w #[v0, v1, v2, v3, v4, v5, v6, v7] 27 j u hu⟩⟩
theorem seqT (A : Option Addr) (n c : Nat) (w : World) (F : Nat → Prop) (l : List Rx) (css : List Value) (hn : l.length = n) (hr : RdF w F 8 A n css) (hv : RxVs w F l css) (hn2 : n ≤ 9223372036854775807) : Calls Tryd.prog 23 #[.slice A n c] w (TEnd w F (Rx.seq l)) := by
  subst hn
  exact seq_any A c w F l css hr hv hn2
theorem RdF.any {w : World} {F G : Nat → Prop} {size n : Nat} {A : Option Addr} {xs : List Value} (h : RdF w F size A n xs) (hG : ∀ i, F i → i < w.heap.size → G i) : RdF w G size A n xs := h.keep (fun _ _ _ => rfl) (Nat.le_refl _) hG
theorem RxVs.any {w : World} {F G : Nat → Prop} {l : List Rx} {cs : List Value} (h : RxVs w F l cs) (hG : ∀ i, F i → i < w.heap.size → G i) : RxVs w G l cs := RxVs.keep (fun _ _ _ => rfl) (Nat.le_refl _) hG l cs h
theorem RxV.any {w : World} {F G : Nat → Prop} {r : Rx} {cs : List Value} (h : RxV w F r cs) (hG : ∀ i, F i → i < w.heap.size → G i) : RxV w G r cs := RxV.keep (fun _ _ _ => rfl) (Nat.le_refl _) hG r cs h
theorem RdF.drewN {w : World} {F : Nat → Prop} {size n : Nat} {A : Option Addr} {xs : List Value} (h : RdF w F size A n xs) (m : Nat) : RdF (w.drewN m) F size A n xs := h
theorem RxVs.drewN {w : World} {F : Nat → Prop} {l : List Rx} {cs : List Value} (h : RxVs w F l cs) (m : Nat) : RxVs (w.drewN m) F l cs := RxVs.keep (w := w) (w' := w.drewN m) (fun _ _ _ => rfl) (Nat.le_refl _) (fun _ h _ => h) l cs h
/-- The terms' loop. -/
def TmRel (T : List UInt8) (w : World) (g k0 : Nat) (E : Nat → Option (Rx × Nat)) (R : Option (List Rx × Nat)) (f : Nat) (v : Value) (wr : World) : Prop :=
  ∃ (l : List Rx) (css : List Value) (k : Nat), PS T wr g k ∧ k0 ≤ k ∧ l.length ≤ k ∧ T.length - k < f ∧ Hid (termsL T E f l k = R) ∧ LSt (w.heap.size + 1) v l css wr ∧ R8 wr w.heap.size (.int .i64 0) (.int .u64 0) (.int .u64 0) (.int .u64 0) (.int .u64 0) (.int .i64 0) (.int .i64 0) (.slice none 0 0) ∧ Kept (isG g) w wr
def gX (g X : Nat) : Nat → Prop := fun i => i = g ∨ i = X
/-- The counters' loop. -/
def CtRel (T : List UInt8) (wX : World) (g X s1 k1 : Nat) (R : Option (Rx × Nat)) (f : Nat) (wr : World) : Prop :=
  ∃ (r : Rx) (cs : List Value) (k : Nat), PS T wr g k ∧ k1 ≤ k ∧ T.length - k < f ∧ Hid (cntsP T f r k = R) ∧ Blk wr X 27 cs.toArray ∧ RxV wr (fun i => s1 ≤ i ∧ i < wr.heap.size ∧ i ≠ X) r cs ∧ Kept (gX g X) wX wr
theorem cnt_v {T : List UInt8} {g k k' : Nat} {c : Option (Int × Int)} (w : World) (h : PS T w g k) (hn : cntP T k = some (c, k')) : Calls Tryd.prog 50 #[.pointer (some ⟨g, 0, none⟩)] w (PStep T w g (match c with
    | none => .tuple #[.int .i64 0, .int .i64 0, .bool false]
    | some (lo, hi) => .tuple #[.int .i64 lo, .int .i64 hi, .bool true]) k') := by
  have := counter_any w h
  rw [hn] at this
  rcases c with _ | ⟨lo, hi⟩ <;> exact this
theorem cnt_f {T : List UInt8} {g k : Nat} (w : World) (h : PS T w g k) (hn : cntP T k = none) : Calls Tryd.prog 50 #[.pointer (some ⟨g, 0, none⟩)] w (PFail T w g) := by
  have := counter_any w h
  rw [hn] at this
  exact this
theorem Kept.join {g X : Nat} {a b c : World} (h : Kept (isG g) a b) (k : Kept (gX g X) b c) (hX : a.heap.size ≤ X) : Kept (isG g) a c :=
  h.trans (k.mono fun i hi => by
    rcases hi with e | e
    · exact .inl e
    · exact .inr (by omega))
theorem own_ge {w : World} {base e size n i : Nat} {v : Value} {xs : List Value} (h : w.ownsRow base e size v n xs) (hv : v.ownBlock = some i) : base ≤ i ∧ i < w.heap.size := by
  rcases h.2 with ⟨rfl, _⟩ | ⟨g, cap, cur, rfl, h1, h3, _⟩
  · cases hv
  · injection hv with hv
    subst hv
    exact ⟨h1, Blk.lt h3⟩
theorem tm_next {T : List UInt8} {w w4 w5 : World} {g k0 k3 f : Nat} {E : Nat → Option (Rx × Nat)} {R : Option (List Rx × Nat)} {v v5 : Value} {l : List Rx} {css : List Value} {r2 : Rx} {o : Obj} {cs : List Value} {Fx : Nat → Prop} (hg : g < w.heap.size)
    (HP4 : PS T w4 g k3) (HL : RxVs w4 (offV (w.heap.size + 1) w4.heap.size v) l css) (HO : w4.ownsRow (w.heap.size + 1) 27 8 v l.length css) (HR4 : R8 w4 w.heap.size (.int .i64 0) (.int .u64 0) (.int .u64 0) (.int .u64 0) (.int .u64 0) (.int .i64 0) (.int .i64 0) (.slice none 0 0)) (HK4 : Kept (isG g) w w4) (hv4 : RxV w4 Fx r2 cs)
    (hFx : ∀ i, Fx i → i < w4.heap.size → w.heap.size + 1 ≤ i ∧ v.ownBlock ≠ some i) (hown5 : w5.ownsRow (w.heap.size + 1) 27 8 v5 (l.length + 1) (css ++ cs)) (hg5 : (w4.alloc o).grownBy w5 v.ownBlock) (hv5 : v5.ownBlock = v.ownBlock ∨ v5.ownBlock = some (w4.heap.size + 1))
    (hk0 : k0 ≤ k3) (hl : l.length + 1 ≤ k3) (hf : T.length - k3 < f) (HP3 : Hid (termsL T E f (l ++ [r2]) k3 = R)) : TmRel T w g k0 E R f v5 w5 := by
  have hge := fun i (e : v.ownBlock = some i) => own_ge HO e
  have h45 : Kept (fun i => v.ownBlock = some i) (w4.alloc o) w5 := Kept.of_grown hg5 fun gg e => e
  have h4a : Kept (fun _ => False) w4 (w4.alloc o) := (Kept.refl _ _).alloc o
  refine ⟨l ++ [r2], css ++ cs, k3, PS.kept (HP4.alloc o) h45 (fun e => by have := hge _ e; omega), hk0, by rw [List.length_append]; exact hl, hf, HP3, ?_, R8.kept (HR4.alloc o) h45 (fun e => by have := hge _ e; omega), (HK4.alloc o).trans (h45.mono fun i e => .inr (by have := hge _ e; omega))⟩
  refine LSt.push (F := fun i => Fx i ∧ i < w4.heap.size) ?_ hown5 hg5 (by simpa using hv5) (hv4.kept h4a (fun _ _ _ => id) fun _ h hl => ⟨h, hl⟩) fun i hi hl' => hFx i hi.1 hi.2
  exact HL.kept h4a (fun _ _ _ => id) fun i hi hl' => ⟨hi.1, by simp; omega, hi.2.2⟩
theorem ct_next {T : List UInt8} {wX w4 : World} {g X s1 k1 k3 f : Nat} {R : Option (Rx × Nat)} {r2 : Rx} {lo2 hi2 : Int} {kd a0 a1 a2 a3 : Nat} {lo hi : Int} {A : Option Addr} {n c : Nat} (hp : PS T w4 g k3) (h1 : k1 ≤ k3) (hf : T.length - k3 < f) (HP : Hid (cntsP T f (Rx.rep lo2 hi2 r2) k3 = R))
    (hX : R8 w4 X (.int .i64 kd) (.int .u64 a0) (.int .u64 a1) (.int .u64 a2) (.int .u64 a3) (.int .i64 lo) (.int .i64 hi) (.slice A n c)) (hv : RxV w4 (fun i => s1 ≤ i ∧ i < w4.heap.size ∧ i ≠ X) r2 [.int .i64 kd, .int .u64 a0, .int .u64 a1, .int .u64 a2, .int .u64 a3, .int .i64 lo, .int .i64 hi, .slice A n c]) (hK : Kept (gX g X) wX w4) (hgX : g ≠ X) (hs : X < w4.heap.size) (hs1 : s1 ≤ X) :
    CtRel T wX g X s1 k1 R f ((set8 w4 X (.int .i64 5) (.int .u64 0) (.int .u64 0) (.int .u64 0) (.int .u64 0) (.int .i64 lo2) (.int .i64 hi2) (.slice (some ⟨w4.heap.size, 0, none⟩) 1 1)).alloc (.cells #[.int .i64 kd, .int .u64 a0, .int .u64 a1, .int .u64 a2, .int .u64 a3, .int .i64 lo, .int .i64 hi, .slice A n c] 27)) := by
  have hs8 : (set8 w4 X (.int .i64 5) (.int .u64 0) (.int .u64 0) (.int .u64 0) (.int .u64 0) (.int .i64 lo2) (.int .i64 hi2) (.slice (some ⟨w4.heap.size, 0, none⟩) 1 1)).heap.size = w4.heap.size := by simp [set8, World.setCell]
  have hk8 : Kept (fun i => i = X) w4 (set8 w4 X (.int .i64 5) (.int .u64 0) (.int .u64 0) (.int .u64 0) (.int .u64 0) (.int .i64 lo2) (.int .i64 hi2) (.slice (some ⟨w4.heap.size, 0, none⟩) 1 1)) := kept_set8 (F := fun i => i = X) (Kept.refl _ _) (.inl rfl) _ _ _ _ _ _ _ _
  have hX8 := hX.all (.int .i64 5) (.int .u64 0) (.int .u64 0) (.int .u64 0) (.int .u64 0) (.int .i64 lo2) (.int .i64 hi2) (.slice (some ⟨w4.heap.size, 0, none⟩) 1 1)
  have hp8 := hp.far8 (X := X) hgX (.int .i64 5) (.int .u64 0) (.int .u64 0) (.int .u64 0) (.int .u64 0) (.int .i64 lo2) (.int .i64 hi2) (.slice (some ⟨w4.heap.size, 0, none⟩) 1 1)
  have hK8 := kept_set8 hK (g := X) (.inl (.inr rfl)) (.int .i64 5) (.int .u64 0) (.int .u64 0) (.int .u64 0) (.int .u64 0) (.int .i64 lo2) (.int .i64 hi2) (.slice (some ⟨w4.heap.size, 0, none⟩) 1 1)
  generalize (set8 w4 X (.int .i64 5) (.int .u64 0) (.int .u64 0) (.int .u64 0) (.int .u64 0) (.int .i64 lo2) (.int .i64 hi2) (.slice (some ⟨w4.heap.size, 0, none⟩) 1 1)) = w8 at *
  have hY : Blk (w8.alloc (.cells #[.int .i64 kd, .int .u64 a0, .int .u64 a1, .int .u64 a2, .int .u64 a3, .int .i64 lo, .int .i64 hi, .slice A n c] 27)) w4.heap.size 27 #[.int .i64 kd, .int .u64 a0, .int .u64 a1, .int .u64 a2, .int .u64 a3, .int .i64 lo, .int .i64 hi, .slice A n c] := by rw [← hs8]; exact Blk.new _ _ _
  have hsf : (w8.alloc (.cells #[.int .i64 kd, .int .u64 a0, .int .u64 a1, .int .u64 a2, .int .u64 a3, .int .i64 lo, .int .i64 hi, .slice A n c] 27)).heap.size = w4.heap.size + 1 := by simp [hs8]
  have hv5 := hv.kept (hk8.alloc (.cells #[.int .i64 kd, .int .u64 a0, .int .u64 a1, .int .u64 a2, .int .u64 a3, .int .i64 lo, .int .i64 hi, .slice A n c] 27)) (fun i hi _ e => hi.2.2 e) (G := fun i => s1 ≤ i ∧ i < (w8.alloc (.cells #[.int .i64 kd, .int .u64 a0, .int .u64 a1, .int .u64 a2, .int .u64 a3, .int .i64 lo, .int .i64 hi, .slice A n c] 27)).heap.size ∧ i ≠ X) (fun i hi hl => ⟨hi.1, by omega, hi.2.2⟩)
  refine ⟨Rx.rep lo2 hi2 r2, [.int .i64 5, .int .u64 0, .int .u64 0, .int .u64 0, .int .u64 0, .int .i64 lo2, .int .i64 hi2, .slice (some ⟨w4.heap.size, 0, none⟩) 1 1], k3, hp8.alloc _, h1, hf, HP, Blk.alloc hX8 _, ?_, hK8.alloc _⟩
  unfold Rx.rep RxV
  refine ⟨some ⟨w4.heap.size, 0, none⟩, 1, [.int .i64 kd, .int .u64 a0, .int .u64 a1, .int .u64 a2, .int .u64 a3, .int .i64 lo, .int .i64 hi, .slice A n c], rfl, ⟨rfl, fun _ => ⟨_, _, rfl, ⟨by omega, by omega, by omega⟩, by omega, fun j u hu => ?_⟩⟩, RxVs.one hv5⟩
  rw [Nat.zero_add, hY.cell]
  simpa using hu
set_option maxHeartbeats 3000000
set_option maxRecDepth 100000
theorem terms_any {T : List UInt8} {g k0 : Nat} (w : World) (E : Nat → Option (Rx × Nat)) (h : PS T w g k0) (hEp : ∀ k k' r, k ≤ T.length → E k = some (r, k') → k ≤ k' ∧ k' ≤ T.length)
    (hE : ∀ k1 w1, k0 < k1 → PS T w1 g k1 → Calls Tryd.prog 18 #[.pointer (some ⟨g, 0, none⟩)] w1 (TRes T w1 g (E k1))) : Calls Tryd.prog 32 #[.pointer (some ⟨g, 0, none⟩)] w (TRes T w g (termsP T E k0)) := by
  obtain ⟨i0, hinf, hz0, hz1, hz2⟩ := info_parts infoR
  obtain ⟨R, hR⟩ : ∃ R, R = termsL T E (T.length + 1) [] k0 := ⟨_, rfl⟩
  obtain ⟨Z, hZ⟩ : ∃ Z, Z = termsP T E k0 := ⟨_, rfl⟩
  rw [← hZ]
  unfold termsP at hZ
  have HZ := Lib.hid hZ
  have HR := Lib.hid hR
  have HE := Lib.hid hE
  have HEP := Lib.hid hEp
  have hsz : (ByteArray.mk T.toArray).size = T.length := by simp [ByteArray.size]
  have hT := h.2.2
  have hg := h.lt
  have hk0 := h.2.1
  have HR0 := Lib.hid (R8.mk0 w w.heap.size rfl)
  have HP0 := Lib.hid (h.alloc (.cells #[.int .i64 0, .int .u64 0, .int .u64 0, .int .u64 0, .int .u64 0, .int .i64 0, .int .i64 0, .slice none 0 0] 27))
  have HK0 := Lib.hid ((Kept.refl (isG g) w).alloc (.cells #[.int .i64 0, .int .u64 0, .int .u64 0, .int .u64 0, .int .u64 0, .int .i64 0, .int .i64 0, .slice none 0 0] 27))
  have hne : ¬ isG g w.heap.size := fun e => absurd hg (by rw [show g = w.heap.size from e.symm]; omega)
  have HI := Lib.hid hinf
  have HI0 := Lib.hid hz0
  have HI1 := Lib.hid hz1
  have HI2 := Lib.hid hz2
  clear hZ hR hE hEp h hinf hz0 hz1 hz2
  go_enter Tryd.func32, Tryd.ntmps32
  go_wp2_with fail
  go_loopg [3] (T.length + 1) (fun f v wr => TmRel T w g k0 E R f v wr)
  case atStart => exact ⟨[], [], k0, HP0.out, Nat.le_refl _, Nat.zero_le _, by omega, HR.out.symm, LSt.nil _ _, HR0.out, HK0.out⟩
  case round =>
    obtain ⟨wo, rfl⟩ : ∃ wo : World, wo = wr := ⟨_, rfl⟩
    obtain ⟨l, css, k, hp, h1, h2, h3, hP, hL, hR8, hK⟩ := hrel
    obtain ⟨f, rfl⟩ : ∃ f, gk = f + 1 := ⟨gk - 1, by omega⟩
    obtain ⟨c0, c1, q1⟩ := hp.cells
    have hke := hp.2.1
    have HP := Lib.hid hp
    have HL := Lib.hid hL
    have HR8 := Lib.hid hR8
    have HK := Lib.hid hK
    have hP2 := hP.out
    clear hp hL hR8 hK hP HR0 HP0 HK0
    rw [termsL] at hP2
    rcases hb : T[k]? with _ | b
    · have hkl : T.length ≤ k := List.getElem?_eq_none_iff.1 hb
      have hle : decide (k < T.length) = false := by simp; omega
      have hst : stopP T k = true := by unfold stopP; simp [hkl]
      rw [if_pos hst] at hP2
      clear hb hst
      obtain ⟨hown, hvs⟩ := HL.out
      obtain ⟨A, c, rfl, hrd⟩ := own_form8 hown
      have hz : Z = some (Rx.seq l, k) := by rw [HZ.out, ← HR.out, ← hP2]
      subst hz
      have HV := Lib.hid hvs
      have HRD := Lib.hid hrd
      obtain ⟨nl, hnl⟩ : ∃ nl, nl = l.length := ⟨_, rfl⟩
      rw [← hnl] at h2 HRD ⊢
      have HNL := Lib.hid hnl
      clear hown hvs hrd HL hP2 hnl
      go_wp2_with fail
      go_quiet (fail)
      go_wp2_with fail
      refine (seqT A nl c (wo.drewN _) (fun i => w.heap.size + 1 ≤ i) l css HNL.out.symm ((HRD.out.any fun i hi _ => hi).drewN _) ((HV.out.any fun i hi _ => hi.1).drewN _) (by omega)).mono ?_
      rintro e w3 ⟨cs, rfl, hv, hb3⟩
      obtain ⟨kd, a0, a1, a2, a3, lo, hi, A', n, c', rfl⟩ := hv.eight
      have hR3 := R8.below (w := wo) (HR8.out) ⟨hb3.os, hb3.tape, hb3.output, hb3.size, hb3.block⟩ HR8.out.lt
      have hK3 := Kept.then_ (b := wo) HK.out (Kept.of_below (F := isG g) ⟨hb3.os, hb3.tape, hb3.output, hb3.size, hb3.block⟩)
      have hp3 := PS.kept (w := wo) HP.out (F := fun _ => False) (Kept.of_below ⟨hb3.os, hb3.tape, hb3.output, hb3.size, hb3.block⟩) id
      have HVV := Lib.hid hv
      clear hv hb3 HRD HV
      obtain ⟨⟨⟨c0, c1⟩, c2, c3⟩, ⟨c4, c5⟩, c6, c7⟩ := hR3.cells
      obtain ⟨⟨⟨f0, f1⟩, f2, f3⟩, ⟨f4, f5⟩, f6, f7⟩ := hR3.free
      have HZ := Lib.hid (hR3.all (.int .i64 kd) (.int .u64 a0) (.int .u64 a1) (.int .u64 a2) (.int .u64 a3) (.int .i64 lo) (.int .i64 hi) (.slice A' n c'))
      have HPP := Lib.hid (hp3.far8 (X := w.heap.size) (by omega) (.int .i64 kd) (.int .u64 a0) (.int .u64 a1) (.int .u64 a2) (.int .u64 a3) (.int .i64 lo) (.int .i64 hi) (.slice A' n c'))
      have HKK := Lib.hid (kept_set8 hK3 (g := w.heap.size) (.inr (Nat.le_refl _)) (.int .i64 kd) (.int .u64 a0) (.int .u64 a1) (.int .u64 a2) (.int .u64 a3) (.int .i64 lo) (.int .i64 hi) (.slice A' n c'))
      clear hR3
      go_wp2_with fail
      obtain ⟨⟨⟨d0, d1⟩, d2, d3⟩, ⟨d4, d5⟩, d6, d7⟩ := HZ.out.cells
      unfold set8 at d0 d1 d2 d3 d4 d5 d6 d7
      refine bodyPost_ret (v := .agg #[.int .i64 kd, .int .u64 a0, .int .u64 a1, .int .u64 a2, .int .u64 a3, .int .i64 lo, .int .i64 hi, .slice A' n c']) (by simp [results, Tryd.results32, go_sem, d0, d1, d2, d3, d4, d5, d6, d7]) rfl ?_
      refine ⟨_, rfl, ?_, HPP.out, HKK.out⟩
      refine HVV.out.kept (kept_set8 (Kept.refl (fun i => i = w.heap.size) w3) (g := w.heap.size) (.inl rfl) (.int .i64 kd) (.int .u64 a0) (.int .u64 a1) (.int .u64 a2) (.int .u64 a3) (.int .i64 lo) (.int .i64 hi) (.slice A' n c')) (fun i hh _ e => by have e' : i = w.heap.size := e; have hh' : w.heap.size + 1 ≤ i := hh; omega) (fun i hh hl => ⟨by have hh' : w.heap.size + 1 ≤ i := hh; omega, ?_⟩)
      exact Nat.lt_of_lt_of_le hl (kept_set8 (Kept.refl (fun i => i = w.heap.size) w3) (g := w.heap.size) (.inl rfl) (.int .i64 kd) (.int .u64 a0) (.int .u64 a1) (.int .u64 a2) (.int .u64 a3) (.int .i64 lo) (.int .i64 hi) (.slice A' n c')).size
    · have hl := at_lt hb
      have hle : decide ((k : Int) < (T.length : Int)) = true := by simp; omega
      have hix := idxT (P := Tryd.prog) Tryd.underlying9 hb
      by_cases h124 : b = 124
      · subst h124
        rw [show ((124 : UInt8).toNat : Int) = 124 from rfl] at hix
        have hst : stopP T k = true := by unfold stopP; simp [hb]
        rw [if_pos hst] at hP2
        clear hb hst
        obtain ⟨hown, hvs⟩ := HL.out
        obtain ⟨A, c, rfl, hrd⟩ := own_form8 hown
        have hz : Z = some (Rx.seq l, k) := by rw [HZ.out, ← HR.out, ← hP2]
        subst hz
        have HV := Lib.hid hvs
        have HRD := Lib.hid hrd
        obtain ⟨nl, hnl⟩ : ∃ nl, nl = l.length := ⟨_, rfl⟩
        rw [← hnl] at h2 HRD ⊢
        have HNL := Lib.hid hnl
        clear hown hvs hrd HL hP2 hnl
        go_wp2_with fail
        go_quiet (fail)
        go_wp2_with fail
        refine (seqT A nl c (wo.drewN _) (fun i => w.heap.size + 1 ≤ i) l css HNL.out.symm ((HRD.out.any fun i hi _ => hi).drewN _) ((HV.out.any fun i hi _ => hi.1).drewN _) (by omega)).mono ?_
        rintro e w3 ⟨cs, rfl, hv, hb3⟩
        obtain ⟨kd, a0, a1, a2, a3, lo, hi, A', n, c', rfl⟩ := hv.eight
        have hR3 := R8.below (w := wo) (HR8.out) ⟨hb3.os, hb3.tape, hb3.output, hb3.size, hb3.block⟩ HR8.out.lt
        have hK3 := Kept.then_ (b := wo) HK.out (Kept.of_below (F := isG g) ⟨hb3.os, hb3.tape, hb3.output, hb3.size, hb3.block⟩)
        have hp3 := PS.kept (w := wo) HP.out (F := fun _ => False) (Kept.of_below ⟨hb3.os, hb3.tape, hb3.output, hb3.size, hb3.block⟩) id
        have HVV := Lib.hid hv
        clear hv hb3 HRD HV
        obtain ⟨⟨⟨c0, c1⟩, c2, c3⟩, ⟨c4, c5⟩, c6, c7⟩ := hR3.cells
        obtain ⟨⟨⟨f0, f1⟩, f2, f3⟩, ⟨f4, f5⟩, f6, f7⟩ := hR3.free
        have HZ := Lib.hid (hR3.all (.int .i64 kd) (.int .u64 a0) (.int .u64 a1) (.int .u64 a2) (.int .u64 a3) (.int .i64 lo) (.int .i64 hi) (.slice A' n c'))
        have HPP := Lib.hid (hp3.far8 (X := w.heap.size) (by omega) (.int .i64 kd) (.int .u64 a0) (.int .u64 a1) (.int .u64 a2) (.int .u64 a3) (.int .i64 lo) (.int .i64 hi) (.slice A' n c'))
        have HKK := Lib.hid (kept_set8 hK3 (g := w.heap.size) (.inr (Nat.le_refl _)) (.int .i64 kd) (.int .u64 a0) (.int .u64 a1) (.int .u64 a2) (.int .u64 a3) (.int .i64 lo) (.int .i64 hi) (.slice A' n c'))
        clear hR3
        go_wp2_with fail
        obtain ⟨⟨⟨d0, d1⟩, d2, d3⟩, ⟨d4, d5⟩, d6, d7⟩ := HZ.out.cells
        unfold set8 at d0 d1 d2 d3 d4 d5 d6 d7
        refine bodyPost_ret (v := .agg #[.int .i64 kd, .int .u64 a0, .int .u64 a1, .int .u64 a2, .int .u64 a3, .int .i64 lo, .int .i64 hi, .slice A' n c']) (by simp [results, Tryd.results32, go_sem, d0, d1, d2, d3, d4, d5, d6, d7]) rfl ?_
        refine ⟨_, rfl, ?_, HPP.out, HKK.out⟩
        refine HVV.out.kept (kept_set8 (Kept.refl (fun i => i = w.heap.size) w3) (g := w.heap.size) (.inl rfl) (.int .i64 kd) (.int .u64 a0) (.int .u64 a1) (.int .u64 a2) (.int .u64 a3) (.int .i64 lo) (.int .i64 hi) (.slice A' n c')) (fun i hh _ e => by have e' : i = w.heap.size := e; have hh' : w.heap.size + 1 ≤ i := hh; omega) (fun i hh hl => ⟨by have hh' : w.heap.size + 1 ≤ i := hh; omega, ?_⟩)
        exact Nat.lt_of_lt_of_le hl (kept_set8 (Kept.refl (fun i => i = w.heap.size) w3) (g := w.heap.size) (.inl rfl) (.int .i64 kd) (.int .u64 a0) (.int .u64 a1) (.int .u64 a2) (.int .u64 a3) (.int .i64 lo) (.int .i64 hi) (.slice A' n c')).size
      by_cases h41 : b = 41
      · subst h41
        rw [show ((41 : UInt8).toNat : Int) = 41 from rfl] at hix
        have hst : stopP T k = true := by unfold stopP; simp [hb]
        rw [if_pos hst] at hP2
        clear hb hst h124
        obtain ⟨hown, hvs⟩ := HL.out
        obtain ⟨A, c, rfl, hrd⟩ := own_form8 hown
        have hz : Z = some (Rx.seq l, k) := by rw [HZ.out, ← HR.out, ← hP2]
        subst hz
        have HV := Lib.hid hvs
        have HRD := Lib.hid hrd
        obtain ⟨nl, hnl⟩ : ∃ nl, nl = l.length := ⟨_, rfl⟩
        rw [← hnl] at h2 HRD ⊢
        have HNL := Lib.hid hnl
        clear hown hvs hrd HL hP2 hnl
        go_wp2_with fail
        go_quiet (fail)
        go_wp2_with fail
        refine (seqT A nl c (wo.drewN _) (fun i => w.heap.size + 1 ≤ i) l css HNL.out.symm ((HRD.out.any fun i hi _ => hi).drewN _) ((HV.out.any fun i hi _ => hi.1).drewN _) (by omega)).mono ?_
        rintro e w3 ⟨cs, rfl, hv, hb3⟩
        obtain ⟨kd, a0, a1, a2, a3, lo, hi, A', n, c', rfl⟩ := hv.eight
        have hR3 := R8.below (w := wo) (HR8.out) ⟨hb3.os, hb3.tape, hb3.output, hb3.size, hb3.block⟩ HR8.out.lt
        have hK3 := Kept.then_ (b := wo) HK.out (Kept.of_below (F := isG g) ⟨hb3.os, hb3.tape, hb3.output, hb3.size, hb3.block⟩)
        have hp3 := PS.kept (w := wo) HP.out (F := fun _ => False) (Kept.of_below ⟨hb3.os, hb3.tape, hb3.output, hb3.size, hb3.block⟩) id
        have HVV := Lib.hid hv
        clear hv hb3 HRD HV
        obtain ⟨⟨⟨c0, c1⟩, c2, c3⟩, ⟨c4, c5⟩, c6, c7⟩ := hR3.cells
        obtain ⟨⟨⟨f0, f1⟩, f2, f3⟩, ⟨f4, f5⟩, f6, f7⟩ := hR3.free
        have HZ := Lib.hid (hR3.all (.int .i64 kd) (.int .u64 a0) (.int .u64 a1) (.int .u64 a2) (.int .u64 a3) (.int .i64 lo) (.int .i64 hi) (.slice A' n c'))
        have HPP := Lib.hid (hp3.far8 (X := w.heap.size) (by omega) (.int .i64 kd) (.int .u64 a0) (.int .u64 a1) (.int .u64 a2) (.int .u64 a3) (.int .i64 lo) (.int .i64 hi) (.slice A' n c'))
        have HKK := Lib.hid (kept_set8 hK3 (g := w.heap.size) (.inr (Nat.le_refl _)) (.int .i64 kd) (.int .u64 a0) (.int .u64 a1) (.int .u64 a2) (.int .u64 a3) (.int .i64 lo) (.int .i64 hi) (.slice A' n c'))
        clear hR3
        go_wp2_with fail
        obtain ⟨⟨⟨d0, d1⟩, d2, d3⟩, ⟨d4, d5⟩, d6, d7⟩ := HZ.out.cells
        unfold set8 at d0 d1 d2 d3 d4 d5 d6 d7
        refine bodyPost_ret (v := .agg #[.int .i64 kd, .int .u64 a0, .int .u64 a1, .int .u64 a2, .int .u64 a3, .int .i64 lo, .int .i64 hi, .slice A' n c']) (by simp [results, Tryd.results32, go_sem, d0, d1, d2, d3, d4, d5, d6, d7]) rfl ?_
        refine ⟨_, rfl, ?_, HPP.out, HKK.out⟩
        refine HVV.out.kept (kept_set8 (Kept.refl (fun i => i = w.heap.size) w3) (g := w.heap.size) (.inl rfl) (.int .i64 kd) (.int .u64 a0) (.int .u64 a1) (.int .u64 a2) (.int .u64 a3) (.int .i64 lo) (.int .i64 hi) (.slice A' n c')) (fun i hh _ e => by have e' : i = w.heap.size := e; have hh' : w.heap.size + 1 ≤ i := hh; omega) (fun i hh hl => ⟨by have hh' : w.heap.size + 1 ≤ i := hh; omega, ?_⟩)
        exact Nat.lt_of_lt_of_le hl (kept_set8 (Kept.refl (fun i => i = w.heap.size) w3) (g := w.heap.size) (.inl rfl) (.int .i64 kd) (.int .u64 a0) (.int .u64 a1) (.int .u64 a2) (.int .u64 a3) (.int .i64 lo) (.int .i64 hi) (.slice A' n c')).size
      have hst : stopP T k = false := by unfold stopP; simp [hb, h124, h41]; omega
      rw [if_neg (by rw [hst]; decide)] at hP2
      have t1 : ((b.toNat : Int) == 124) = false := ne_lit (c := 124) h124
      have t2 : ((b.toNat : Int) == 41) = false := ne_lit (c := 41) h41
      have t1' : ((b.toNat : Int) != 124) = true := by simpa using t1
      have t2' : ((b.toNat : Int) != 41) = true := by simpa using t2
      have hterm := fun n => term_any (wo.drewN n) E (HP.out.drewN n) (fun w1 hw1 => HE.out (k + 1) w1 (by omega) hw1)
      clear hb hst h124 h41
      rcases ht : termP T E k with _ | ⟨r, k1⟩
      · rw [ht] at hP2 hterm
        have hz : Z = none := by rw [HZ.out, ← HR.out, ← hP2]
        subst hz
        have HT := Lib.hid hterm
        clear hterm ht hP2
        go_wp2_with fail
        go_quiet (fail)
        go_wp2_with fail
        refine (HT.out _).mono ?_
        rintro e w2 ⟨rfl, hp2, hk2⟩
        go_wp2_with fail
        exact ⟨rfl, rfl, hp2, (HK.out.drewN _).then_ hk2⟩
      · rw [ht] at hP2 hterm
        have hkk := termP_pos HEP.out ht
        simp only at hP2
        have HT := Lib.hid hterm
        obtain ⟨R2, hR2⟩ : ∃ R2, R2 = cntsP T (T.length + 1) r k1 := ⟨_, rfl⟩
        rw [← hR2] at hP2
        have HP2 := Lib.hid hP2
        have HR2 := Lib.hid hR2
        clear hterm ht hP2 hR2
        go_wp2_with fail
        go_quiet (fail)
        go_wp2_with fail
        refine (HT.out _).mono ?_
        rintro e w2 ⟨cs, rfl, hv, hp2, hk2⟩
        obtain ⟨kd, a0, a1, a2, a3, lo, hi, A, n, c, rfl⟩ := hv.eight
        have hso : w.heap.size < wo.heap.size := HR8.out.lt
        have hgo : g < wo.heap.size := HP.out.lt
        have hs2 : wo.heap.size ≤ w2.heap.size := hk2.size
        have HV := Lib.hid hv
        have HK2 := Lib.hid (Kept.then_ (b := wo) HK.out ⟨hk2.os, hk2.tape, hk2.output, hk2.size, hk2.block⟩)
        have HO2 := Lib.hid (show Kept (isG g) wo w2 from ⟨hk2.os, hk2.tape, hk2.output, hk2.size, hk2.block⟩)
        have HPX := Lib.hid hp2
        clear hv hk2 hp2 HT c0 c1 q1 hix
        go_wp2_with fail
        obtain ⟨wX, hwX⟩ : ∃ wX, wX = w2.alloc (.cells #[.int .i64 kd, .int .u64 a0, .int .u64 a1, .int .u64 a2, .int .u64 a3, .int .i64 lo, .int .i64 hi, .slice A n c] 27) := ⟨_, rfl⟩
        have hX0 : Blk wX w2.heap.size 27 #[.int .i64 kd, .int .u64 a0, .int .u64 a1, .int .u64 a2, .int .u64 a3, .int .i64 lo, .int .i64 hi, .slice A n c] := by rw [hwX]; exact Blk.new _ _ _
        have hXs : wX.heap.size = w2.heap.size + 1 := by rw [hwX]; simp
        have hpX : PS T wX g k1 := by rw [hwX]; exact HPX.out.alloc _
        have h2X : Kept (isG g) w2 wX := by rw [hwX]; exact (Kept.refl _ _).alloc _
        have hvX : RxV wX (fun i => wo.heap.size ≤ i ∧ i < wX.heap.size ∧ i ≠ w2.heap.size) r [.int .i64 kd, .int .u64 a0, .int .u64 a1, .int .u64 a2, .int .u64 a3, .int .i64 lo, .int .i64 hi, .slice A n c] := HV.out.kept h2X (fun i hh _ e => by have hh1 : wo.heap.size ≤ i := hh.1; have e' : i = g := e; omega) (fun i hh hl => ⟨hh.1, by omega, by have := hh.2; omega⟩)
        rw [← hwX]
        have HX0 := Lib.hid hX0
        have HPX1 := Lib.hid hpX
        have HVX := Lib.hid hvX
        have H2X := Lib.hid h2X
        clear hwX hX0 hpX hvX h2X
        go_loopg [] (T.length + 1) (fun f wr => CtRel T wX g w2.heap.size wo.heap.size k1 R2 f wr)
        case atStart => exact ⟨r, _, k1, HPX1.out, Nat.le_refl _, by omega, HR2.out.symm, HX0.out, HVX.out, Kept.refl _ _⟩
        case round =>
          clear HX0 HPX1 HVX
          obtain ⟨r2, cs2, k2, hp, h4, h5, hP, hX, hv, hK⟩ := hrel
          obtain ⟨f2, rfl⟩ : ∃ f2, gk = f2 + 1 := ⟨gk - 1, by omega⟩
          obtain ⟨kd, a0, a1, a2, a3, lo, hi, A, n, c, rfl⟩ := hv.eight
          have hk2e := hp.2.1
          have HPc := Lib.hid hp
          have HKc := Lib.hid hK
          have HVc := Lib.hid hv
          have hX8 : R8 wr w2.heap.size (.int .i64 kd) (.int .u64 a0) (.int .u64 a1) (.int .u64 a2) (.int .u64 a3) (.int .i64 lo) (.int .i64 hi) (.slice A n c) := hX
          have hP2 := hP.out
          rw [cntsP] at hP2
          clear hp hK hv hX hP
          rcases hc : cntP T k2 with _ | ⟨cc, k3⟩
          · rw [hc] at hP2
            have HC := Lib.hid (cnt_f wr HPc.out hc)
            have hz : Z = none := by rw [HZ.out, ← HR.out, ← HP2.out, ← hP2]
            subst hz
            clear hc hP2
            go_wp2_with fail
            refine HC.out.mono ?_
            rintro e w4 ⟨rfl, hp4, hk4⟩
            go_wp2_with fail
            exact ⟨rfl, rfl, hp4, ((HK2.out.then_ H2X.out).join HKc.out (by omega)).then_ hk4⟩
          · rw [hc] at hP2
            have hkc := cntP_pos hk2e hc
            have HC := Lib.hid (cnt_v wr HPc.out hc)
            rcases cc with _ | ⟨lo2, hi2⟩
            · simp only at hP2 HC
              have hP3 := HP2.out
              rw [← hP2] at hP3
              simp only at hP3
              have HP3 := Lib.hid hP3
              clear hc hP2 hP3
              go_wp2_with fail
              refine HC.out.mono ?_
              rintro e w4 ⟨rfl, hp4, hk4⟩
              have hX4 := hX8.kept hk4 (fun e => by have e' : w2.heap.size = g := e; omega)
              have hK4 := ((HK2.out.then_ H2X.out).join HKc.out (by omega)).then_ hk4
              have hs4 : wX.heap.size ≤ w4.heap.size := Nat.le_trans HKc.out.size hk4.size
              have hv4 : RxV w4 (fun i => wo.heap.size ≤ i ∧ i < w4.heap.size ∧ i ≠ w2.heap.size) r2 [.int .i64 kd, .int .u64 a0, .int .u64 a1, .int .u64 a2, .int .u64 a3, .int .i64 lo, .int .i64 hi, .slice A n c] := HVc.out.kept hk4 (fun i hh _ e => by have := hh.1; have e' : i = g := e; omega) (fun i hh hl => ⟨hh.1, Nat.lt_of_lt_of_le hl hk4.size, hh.2.2⟩)
              have hk04 : Kept (gX g w2.heap.size) wo w4 := ((HO2.out.mono fun i e => .inl e).then_ (H2X.out.mono fun i e => .inl e)).then_ (HKc.out.then_ (hk4.mono fun i e => .inl e))
              have hL4 := HL.out.kept hk04 (fun i h1 h2 e => by
                rcases e with e | e
                · have hgw : g < w.heap.size := hg; omega
                · omega)
              have hR4 := HR8.out.kept hk04 (fun e => by
                rcases e with e | e
                · have hgw : g < w.heap.size := hg; omega
                · omega)
              obtain ⟨⟨⟨c0, c1⟩, c2, c3⟩, ⟨c4, c5⟩, c6, c7⟩ := hX4.cells
              have ho4 := hL4.1.alloc (.cells #[.int .i64 kd, .int .u64 a0, .int .u64 a1, .int .u64 a2, .int .u64 a3, .int .i64 lo, .int .i64 hi, .slice A n c] 27)
              have hrr := reads8 w4 (.int .i64 kd) (.int .u64 a0) (.int .u64 a1) (.int .u64 a2) (.int .u64 a3) (.int .i64 lo) (.int .i64 hi) (.slice A n c)
              have hone : ∀ u ∈ ([.int .i64 kd, .int .u64 a0, .int .u64 a1, .int .u64 a2, .int .u64 a3, .int .i64 lo, .int .i64 hi, .slice A n c] : List Value), u.oneCell' = true := by simp [Value.oneCell']
              have hle4 : w.heap.size + 1 ≤ w4.heap.size := by omega
              have HV4 := Lib.hid hv4
              have HL4 := Lib.hid hL4.2
              have HO4 := Lib.hid hL4.1
              have HK4 := Lib.hid hK4
              have HP4 := Lib.hid hp4
              have HR4 := Lib.hid hR4
              clear hX4 hK4 hv4 hk04 hL4 hR4 hp4 hk4 hX8
              have hinf := HI.out
              have hz0 := HI0.out
              have hz1 := HI1.out
              have hz2 := HI2.out
              go_wp2_with (at_builtin; refine wpList_append_any _ rfl (.tmp 57) (.tmp 59) 25 rfl (w.heap.size + 1) 27 i0 (.agg #[.int .i64 0, .int .u64 0, .int .u64 0, .int .u64 0, .int .u64 0, .int .i64 0, .int .i64 0, .slice none 0 0]) 8 80 Tryd.underlying25 hinf hz0 hz1 hz2 rfl (by decide) _ l.length css rfl ho4 _ _ _ _ [.int .i64 kd, .int .u64 a0, .int .u64 a1, .int .u64 a2, .int .u64 a3, .int .i64 lo, .int .i64 hi, .slice A n c] rfl hrr hone (by unfold maxLen; omega) (by omega) (by simp; omega) ?_)
              intro v5 w5 hown5 hg5 hv5
              clear hinf hz0 hz1 hz2 ho4 hrr hone
              go_wp2_with fail
              go_roundg f
              case measure => omega
              case rel => exact tm_next hg HP4.out HL4.out HO4.out HR4.out HK4.out HV4.out (fun i hh _ => ⟨by have := hh.1; omega, fun e => by have := own_ge HL.out.1 e; have := hh.1; omega⟩) hown5 hg5 hv5 (by omega) (by omega) (by omega) HP3
            · simp only at hP2 HC
              have HPn := Lib.hid hP2
              clear hc hP2
              obtain ⟨⟨⟨c0, c1⟩, c2, c3⟩, ⟨c4, c5⟩, c6, c7⟩ := hX8.cells
              obtain ⟨⟨⟨f0', f1'⟩, f2', f3'⟩, ⟨f4', f5'⟩, f6', f7'⟩ := hX8.free
              go_wp2_with fail
              refine HC.out.mono ?_
              rintro e w4 ⟨rfl, hp4, hk4⟩
              have hX4 := hX8.kept hk4 (fun e => by have e' : w2.heap.size = g := e; omega)
              have hv4 : RxV w4 (fun i => wo.heap.size ≤ i ∧ i < w4.heap.size ∧ i ≠ w2.heap.size) r2 [.int .i64 kd, .int .u64 a0, .int .u64 a1, .int .u64 a2, .int .u64 a3, .int .i64 lo, .int .i64 hi, .slice A n c] := HVc.out.kept hk4 (fun i hh _ e => by have := hh.1; have e' : i = g := e; omega) (fun i hh hl => ⟨hh.1, Nat.lt_of_lt_of_le hl hk4.size, hh.2.2⟩)
              have hK4 : Kept (gX g w2.heap.size) wX w4 := HKc.out.then_ (hk4.mono fun i e => .inl e)
              have hs4 : w2.heap.size < w4.heap.size := hX4.lt
              clear c0 c1 c2 c3 c4 c5 c6 c7 f0' f1' f2' f3' f4' f5' f6' f7'
              obtain ⟨⟨⟨c0, c1⟩, c2, c3⟩, ⟨c4, c5⟩, c6, c7⟩ := hX4.cells
              obtain ⟨⟨⟨f0', f1'⟩, f2', f3'⟩, ⟨f4', f5'⟩, f6', f7'⟩ := hX4.free
              have hk23 : k2 < k3 := hkc.2.2 (by intro e; cases e)
              have hk3T : k3 ≤ T.length := hkc.2.1
              have HN := Lib.hid (ct_next (k1 := k1) (s1 := wo.heap.size) (wX := wX) (X := w2.heap.size) (f := f2) (R := R2) (lo2 := lo2) (hi2 := hi2) hp4 (by omega) (by omega) HPn hX4 hv4 hK4 (by omega) hs4 (by omega))
              clear hX4 hv4 hK4 hp4 hk4 hX8
              go_wp2_with fail
              go_roundg f2
              case measure => omega
              case rel => exact HN.out
end Go.Proofs.YtpiagfmjekcncaaDoor
