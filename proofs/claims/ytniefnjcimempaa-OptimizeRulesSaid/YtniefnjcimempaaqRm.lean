/- The walks of plan.operands and plan.stepOf. The memory of plan.Of: the open visits, and the steps that are laid. Steps in the memory of plan.Of. -/
import Derived.Test.YtniefnjcimempaaqPoP
import Derived.Test.YtniefnjcimempaaqRx1
import Derived.Test.YtniefnjcimempaaqSizeW
namespace Go.Proofs.Ytniefnjcimempaa
open Go.RowKit
theorem blk5 {w : World} {g : Nat} {t : TypeId} {a b c d e : Value} (h : Blk w g t #[a, b, c, d, e]) : w.cell? ⟨g, 0, none⟩ = some a ∧ w.cell? ⟨g, 1, none⟩ = some b ∧ w.cell? ⟨g, 2, none⟩ = some c ∧ w.cell? ⟨g, 3, none⟩ = some d ∧ w.cell? ⟨g, 4, none⟩ = some e ∧
    w.frozen? ⟨g, 0, none⟩ = false ∧ w.frozen? ⟨g, 1, none⟩ = false ∧ w.frozen? ⟨g, 2, none⟩ = false ∧ w.frozen? ⟨g, 3, none⟩ = false ∧ w.frozen? ⟨g, 4, none⟩ = false :=
  ⟨h.cell 0, h.cell 1, h.cell 2, h.cell 3, h.cell 4, h.frozen 0, h.frozen 1, h.frozen 2, h.frozen 3, h.frozen 4⟩
theorem five_set {w w1 : World} {g : Nat} {a b c d e : Value} (h : Below w.heap.size w w1) (hg : w.heap.size ≤ g) : Below w.heap.size w (((((w1.setCell ⟨g, 0, none⟩ a).setCell ⟨g, 1, none⟩ b).setCell ⟨g, 2, none⟩ c).setCell ⟨g, 3, none⟩ d).setCell ⟨g, 4, none⟩ e) :=
  (four_set h hg).setCell hg e
theorem opZ_some {t : List UInt8} {o : OpI} (h : opR t = some o) : opZ t = o := by unfold opZ; rw [h]; rfl
theorem operands_any (x : Lx) (F : Nat → Prop) (w : World) (h : LxAt w F x) : Calls Try.prog 30 #[.pointer (some x.ad)] w fun e w' => e = .returned (.int .i64 (opsN x.er : Int)) ∧ Below w.heap.size w w' := by
  obtain ⟨b, o, A, c, had, _, hbl, h1, h2, h3, h4, _⟩ := h.cells
  rw [had]
  by_cases hk : x.kind = 4
  · have hN : opsN x.er = (opZ x.text).args.length := by unfold opsN; rw [er_kind, er_text, if_pos hk]
    rw [hk] at h1
    have HN := Lib.hid hN
    have hop := op_any x.text w
    have HOP := Lib.hid hop
    clear hk hN hop h h3 h4 had
    go_enter Try.func30, Try.ntmps30
    go_wp2_with fail
    refine HOP.out.mono ?_
    rintro e w1 ⟨hb, he⟩
    have HB := Lib.hid hb
    have hz := hb.size
    clear hb
    cases ho : opR x.text with
    | none =>
      rw [ho] at he
      have he : e = _ := he
      subst he
      have HO := Lib.hid (show opZ x.text = ⟨[], 0, false, false⟩ by unfold opZ; rw [ho]; rfl)
      clear ho
      go_wp2_with fail
      go_ret
      exact ⟨by rw [HN.out, HO.out]; rfl, HB.out.alloc hz _⟩
    | some op =>
      rw [ho] at he
      obtain ⟨A', c', rfl, _⟩ := he
      have HO := Lib.hid (opZ_some ho)
      clear ho
      go_wp2_with fail
      go_ret
      exact ⟨by rw [HN.out, HO.out]; rfl, HB.out.alloc hz _⟩
  · have hN : opsN x.er = 0 := by unfold opsN; rw [er_kind, if_neg hk]
    have e1 : (x.kind == 4) = false := by simpa using hk
    have e2 : (x.kind != 4) = true := by simpa using hk
    rw [hN]
    clear hk hN h h2 h3 h4 had
    go_enter Try.func30, Try.ntmps30
    go_wp2_with fail
    go_ret
    exact ⟨rfl, Below.refl _ _⟩
/-- The cells of the step that stepOf makes. -/
def stepC (x : Tx) (A : Option Addr) (c : Nat) (idx : List Int) : List Value :=
  if x.kind = 1 ∨ x.kind = 2 ∨ x.kind = 3 then [.string ⟨(stepR x idx).op.toArray⟩, .slice none 0 0, .int .i64 (stepR x idx).num, .string ⟨(stepR x idx).text.toArray⟩, .int .i64 (stepR x idx).ty]
  else [.string ⟨(stepR x idx).op.toArray⟩, .slice A idx.length c, .int .i64 (stepR x idx).num, .string ⟨(stepR x idx).text.toArray⟩, .int .i64 (stepR x idx).ty]
set_option maxRecDepth 100000 in
set_option maxHeartbeats 4000000 in
theorem stepOf_any (x : Lx) (F : Nat → Prop) (A : Option Addr) (c : Nat) (idx : List Int) (w : World) (h : LxAt w F x) (hl : Laid x) (hk14 : x.kind = 1 ∨ x.kind = 2 ∨ x.kind = 3 ∨ x.kind = 4) :
    Calls Try.prog 31 #[.pointer (some x.ad), .slice A idx.length c] w fun e w' => e = .returned (.agg (stepC x.er A c idx).toArray) ∧ Below w.heap.size w w' := by
  obtain ⟨b, o, A', c', had, _, hbl, h1, h2, h3, h4, hA⟩ := h.cells
  rw [had]
  have HL := Lib.hid hl
  have HA := Lib.hid hA
  clear h had hl hA
  by_cases k1 : x.kind = 1
  · have hS : stepC x.er A c idx = [.string ⟨#[110, 117, 109, 98, 101, 114]⟩, .slice none 0 0, .int .i64 x.num, .string ⟨#[]⟩, .int .i64 1] := by
      unfold stepC stepR
      rw [er_kind, if_pos (.inl k1), if_pos k1, er_num]
      rfl
    rw [hS]
    rw [k1] at h1
    clear hS k1 hk14
    go_enter Try.func31, Try.ntmps31
    go_wp2_with fail
    exact bodyPost_ret (v := .agg #[.string ⟨#[110, 117, 109, 98, 101, 114]⟩, .slice none 0 0, .int .i64 x.num, .string ⟨#[]⟩, .int .i64 1]) (by simp [results, Try.results31, go_sem]) rfl ⟨rfl, below_alloc _ _⟩
  by_cases k2 : x.kind = 2
  · have hS : stepC x.er A c idx = [.string ⟨#[115, 116, 114, 105, 110, 103]⟩, .slice none 0 0, .int .i64 0, .string ⟨x.text.toArray⟩, .int .i64 3] := by
      unfold stepC stepR
      rw [er_kind, if_pos (.inr (.inl k2)), if_neg (by omega), if_pos k2, er_text]
      rfl
    rw [hS]
    rw [k2] at h1
    clear hS k2 k1 hk14
    go_enter Try.func31, Try.ntmps31
    go_wp2_with fail
    exact bodyPost_ret (v := .agg #[.string ⟨#[115, 116, 114, 105, 110, 103]⟩, .slice none 0 0, .int .i64 0, .string ⟨x.text.toArray⟩, .int .i64 3]) (by simp [results, Try.results31, go_sem]) rfl ⟨rfl, below_alloc _ _⟩
  by_cases k3 : x.kind = 3
  · have hS : stepC x.er A c idx = [.string ⟨#[114, 101, 102]⟩, .slice none 0 0, .int .i64 0, .string ⟨x.text.toArray⟩, .int .i64 3] := by
      unfold stepC stepR
      rw [er_kind, if_pos (.inr (.inr k3)), if_neg (by omega), if_neg (by omega), if_pos k3, er_text]
      rfl
    rw [hS]
    rw [k3] at h1
    clear hS k3 k1 k2 hk14
    go_enter Try.func31, Try.ntmps31
    go_wp2_with fail
    exact bodyPost_ret (v := .agg #[.string ⟨#[114, 101, 102]⟩, .slice none 0 0, .int .i64 0, .string ⟨x.text.toArray⟩, .int .i64 3]) (by simp [results, Try.results31, go_sem]) rfl ⟨rfl, below_alloc _ _⟩
  have hS : stepC x.er A c idx = [.string ⟨x.text.toArray⟩, .slice A idx.length c, .int .i64 0, .string ⟨(if (opZ x.text).regex = true then (x.er.args.getD (opZ x.text).args.length (.node 0 [] 0 [])).text else []).toArray⟩, .int .i64 (opZ x.text).res] := by
    unfold stepC stepR
    rw [er_kind, if_neg (by omega), if_neg (by omega), if_neg (by omega), if_neg (by omega), er_text]
  have e1 : (x.kind == 1) = false := by simpa using k1
  have e2 : (x.kind == 2) = false := by simpa using k2
  have e3 : (x.kind == 3) = false := by simpa using k3
  rw [hS]
  have hop := fun w => op_any x.text w
  have HOP := Lib.hid hop
  by_cases k4 : x.kind = 4
  · obtain ⟨op, ho, hln⟩ := HL.out k4
    have HO := Lib.hid ho
    rw [opZ_some ho]
    obtain ⟨oargs, ores, otext, oreg⟩ := op
    dsimp only at hln ⊢
    obtain ⟨RT, hRT⟩ : ∃ RT, RT = (if oreg = true then (x.er.args.getD oargs.length (.node 0 [] 0 [])).text else []) := ⟨_, rfl⟩
    rw [← hRT]
    have HRT := Lib.hid hRT
    clear hRT
    clear k1 k2 k3 k4 hS hop ho hk14
    go_enter Try.func31, Try.ntmps31
    go_wp2_with fail
    refine (HOP.out _).mono ?_
    rintro e w1 ⟨hb, he⟩
    rw [HO.out] at he
    obtain ⟨Ao, co, rfl, _⟩ := he
    have HB := Lib.hid hb
    have hz := hb.size
    simp at hz
    have HR1 := Lib.hid ((Blk.new w 25 _).below hb (by simp))
    have g1 := (hb.cell (p := ⟨b, o + 1, none⟩) (by simp; omega)).trans ((World.cell?_alloc_lt w _ ⟨b, o + 1, none⟩ hbl).trans h2)
    have g3 := (hb.cell (p := ⟨b, o + 3, none⟩) (by simp; omega)).trans ((World.cell?_alloc_lt w _ ⟨b, o + 3, none⟩ hbl).trans h4)
    have hbl1 : b < w1.heap.size := by omega
    clear hb h1 h2 h3 h4
    go_upto_region 9 with (fail)
    obtain ⟨wq, hwq⟩ : ∃ wq, wq = w1.alloc (.cells #[.slice Ao oargs.length co, .int .i64 ores, .bool otext, .bool oreg] 99) := ⟨_, rfl⟩
    have HBQ := Lib.hid (show Below w1.heap.size w1 wq by rw [hwq]; exact below_alloc _ _)
    have HQ := Lib.hid (show Blk wq w1.heap.size 99 #[.slice Ao oargs.length co, .int .i64 ores, .bool otext, .bool oreg] by rw [hwq]; exact Blk.new _ _ _)
    have HRQ := Lib.hid (HR1.out.below HBQ.out HR1.out.lt)
    have p1 := (HBQ.out.cell (p := ⟨b, o + 1, none⟩) hbl1).trans g1
    have p3 := (HBQ.out.cell (p := ⟨b, o + 3, none⟩) hbl1).trans g3
    have hzq := HQ.out.lt
    have hbq : b < wq.heap.size := by omega
    obtain ⟨u0, u1, u2, u3, _, _, _, _⟩ := blk4 HQ.out
    rw [← hwq]
    clear hwq g1 g3
    go_region_held3 (fun w' => w'.cell? ⟨b, o + 1, none⟩ = some (.string ⟨x.text.toArray⟩) ∧ w'.cell? ⟨w1.heap.size, 1, none⟩ = some (.int .i64 ores))
      (first | go_keep | assumption)
      (first | fail)
    obtain ⟨wz, hwz⟩ : ∃ wz, wz = (wq.alloc (.cells #[.string ⟨x.text.toArray⟩, .slice A idx.length c, .int .i64 0, .string ⟨#[]⟩, .int .i64 ores] 25)).drew := ⟨_, rfl⟩
    have HBZ := Lib.hid (show Below wq.heap.size wq wz by rw [hwz]; exact (below_alloc _ _).drew)
    have HZ := Lib.hid (show Blk wz wq.heap.size 25 #[.string ⟨x.text.toArray⟩, .slice A idx.length c, .int .i64 0, .string ⟨#[]⟩, .int .i64 ores] by rw [hwz]; exact (Blk.new _ _ _).drew)
    rw [← hwz]
    clear hwz
    have HRZ := HRQ.out.below HBZ.out HRQ.out.lt
    have HQZ := HQ.out.below HBZ.out HQ.out.lt
    have hrl := HR1.out.lt
    have hzz := HZ.out.lt
    obtain ⟨v0, v1, v2, v3, v4, n0, n1, n2, n3, n4⟩ := blk5 HRZ
    obtain ⟨s0, s1, s2, s3, s4, m0, m1, m2, m3, m4⟩ := blk5 HZ.out
    have o0 := HQZ.cell 0
    have o3 := HQZ.cell 3
    simp only [List.getElem?_toArray, List.getElem?_cons_zero, List.getElem?_cons_succ] at o0 o3
    have HBB := Lib.hid ((((below_alloc w (.cells #[.string ⟨#[]⟩, .slice none 0 0, .int .i64 0, .string ⟨#[]⟩, .int .i64 0] 25)).trans (HB.out.mono (by simp))).trans (HBQ.out.mono (by omega))).trans (HBZ.out.mono (by omega)))
    cases oreg with
    | false =>
      have HRT := Lib.hid (show RT = [] from HRT.out)
      go_wp2_with fail
      refine bodyPost_ret (v := .agg #[.string ⟨x.text.toArray⟩, .slice A idx.length c, .int .i64 0, .string ⟨([] : List UInt8).toArray⟩, .int .i64 ores]) (by simp [results, Try.results31, go_sem, v0, v1, v2, v3, v4]) rfl ⟨by rw [HRT.out], ?_⟩
      exact five_set HBB.out (Nat.le_refl _)
    | true =>
      have hkl : oargs.length < x.args.length := by simp at hln; omega
      obtain ⟨y, hy⟩ : ∃ y, x.args[oargs.length]? = some y := ⟨x.args[oargs.length], List.getElem?_eq_getElem hkl⟩
      obtain ⟨⟨ba, oa, hAe, hyad⟩, hY⟩ := HA.out.get _ y hy
      subst hAe
      obtain ⟨by', oy, _, _, hyad2, _, hyb, _, hyt, _, _, _⟩ := hY.cells
      rw [hyad] at hyad2
      injection hyad2 with hb1 hb2
      subst hb1 hb2
      rw [Nat.zero_add] at hyt
      have hgt : (x.er.args.getD oargs.length (.node 0 [] 0 [])).text = y.text := by
        rw [er_args, erL_map, List.getD_eq_getElem?_getD, List.getElem?_map, hy]
        exact er_text y
      have HRT2 := Lib.hid (show RT = y.text from HRT.out.trans hgt)
      clear HRT
      have hbaz : ba < wz.heap.size := by omega
      have c1 : wz.cell? ⟨ba, oa + oargs.length * 4 + 1, none⟩ = some (.string ⟨y.text.toArray⟩) := (HBB.out.cell (p := ⟨ba, oa + oargs.length * 4 + 1, none⟩) hyb).trans hyt
      have c2 := (HBZ.out.cell (p := ⟨b, o + 3, none⟩) hbq).trans p3
      have r1 : (oargs.length : Int) < (x.args.length : Int) := by omega
      have r2 : (0 : Int) ≤ (oargs.length : Int) := by omega
      have hq1 : ¬ (wq.heap.size = ba) := by omega
      have hq2 : ¬ (wq.heap.size = b) := by omega
      have hq3 : ¬ (wq.heap.size = w1.heap.size) := by omega
      generalize y.text = T at *
      clear hy hyad hY hyt hgt hln p1 p3
      go_upto_region 11 with (fail)
      go_region_held3 (fun w' => w'.cell? ⟨ba, oa + oargs.length * 4 + 1, none⟩ = some (.string ⟨T.toArray⟩) ∧ w'.cell? ⟨b, o + 3, none⟩ = some (.slice (some ⟨ba, oa, none⟩) x.args.length c') ∧ w'.cell? ⟨w1.heap.size, 0, none⟩ = some (.slice Ao oargs.length co))
        (first | go_keep | assumption)
        (first | fail)
      obtain ⟨wt, hwt⟩ : ∃ wt, wt = (wz.setCell ⟨wq.heap.size, 3, none⟩ (.string ⟨T.toArray⟩)).drew := ⟨_, rfl⟩
      have HT := Lib.hid (show Blk wt wq.heap.size 25 #[.string ⟨x.text.toArray⟩, .slice A idx.length c, .int .i64 0, .string ⟨T.toArray⟩, .int .i64 ores] by rw [hwt]; exact (HZ.out.set_ 3 _).drew)
      have hRT := show Blk wt w.heap.size 25 #[.string ⟨#[]⟩, .slice none 0 0, .int .i64 0, .string ⟨#[]⟩, .int .i64 0] by rw [hwt]; exact (HRZ.far (p := ⟨wq.heap.size, 3, none⟩) (by show w.heap.size ≠ wq.heap.size; omega) _).drew
      have HBT := Lib.hid (show Below w.heap.size w wt by rw [hwt]; exact (HBB.out.setCell (p := ⟨wq.heap.size, 3, none⟩) (by show w.heap.size ≤ wq.heap.size; omega) _).drew)
      rw [← hwt]
      clear hwt HRZ HQZ v0 v1 v2 v3 v4 n0 n1 n2 n3 n4 s0 s1 s2 s3 s4 m0 m1 m2 m3 m4 o0 o3 c1 c2
      obtain ⟨v0, v1, v2, v3, v4, n0, n1, n2, n3, n4⟩ := blk5 hRT
      obtain ⟨s0, s1, s2, s3, s4, m0, m1, m2, m3, m4⟩ := blk5 HT.out
      clear hRT
      go_wp2_with fail
      refine bodyPost_ret (v := .agg #[.string ⟨x.text.toArray⟩, .slice A idx.length c, .int .i64 0, .string ⟨T.toArray⟩, .int .i64 ores]) (by simp [results, Try.results31, go_sem, v0, v1, v2, v3, v4]) rfl ⟨by rw [HRT2.out], ?_⟩
      exact five_set HBT.out (Nat.le_refl _)
  · exact absurd hk14 (by omega)
end Go.Proofs.Ytniefnjcimempaa
namespace Go.Proofs.Ytniefnjcimempaa
open Go.RowKit
theorem own_same {w w' : World} {base e size n : Nat} {v : Value} {xs : List Value} (h : w.ownsRow base e size v n xs) (hk : ∀ g, v.ownBlock = some g → w'.heap[g]? = w.heap[g]?) : w'.ownsRow base e size v n xs := by
  refine ⟨h.1, ?_⟩
  rcases h.2 with h | ⟨g, cap, cur, h1, h2, h3, h4⟩
  · exact .inl h
  · exact .inr ⟨g, cap, cur, h1, h2, (hk g (by rw [h1]; rfl)).trans h3, h4⟩
/-- The cells of the open visits, the innermost last; D: the blocks of their rows of indices. -/
def VisVs (w : World) (base : Nat) : List (Lx × List Int) → List Value → List (Option Nat) → Prop
  | [], xs, D => xs = [] ∧ D = []
  | (x, idx) :: st, xs, D => ∃ xs' A c D', xs = xs' ++ [.pointer (some x.ad), .slice A idx.length c] ∧ D = (Value.slice A idx.length c).ownBlock :: D' ∧ (∀ g, (Value.slice A idx.length c).ownBlock = some g → some g ∉ D') ∧
      w.ownsRow base 3 1 (.slice A idx.length c) idx.length (idx.map (Value.int .i64)) ∧ VisVs w base st xs' D'
theorem VisVs.keep {w w' : World} {base : Nat} : ∀ {st : List (Lx × List Int)} {xs : List Value} {D : List (Option Nat)}, VisVs w base st xs D → (∀ g, some g ∈ D → w'.heap[g]? = w.heap[g]?) → VisVs w' base st xs D
  | [], _, _, h, _ => h
  | (x, idx) :: st, xs, D, h, hk => by
    obtain ⟨xs', A, c, D', h1, h2, h3, h4, h5⟩ := h
    exact ⟨xs', A, c, D', h1, h2, h3, own_same h4 (fun g hg => hk g (by rw [h2, hg]; exact List.mem_cons_self ..)), VisVs.keep h5 (fun g hg => hk g (by rw [h2]; exact List.mem_cons_of_mem _ hg))⟩
theorem VisVs.len {w : World} {base : Nat} : ∀ {st : List (Lx × List Int)} {xs : List Value} {D : List (Option Nat)}, VisVs w base st xs D → xs.length = 2 * st.length
  | [], _, _, h => by rw [h.1]; rfl
  | (x, idx) :: st, xs, D, h => by
    obtain ⟨xs', A, c, D', h1, h2, h3, h4, h5⟩ := h
    rw [h1, List.length_append, h5.len, List.length_cons]
    simp; omega
theorem VisVs.blk {w : World} {base : Nat} : ∀ {st : List (Lx × List Int)} {xs : List Value} {D : List (Option Nat)}, VisVs w base st xs D → ∀ g, some g ∈ D → base ≤ g ∧ ∃ cur, Blk w g 3 cur
  | [], _, _, h, g, hg => by rw [h.2] at hg; cases hg
  | (x, idx) :: st, xs, D, h, g, hg => by
    obtain ⟨xs', A, c, D', h1, h2, h3, h4, h5⟩ := h
    rw [h2] at hg
    rcases List.mem_cons.1 hg with hg | hg
    · exact own_lo h4 hg.symm
    · exact h5.blk g hg
/-- Where the index rows of laid steps lie: own blocks of type int that no open visit holds. -/
def stF (w : World) (base : Nat) (D : List (Option Nat)) (i : Nat) : Prop := base ≤ i ∧ i < w.heap.size ∧ some i ∉ D ∧ ∃ cur, Blk w i 3 cur
/-- The memory of plan.Of. -/
def PoS (wr : World) (base : Nat) (root : Lx) (gp : Nat) (v : Value) (st : List (Lx × List Int)) (P : List St) : Prop :=
  ∃ xs D A c css, wr.ownsRow base 68 2 v st.length xs ∧ VisVs wr base st xs D ∧ Blk wr gp 28 #[.slice A P.length c] ∧ wr.ownsRow base 25 5 (.slice A P.length c) P.length css ∧
    StVs wr (stF wr base D) P css ∧ LxAt wr (fun i => i < base) root ∧ base ≤ gp ∧ base ≤ wr.heap.size
def IdxOk : List (Lx × List Int) → Prop
  | [] => True
  | (x, idx) :: st => idx.length ≤ opsN x.er ∧ ∀ q ∈ st, q.2.length < opsN q.1.er
def PoOk (root : Lx) (st : List (Lx × List Int)) (P : List St) : Prop := contA st [] P = planT root.er ∧ (∀ q ∈ st, Sub q.1 root ∧ ∃ t, typX q.1 = .ok t) ∧ IdxOk st ∧ P.length + muV st ≤ 2 * root.size
theorem PoOk.start {root : Lx} {t : Int} (h : typX root = .ok t) : PoOk root [(root, [])] [] := by
  refine ⟨contA_start root, fun q hq => ?_, ⟨Nat.zero_le _, fun q hq => by cases hq⟩, ?_⟩
  · have : q = (root, []) := by simpa using hq
    subst this
    exact ⟨.refl _, t, h⟩
  · have := root.size_eq
    show 0 + (2 * sizeXL (root.args.drop 0) + 1 + 0) ≤ 2 * root.size
    rw [List.drop_zero]
    omega
theorem PoOk.push {root x y : Lx} {idx : List Int} {st : List (Lx × List Int)} {P : List St} (h : PoOk root ((x, idx) :: st) P) (hi : idx.length < opsN x.er) (hy : x.args[idx.length]? = some y) : PoOk root ((y, []) :: (x, idx) :: st) P ∧ muV ((y, []) :: (x, idx) :: st) < muV ((x, idx) :: st) := by
  obtain ⟨h1, h2, h3, h4⟩ := h
  have hx := h2 (x, idx) (List.mem_cons_self ..)
  obtain ⟨hxs, t, ht⟩ := hx
  have hm : muV ((y, []) :: (x, idx) :: st) < muV ((x, idx) :: st) := by
    have e1 := size_drop hy
    have e2 := y.size_eq
    show 2 * sizeXL (y.args.drop 0) + 1 + (2 * sizeXL (x.args.drop (idx.length + 1)) + 1 + muT st) < 2 * sizeXL (x.args.drop idx.length) + 1 + muT st
    rw [List.drop_zero]
    omega
  refine ⟨⟨(contA_push x idx st P y hi hy).symm.trans h1, fun q hq => ?_, ⟨Nat.zero_le _, fun q hq => ?_⟩, by omega⟩, hm⟩
  · rcases List.mem_cons.1 hq with rfl | hq
    · exact ⟨.arg (List.mem_of_getElem? hy) hxs, typ_arg ht hi hy⟩
    · exact h2 q hq
  · rcases List.mem_cons.1 hq with rfl | hq
    · exact hi
    · exact h3.2 q hq
theorem PoOk.last {root x : Lx} {idx : List Int} {P : List St} (h : PoOk root [(x, idx)] P) (hi : opsN x.er ≤ idx.length) : PoOk root [] (P ++ [stepR x.er idx]) := by
  obtain ⟨h1, h2, h3, h4⟩ := h
  have hc : contA [] [] (P ++ [stepR x.er idx]) = planT root.er := by rw [← h1, contA_done x idx [] P hi]; rfl
  refine ⟨hc, (fun q hq => by cases hq), trivial, ?_⟩
  · rw [List.length_append]
    have : P.length + (2 * sizeXL (x.args.drop idx.length) + 1 + 0) ≤ 2 * root.size := h4
    show P.length + 1 + 0 ≤ _
    omega
theorem PoOk.done {root x y : Lx} {idx jdx : List Int} {st : List (Lx × List Int)} {P : List St} (h : PoOk root ((x, idx) :: (y, jdx) :: st) P) (hi : opsN x.er ≤ idx.length) : PoOk root ((y, jdx ++ [(P.length : Int)]) :: st) (P ++ [stepR x.er idx]) ∧ muV ((y, jdx ++ [(P.length : Int)]) :: st) < muV ((x, idx) :: (y, jdx) :: st) := by
  obtain ⟨h1, h2, h3, h4⟩ := h
  have hm : muV ((y, jdx ++ [(P.length : Int)]) :: st) < muV ((x, idx) :: (y, jdx) :: st) := by
    show 2 * sizeXL (y.args.drop (jdx ++ [(P.length : Int)]).length) + 1 + muT st < 2 * sizeXL (x.args.drop idx.length) + 1 + (2 * sizeXL (y.args.drop (jdx.length + 1)) + 1 + muT st)
    rw [List.length_append, List.length_singleton]
    omega
  refine ⟨⟨?_, fun q hq => ?_, ⟨?_, fun q hq => h3.2 q (List.mem_cons_of_mem _ hq)⟩, by rw [List.length_append, List.length_singleton]; omega⟩, hm⟩
  · rw [← contA_ret, ← contA_done x idx ((y, jdx) :: st) P hi]
    exact h1
  · rcases List.mem_cons.1 hq with rfl | hq
    · exact h2 (y, jdx) (by simp)
    · exact h2 q (by simp [hq])
  · have := h3.2 (y, jdx) (List.mem_cons_self ..)
    rw [List.length_append, List.length_singleton]
    exact this
end Go.Proofs.Ytniefnjcimempaa
namespace Go.Proofs.Ytniefnjcimempaa
open Go.RowKit
theorem muT_len : ∀ st : List (Lx × List Int), st.length ≤ muT st
  | [] => Nat.le_refl _
  | (x, idx) :: st => by
    have := muT_len st
    show st.length + 1 ≤ 2 * sizeXL (x.args.drop (idx.length + 1)) + 1 + muT st
    omega
theorem kind_of {x r : Lx} (h : r.er.all isNT = true) (hs : Sub x r) : x.kind = 1 ∨ x.kind = 2 ∨ x.kind = 3 ∨ x.kind = 4 := by
  have h1 : r.all isN = true := by rw [all_er _ isNT isN_er r]; exact h
  have h2 := ((Lx.all_iff _ _).1 (hs.all h1)).1
  rw [isN_er] at h2
  unfold isNT at h2
  rw [er_kind] at h2
  by_cases h3 : x.kind = 1
  · exact .inl h3
  by_cases h4 : x.kind = 2 ∨ x.kind = 3
  · rcases h4 with h | h
    · exact .inr (.inl h)
    · exact .inr (.inr (.inl h))
  by_cases h5 : x.kind = 4
  · exact .inr (.inr (.inr h5))
  · rw [if_neg h3, if_neg h4, if_neg h5] at h2; cases h2
theorem reads5 (w : World) (a b c d e : Value) (t : TypeId) : Reads (w.alloc (.cells #[a, b, c, d, e] t)) (w.heap.size + 1) 5 (some ⟨w.heap.size, 0, none⟩) 1 [a, b, c, d, e] :=
  ⟨rfl, fun _ => ⟨_, rfl, by simp, fun j u hu => news_alloc w #[a, b, c, d, e] t j u hu⟩⟩
theorem last_cells2 {cur : Array Value} {n : Nat} {xs : List Value} {a b : Value} (h : cur.toList.take ((n + 1) * 2) = xs ++ [a, b]) (hl : xs.length = 2 * n) : cur[n * 2]? = some a ∧ cur[n * 2 + 1]? = some b := by
  have hh : ∀ j (u : Value), j < 2 → ([a, b] : List Value)[j]? = some u → cur[n * 2 + j]? = some u := fun j u hj hu => by
    have h1 : (cur.toList.take ((n + 1) * 2))[n * 2 + j]? = some u := by
      rw [h, List.getElem?_append_right (by omega), show n * 2 + j - xs.length = j by omega]
      exact hu
    rw [List.getElem?_take_of_lt (by omega)] at h1
    simpa using h1
  exact ⟨hh 0 a (by omega) rfl, hh 1 b (by omega) rfl⟩
theorem last_setB {cur : Array Value} {n : Nat} {xs : List Value} {a b : Value} (h : cur.toList.take ((n + 1) * 2) = xs ++ [a, b]) (hl : xs.length = 2 * n) (b' : Value) : (cur.setIfInBounds (n * 2 + 1) b').toList.take ((n + 1) * 2) = xs ++ [a, b'] := by
  rw [Array.toList_setIfInBounds, List.take_set, h, List.set_append_right _ _ (by omega), show n * 2 + 1 - xs.length = 1 by omega]
  rfl
theorem VisVs.keep_int {w w' : World} {base : Nat} {st : List (Lx × List Int)} {xs : List Value} {D : List (Option Nat)} (h : VisVs w base st xs D) (hk : ∀ g cur, some g ∈ D → Blk w g 3 cur → w'.heap[g]? = w.heap[g]?) : VisVs w' base st xs D :=
  h.keep (fun g hg => by obtain ⟨_, cur, hc⟩ := h.blk g hg; exact hk g cur hg hc)
theorem StVs.keep_int {w w' : World} {base : Nat} {D D' : List (Option Nat)} {P : List St} {css : List Value} (h : StVs w (stF w base D) P css) (hk : ∀ i cur, some i ∉ D → Blk w i 3 cur → w'.heap[i]? = w.heap[i]?) (hs : w.heap.size ≤ w'.heap.size)
    (hD : ∀ i, i < w.heap.size → some i ∉ D → some i ∉ D') : StVs w' (stF w' base D') P css :=
  h.keep (fun i hi _ => by obtain ⟨_, _, h3, cur, h4⟩ := hi; exact hk i cur h3 h4) hs (fun i hi hl => by
    obtain ⟨h1, h2, h3, cur, h4⟩ := hi
    exact ⟨h1, by omega, hD i hl h3, cur, (hk i cur h3 h4).trans h4⟩)
theorem PoS.first {w1 wz : World} {base : Nat} {root : Lx} {gp : Nat} {v : Value} (h1 : Blk wz gp 28 #[.slice none 0 0]) (h2 : base ≤ gp) (h3 : base ≤ wz.heap.size) (hL : LxAt wz (fun i => i < base) root)
    (hv : wz.ownsRow base 68 2 v 1 [.pointer (some root.ad), .slice none 0 0]) : PoS wz base root gp v [(root, [])] [] :=
  ⟨_, [none], none, 0, [], hv, ⟨[], none, 0, [], rfl, rfl, (fun g hg => by cases hg), ⟨rfl, .inl ⟨rfl, rfl⟩⟩, rfl, rfl⟩, h1, ⟨rfl, .inl ⟨rfl, rfl⟩⟩, rfl, hL, h2, h3⟩
theorem PoS.push {wr w5 : World} {base : Nat} {root y : Lx} {gp : Nat} {v v5 : Value} {st : List (Lx × List Int)} {P : List St} {xs css : List Value} {D : List (Option Nat)} {A : Option Addr} {c : Nat}
    (hv : wr.ownsRow base 68 2 v st.length xs) (hV : VisVs wr base st xs D) (hB : Blk wr gp 28 #[.slice A P.length c]) (hS : wr.ownsRow base 25 5 (.slice A P.length c) P.length css)
    (hT : StVs wr (stF wr base D) P css) (hL : LxAt wr (fun i => i < base) root) (hgp : base ≤ gp) (hbs : base ≤ wr.heap.size) (hG : wr.grownBy w5 v.ownBlock)
    (hv5 : w5.ownsRow base 68 2 v5 (st.length + 1) (xs ++ [.pointer (some y.ad), .slice none 0 0])) : PoS w5 base root gp v5 ((y, []) :: st) P := by
  have hk : ∀ i t cur, 68 ≠ t → Blk wr i t cur → w5.heap[i]? = wr.heap[i]? := fun i t cur ht hb => hG.block i hb.lt (fun e => own_blk_ne hv hb ht e.symm)
  refine ⟨_, none :: D, A, c, css, hv5, ⟨xs, none, 0, D, rfl, rfl, (fun g h => by cases h), ⟨rfl, .inl ⟨rfl, rfl⟩⟩, hV.keep_int (fun i cur _ hb => hk i _ cur (by decide) hb)⟩,
    (hk gp _ _ (by decide) hB).trans hB, own_same hS (fun g hg => ?_), hT.keep_int (fun i cur _ hb => hk i _ cur (by decide) hb) hG.size (fun i _ h h' => ?_), ?_, hgp, Nat.le_trans hbs hG.size⟩
  · obtain ⟨_, cur, hc⟩ := own_lo hS hg
    exact hk g _ cur (by decide) hc
  · rcases List.mem_cons.1 h' with h' | h'
    · cases h'
    · exact h h'
  · exact LxAt.keep (F := fun i => i < base) (fun i hi hl => hG.block i hl (fun e => by have := (own_lo hv e.symm).1; omega)) (fun _ h _ => h) root hL
theorem stepC_v {w : World} {F : Nat → Prop} {x : Tx} {idx : List Int} {A : Option Addr} {c : Nat} (h : RdF w F 1 A idx.length (idx.map (Value.int .i64))) : StV w F (stepR x idx) (stepC x A c idx) := by
  unfold stepC
  split
  · rename_i hk
    have ha : (stepR x idx).args = [] := by
      unfold stepR
      rcases hk with hk | hk | hk
      · rw [if_pos hk]
      · rw [if_neg (by omega), if_pos hk]
      · rw [if_neg (by omega), if_neg (by omega), if_pos hk]
    exact ⟨none, 0, by rw [ha]; rfl, by rw [ha]; exact ⟨rfl, fun h => absurd h (by decide)⟩⟩
  · rename_i hk
    have ha : (stepR x idx).args = idx := by
      unfold stepR
      rw [if_neg (fun h => hk (.inl h)), if_neg (fun h => hk (.inr (.inl h))), if_neg (fun h => hk (.inr (.inr h)))]
    exact ⟨A, c, by rw [ha], by rw [ha]; exact h⟩
theorem stepC_len {x : Tx} {idx : List Int} {A : Option Addr} {c : Nat} : (stepC x A c idx).length = 5 := by
  unfold stepC; split <;> rfl
theorem done_keep {w2 wb w5 : World} {base m gp : Nat} {v u : Value} {css : List Value} {cs : Array Value} (hb : Below w2.heap.size w2 wb) (hg : wb.grownBy w5 v.ownBlock) (hS : w2.ownsRow base 25 5 v m css) (hP : Blk w2 gp 28 cs) (hbs : base ≤ w2.heap.size) (hgp : base ≤ gp) :
    (∀ i t cur, 25 ≠ t → 28 ≠ t → Blk w2 i t cur → (w5.setCell ⟨gp, 0, none⟩ u).heap[i]? = w2.heap[i]?) ∧ (∀ i, i < base → (w5.setCell ⟨gp, 0, none⟩ u).heap[i]? = w2.heap[i]?) ∧ w2.heap.size ≤ (w5.setCell ⟨gp, 0, none⟩ u).heap.size := by
  have hgg : w2.grownBy w5 v.ownBlock := (only_of_below hb _).trans hg
  refine ⟨fun i t cur h1 h2 hB => ?_, fun i hi => ?_, by simpa using hgg.size⟩
  · exact (Below.heap_setCell w5 ⟨gp, 0, none⟩ u i (Blk.ne_ hB hP (Ne.symm h2))).trans (hgg.block i hB.lt (fun e => own_blk_ne hS hB h1 e.symm))
  · exact (Below.heap_setCell w5 ⟨gp, 0, none⟩ u i (by show i ≠ gp; omega)).trans (hgg.block i (by omega) (fun e => by have := (own_lo hS e.symm).1; omega))
/-- A step is laid, and its visit is closed. -/
theorem PoS.done {wr w6 : World} {base : Nat} {root x : Lx} {idx : List Int} {gp g c : Nat} {st : List (Lx × List Int)} {P : List St} {xs css : List Value} {D : List (Option Nat)} {A Ai A5 : Option Addr} {ci c5 cs : Nat}
    (hv : wr.ownsRow base 68 2 (.slice (some ⟨g, 0, none⟩) (st.length + 1) c) (st.length + 1) (xs ++ [.pointer (some x.ad), .slice Ai idx.length ci])) (hV : VisVs wr base st xs D) (hD : ∀ g, (Value.slice Ai idx.length ci).ownBlock = some g → some g ∉ D)
    (hI : wr.ownsRow base 3 1 (.slice Ai idx.length ci) idx.length (idx.map (Value.int .i64)))
    (hS : wr.ownsRow base 25 5 (.slice A P.length cs) P.length css)
    (hT : StVs wr (stF wr base ((Value.slice Ai idx.length ci).ownBlock :: D)) P css) (hL : LxAt wr (fun i => i < base) root) (hgp : base ≤ gp) (hbs : base ≤ wr.heap.size)
    (hk : ∀ i t cur, 25 ≠ t → 28 ≠ t → Blk wr i t cur → w6.heap[i]? = wr.heap[i]?) (hlo : ∀ i, i < base → w6.heap[i]? = wr.heap[i]?) (hs : wr.heap.size ≤ w6.heap.size)
    (hB : Blk w6 gp 28 #[.slice A5 (P.length + 1) c5])
    (hS5 : w6.ownsRow base 25 5 (.slice A5 (P.length + 1) c5) (P.length + 1) (css ++ stepC x.er Ai ci idx)) : PoS w6 base root gp (.slice (some ⟨g, 0, none⟩) st.length c) st (P ++ [stepR x.er idx]) := by
  have hcut := own_cut hv st.length (by omega) (by omega)
  have hlen := hV.len
  rw [List.take_append_of_le_length (by omega), List.take_of_length_le (by omega)] at hcut
  refine ⟨xs, D, A5, c5, css ++ stepC x.er Ai ci idx, own_same hcut (fun g hg => ?_), hV.keep_int (fun i cur _ hb => hk i _ cur (by decide) (by decide) hb), by rw [List.length_append]; exact hB, by rw [List.length_append]; exact hS5, ?_, ?_, hgp, by omega⟩
  · obtain ⟨_, cur, hc⟩ := own_lo hcut hg
    exact hk g _ cur (by decide) (by decide) hc
  · refine StVs.append (hT.keep_int (fun i cur _ hb => hk i _ cur (by decide) (by decide) hb) hs (fun i _ h h' => h (List.mem_cons_of_mem _ h'))) (StVs.one (stepC_v ?_))
    refine ⟨hI.1, fun hn => ?_⟩
    obtain ⟨gi, c', hvi, _, hbg, hgl, hc⟩ := own_at hI hn
    injection hvi with hA
    subst hA
    obtain ⟨_, cur, hb⟩ := own_lo hI (g := gi) rfl
    have he := hk gi _ cur (by decide) (by decide) hb
    exact ⟨gi, 0, rfl, ⟨hbg, by omega, hD gi rfl, cur, he.trans hb⟩, by omega, fun j u hj => by rw [Nat.zero_add]; exact (World.cell?_of_block he).trans (hc j u hj)⟩
  · exact LxAt.keep (F := fun i => i < base) (fun i hi hl => hlo i hi) (fun _ h _ => h) root hL
/-- The index of a step is written into the visit above. -/
theorem PoS.above {wr w6 : World} {base : Nat} {root y : Lx} {jdx : List Int} {r : Int} {gp : Nat} {v Vi : Value} {st : List (Lx × List Int)} {P : List St} {xs css : List Value} {D : List (Option Nat)} {A Aj : Option Addr} {cj cs : Nat}
    (hV : VisVs wr base st xs D) (hD : ∀ g, (Value.slice Aj jdx.length cj).ownBlock = some g → some g ∉ D) (hB : Blk wr gp 28 #[.slice A P.length cs])
    (hS : wr.ownsRow base 25 5 (.slice A P.length cs) P.length css)
    (hT : StVs wr (stF wr base ((Value.slice Aj jdx.length cj).ownBlock :: D)) P css) (hL : LxAt wr (fun i => i < base) root) (hgp : base ≤ gp) (hbs : base ≤ wr.heap.size)
    (hk : ∀ i t cur, 68 ≠ t → (Value.slice Aj jdx.length cj).ownBlock ≠ some i → Blk wr i t cur → w6.heap[i]? = wr.heap[i]?) (hlo : ∀ i, i < base → w6.heap[i]? = wr.heap[i]?) (hs : wr.heap.size ≤ w6.heap.size)
    (hI : w6.ownsRow base 3 1 Vi (jdx.length + 1) (jdx.map (Value.int .i64) ++ [.int .i64 r])) (hIb : Vi.ownBlock = (Value.slice Aj jdx.length cj).ownBlock ∨ ∃ g, Vi.ownBlock = some g ∧ wr.heap.size ≤ g) (hIn : ∀ i t cur, 3 ≠ t → Blk wr i t cur → (Value.slice Aj jdx.length cj).ownBlock ≠ some i)
    (hv : w6.ownsRow base 68 2 v (st.length + 1) (xs ++ [.pointer (some y.ad), Vi])) : PoS w6 base root gp v ((y, jdx ++ [r]) :: st) P := by
  obtain ⟨A', c', rfl⟩ := own_form hI
  refine ⟨_, (Value.slice A' (jdx.length + 1) c').ownBlock :: D, A, cs, css, hv, ⟨xs, A', c', D, by simp, by simp [Value.ownBlock], fun g hg => ?_, by simpa using hI, hV.keep_int (fun i cur hi hb => hk i _ cur (by decide) (fun e => hD i e hi) hb)⟩,
    (hk gp _ _ (by decide) (hIn gp _ _ (by decide) hB) hB).trans hB, own_same hS (fun g hg => ?_), hT.keep_int (fun i cur hi hb => hk i _ cur (by decide) (fun e => hi (by rw [e]; exact List.mem_cons_self ..)) hb) hs (fun i hl h h' => ?_), ?_, hgp, by omega⟩
  · have hg : (Value.slice A' (jdx.length + 1) c').ownBlock = some g := by simpa [Value.ownBlock] using hg
    rcases hIb with h | ⟨g', h, hg'⟩
    · exact hD g (h.symm.trans hg)
    · intro hm
      rw [h] at hg
      injection hg with hg
      obtain ⟨_, cur, hb⟩ := hV.blk g hm
      have := hb.lt
      omega
  · obtain ⟨_, cur, hc⟩ := own_lo hS hg
    exact hk g _ cur (by decide) (hIn g _ _ (by decide) hc) hc
  · rcases List.mem_cons.1 h' with h' | h'
    · rcases hIb with h2 | ⟨g', h2, hg'⟩
      · exact h (by rw [h', h2]; exact List.mem_cons_self ..)
      · rw [h2] at h'
        injection h' with h'
        omega
    · exact h (List.mem_cons_of_mem _ h')
  · exact LxAt.keep (F := fun i => i < base) (fun i hi hl => hlo i hi) (fun _ h _ => h) root hL
end Go.Proofs.Ytniefnjcimempaa
