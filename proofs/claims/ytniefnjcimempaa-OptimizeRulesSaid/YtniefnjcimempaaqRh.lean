/- types.node.skip. take, said of the block in which the node lies. -/
import Derived.Test.YtniefnjcimempaaqTake
import Derived.Test.YtniefnjcimempaaqRg
import Derived.Deep.LoopGhost
namespace Go.Proofs.Ytniefnjcimempaa
open Go.RowKit
/-- How far skip comes; or the error. -/
def skipR (S : List Int) (l : List Lx) : Nat → Nat → Except Value Nat
  | 0, ck => .ok ck
  | f + 1, ck => if S[ck]? = some 0 then (match l[ck]? with
      | none => .ok ck
      | some y => if y.kind = 2 then (if (parseR y.text).isSome = true then skipR S l f (ck + 1) else .error (parseE y.text)) else .error (.iface 37 (.int .i64 12)))
    else .ok ck
theorem parseE_some {T : List UInt8} (h : (parseR T).isSome = true) : parseE T = .nilIface := by
  unfold parseR at h
  unfold parseE
  by_cases hb : bigT T = true
  · rw [if_pos hb] at h; cases h
  · rw [if_neg hb] at h ⊢
    cases hr : parseP T with
    | none => rw [hr] at h; cases h
    | some r =>
      rw [hr] at h
      dsimp only at h ⊢
      by_cases hf : r.fits = true
      · exact if_pos hf
      · rw [if_neg hf] at h; cases h
theorem parseE_none {T : List UInt8} (h : ¬ (parseR T).isSome = true) : parseE T = formE ∨ parseE T = largeE := by
  unfold parseR at h
  unfold parseE
  by_cases hb : bigT T = true
  · rw [if_pos hb]; exact .inr rfl
  · rw [if_neg hb] at h ⊢
    cases hr : parseP T with
    | none => exact .inl rfl
    | some r =>
      rw [hr] at h
      dsimp only at h ⊢
      by_cases hf : r.fits = true
      · rw [if_pos hf] at h; exact absurd rfl h
      · exact .inr (if_neg hf)
theorem TreeOr.form {w w' : World} {r : Option Rx} {cs : List Value} (h : TreeOr w w' r cs) : ∃ (kd : Int) (a0 a1 a2 a3 lo hi : Int) (A : Option Addr) (n c : Nat), cs = [.int .i64 kd, .int .u64 a0, .int .u64 a1, .int .u64 a2, .int .u64 a3, .int .i64 lo, .int .i64 hi, .slice A n c] := by
  cases r with
  | none => exact ⟨_, _, _, _, _, _, _, _, _, _, h⟩
  | some r =>
    obtain ⟨h, _⟩ := h
    cases r
    unfold RxV at h
    obtain ⟨A, c, css, rfl, _⟩ := h
    exact ⟨_, _, _, _, _, _, _, _, _, _, rfl⟩
def SkipEnd (w : World) (g o : Nat) (T : TypeId) (cs : Array Value) (R : Except Value Nat) (e : Ending) (w' : World) : Prop := w.grownBy w' (some g) ∧ match R with
  | .ok ck => e = .returned .nilIface ∧ Blk w' g T (cs.setIfInBounds (o + 2) (.int .i64 ck))
  | .error v => e = .returned v
theorem sk_ok {w w' : World} {g o ck : Nat} {T : TypeId} {cs : Array Value} {R : Except Value Nat} (hR : .ok ck = R) (hg : w.grownBy w' (some g)) (hB : Blk w' g T (cs.setIfInBounds (o + 2) (.int .i64 ck))) : SkipEnd w g o T cs R (.returned .nilIface) w' := by subst hR; exact ⟨hg, rfl, hB⟩
theorem sk_no {w w' : World} {g o : Nat} {T : TypeId} {cs : Array Value} {R : Except Value Nat} {v : Value} (hR : .error v = R) (hg : w.grownBy w' (some g)) : SkipEnd w g o T cs R (.returned v) w' := by subst hR; exact ⟨hg, rfl⟩
theorem sk_trans {a b c : World} {g : Nat} (h : a.grownBy b (some g)) (k : b.grownBy c (some g)) : a.grownBy c (some g) :=
  ⟨k.os.trans h.os, k.tape.trans h.tape, k.output.trans h.output, Nat.le_trans h.size k.size, fun i hi hne => (k.block i (Nat.lt_of_lt_of_le hi h.size) hne).trans (h.block i hi hne)⟩
def SkipRel (w : World) (g o : Nat) (T : TypeId) (cs : Array Value) (S : List Int) (l : List Lx) (R : Except Value Nat) (f : Nat) (wr : World) : Prop :=
  ∃ ck : Nat, ck ≤ S.length ∧ S.length - ck < f ∧ Hid (skipR S l f ck = R) ∧ Hid (Blk wr g T (cs.setIfInBounds (o + 2) (.int .i64 ck))) ∧ Hid (w.grownBy wr (some g))
set_option maxHeartbeats 4000000 in
set_option maxRecDepth 100000 in
theorem skip_any (F : Nat → Prop) (g o c ck0 a q : Nat) (T : TypeId) (cs : Array Value) (x : Lx) (S : List Int) (w : World) (hB : Blk w g T cs)
    (e0 : cs[o]? = some (.pointer (some x.ad))) (e1 : cs[o + 1]? = some (.slice (some ⟨a, q, none⟩) S.length c)) (e2 : cs[o + 2]? = some (.int .i64 ck0)) (hx : LxAt w F x) (hF : ∀ i, F i → i ≠ g)
    (hS : ∀ (j : Nat) (v : Int), S[j]? = some v → w.cell? ⟨a, q + j, none⟩ = some (.int .i64 v)) (hag : a ≠ g) (hal : a < w.heap.size) (hlen : S.length = x.args.length) (hn : S.length ≤ 100) (hck : ck0 ≤ S.length)
    (ht : ∀ y ∈ x.args, y.text.length ≤ 9223372036854775807) :
    Calls Try.prog 69 #[.pointer (some ⟨g, o, none⟩)] w (SkipEnd w g o T cs (skipR S x.args (S.length + 1) ck0)) := by
  obtain ⟨R, hR⟩ : ∃ R, R = skipR S x.args (S.length + 1) ck0 := ⟨_, rfl⟩
  rw [← hR]
  have HR := Lib.hid hR.symm
  have HB := Lib.hid hB
  have HX := Lib.hid hx
  have HS := Lib.hid hS
  have HF := Lib.hid hF
  have HT := Lib.hid ht
  have HL := Lib.hid hlen
  have HE := Lib.hid (And.intro e0 (And.intro e1 e2))
  have hl0 := Blk.lt hB
  clear hR hB hx hS hF ht hlen e0 e1
  go_enter Try.func69, Try.ntmps69
  go_wp2_with fail
  go_loopg [] (S.length + 1) (fun f wr => SkipRel w g o T cs S x.args R f wr)
  case atStart =>
    refine ⟨ck0, hck, by omega, HR, Lib.hid ?_, Lib.hid (World.grownBy.refl _ _)⟩
    have : cs.setIfInBounds (o + 2) (.int .i64 ck0) = cs := by
      apply Array.ext_getElem?
      intro i
      rw [Array.getElem?_setIfInBounds]
      split
      · rename_i h; subst h; rw [e2]; split
        · rfl
        · rename_i h; rw [Array.getElem?_eq_none (by omega)] at e2; cases e2
      · rfl
    rw [this]
    exact HB.out
  case round =>
    clear HR e2 hck
    obtain ⟨ck, h1, h2, hP, HBr, HG⟩ := hrel
    obtain ⟨f, rfl⟩ : ∃ f, gk = f + 1 := ⟨gk - 1, by omega⟩
    obtain ⟨e0, e1, e2⟩ := HE.out
    have hsz : o + 2 < cs.size := by
      rcases Nat.lt_or_ge (o + 2) cs.size with h | h
      · exact h
      · rw [Array.getElem?_eq_none h] at e2; cases e2
    have c0 : wr.cell? ⟨g, o, none⟩ = some (.pointer (some x.ad)) := by rw [HBr.out.cell, Array.getElem?_setIfInBounds_ne (by omega)]; exact e0
    have c1 : wr.cell? ⟨g, o + 1, none⟩ = some (.slice (some ⟨a, q, none⟩) S.length c) := by rw [HBr.out.cell, Array.getElem?_setIfInBounds_ne (by omega)]; exact e1
    have c2 : wr.cell? ⟨g, o + 2, none⟩ = some (.int .i64 ck) := by rw [HBr.out.cell, Array.getElem?_setIfInBounds_self_of_lt hsz]
    have f2 := HBr.out.frozen (o + 2)
    clear e0 e1 e2
    have HXr : Hid (LxAt wr F x) := Lib.hid (LxAt.keep (fun i hi hl => HG.out.block i hl (fun e => by injection e with e; exact HF.out i hi e)) (fun _ h _ => h) x HX.out)
    have hw1 : IntKind.i64.wrap ((ck : Int) + 1) = ((ck + 1 : Nat) : Int) := IntWalk.i64_in _ (by omega)
    rw [skipR] at hP
    rcases hs : S[ck]? with _ | s
    · have t1 : decide ((ck : Int) < (S.length : Int)) = false := by have := List.getElem?_eq_none_iff.1 hs; simp; omega
      have t1' : decide (ck < S.length) = false := by have := List.getElem?_eq_none_iff.1 hs; simp; omega
      rw [hs, if_neg (by simp)] at hP
      clear hs
      go_wp2_with fail
      go_quiet (fail)
      go_wp2_with fail
      go_ret
      exact sk_ok hP.out (only_drewN HG.out _) (Blk.drewN HBr.out _)
    · have hlt : ck < S.length := (List.getElem?_eq_some_iff.1 hs).1
      have t1 : decide ((ck : Int) < (S.length : Int)) = true := by simp; omega
      have t1' : decide (ck < S.length) = true := by simp; omega
      have cs1 : wr.cell? ⟨a, q + ck, none⟩ = some (.int .i64 s) := by rw [← HS.out ck s hs]; exact World.cell?_of_block (HG.out.block a hal (fun e => by injection e with e; exact hag e))
      by_cases h0 : s = 0
      · have t2 : (s == 0) = true := by simp [h0]
        obtain ⟨y, hy⟩ : ∃ y, x.args[ck]? = some y := ⟨x.args[ck]'(by have := HL.out; omega), List.getElem?_eq_getElem _⟩
        rw [hs, if_pos (by rw [h0]), hy] at hP
        have hym := HT.out y (List.mem_of_getElem? hy)
        subst h0
        clear hs
        obtain ⟨b, p, A', c', had, hFb, hbl, d0, d1, d2, d3, hXA⟩ := HXr.out.cells
        obtain ⟨⟨b2, o2, hA, hyad⟩, hyat⟩ := hXA.get ck y hy
        subst hA
        obtain ⟨b3, p3, A3, c3, hyd, _, hb3, k0, k1, _⟩ := hyat.cells
        rw [hyd] at hyad
        injection hyad with q1 q2 _
        subst q1 q2
        rw [Nat.zero_add] at k0 k1
        rw [had] at c0
        rw [← HL.out] at d3
        clear hXA hyat hyd had hy d0 d1 d2
        by_cases hk : y.kind = 2
        · dsimp only at hP
          rw [if_pos hk] at hP
          rw [hk] at k0
          go_wp2_with fail
          go_quiet (fail)
          go_wp2_with fail
          go_quiet (fail)
          go_wp2_with fail
          refine (parse_any y.text _ hym).mono ?_
          rintro e w4 ⟨⟨cs4, rfl, ht4⟩, hb4⟩
          obtain ⟨kd, a0, a1, a2, a3, lo, hi, A4, n4, c4, rfl⟩ := ht4.form
          have hgl : g < wr.heap.size := Blk.lt HBr.out
          have hg4 : w.grownBy w4 (some g) := sk_trans HG.out ⟨hb4.os, hb4.tape, hb4.output, hb4.size, fun i hi _ => hb4.block i hi⟩
          have hB4 : Blk w4 g T (cs.setIfInBounds (o + 2) (.int .i64 ck)) := (hb4.block g hgl).trans HBr.out
          have hgl4 : g < w4.heap.size := Nat.lt_of_lt_of_le hgl hb4.size
          have hR4 := R8.mk0 w4 w4.heap.size rfl
          obtain ⟨⟨⟨r0, r1⟩, r2, r3⟩, ⟨r4, r5⟩, r6, r7⟩ := hR4.cells
          obtain ⟨⟨⟨s0, s1⟩, s2, s3⟩, ⟨s4, s5⟩, s6, s7⟩ := hR4.free
          have c2' : w4.cell? ⟨g, o + 2, none⟩ = some (.int .i64 ck) := by rw [hB4.cell, Array.getElem?_setIfInBounds_self_of_lt hsz]
          have f2' := hB4.frozen (o + 2)
          have hB5 := Blk.alloc (Blk.set_ hB4 (o + 2) (.int .i64 ((ck : Int) + 1))) (.cells #[.int .i64 kd, .int .u64 a0, .int .u64 a1, .int .u64 a2, .int .u64 a3, .int .i64 lo, .int .i64 hi, .slice A4 n4 c4] 108)
          rw [Array.setIfInBounds_setIfInBounds] at hB5
          have HB5 := Lib.hid hB5
          have HG4 := Lib.hid hg4
          clear hR4 hB5 hB4 hg4 ht4 hb4 c0 c1 c2 f2 d3 k0 k1 cs1
          by_cases hp : (parseR y.text).isSome = true
          · rw [if_pos hp] at hP
            rw [parseE_some hp]
            clear hp
            go_wp2_with fail
            go_roundg f
            case measure => omega
            case rel => exact ⟨ck + 1, by omega, by omega, hP, Lib.hid HB5.out, Lib.hid (only_alloc (only_setCell HG4.out (.inl rfl) _) _)⟩
          · rw [if_neg hp] at hP
            rcases parseE_none hp with he | he <;> rw [he] at hP <;> rw [he] <;> clear he hp
            · unfold formE at *
              go_wp2_with fail
              go_ret
              exact sk_no hP.out (only_alloc HG4.out _)
            · unfold largeE at *
              go_wp2_with fail
              go_ret
              exact sk_no hP.out (only_alloc HG4.out _)
        · dsimp only at hP
          rw [if_neg hk] at hP
          have t3 : (y.kind == 2) = false := by simp [hk]
          go_wp2_with fail
          go_quiet (fail)
          go_wp2_with fail
          go_quiet (fail)
          go_wp2_with fail
          go_ret
          exact sk_no hP.out (only_drewN HG.out _)
      · have t2 : (s == 0) = false := by simp [h0]
        rw [hs, if_neg (by simpa using h0)] at hP
        clear hs h0
        go_wp2_with fail
        go_quiet (fail)
        go_wp2_with fail
        go_ret
        exact sk_ok hP.out (only_drewN HG.out _) (Blk.drewN HBr.out _)
end Go.Proofs.Ytniefnjcimempaa
namespace Go.Proofs.Ytniefnjcimempaa
open Go.RowKit
theorem set_same {cs : Array Value} {i : Nat} {v : Value} (h : cs[i]? = some v) : cs.setIfInBounds i v = cs := by
  apply Array.ext_getElem?
  intro j
  rw [Array.getElem?_setIfInBounds]
  split
  · rename_i e; subst e; rw [h]; split
    · rfl
    · rename_i hh; rw [Array.getElem?_eq_none (by omega)] at h; cases h
  · rfl
def TakeB (w : World) (g o ck : Nat) (T : TypeId) (cs : Array Value) (r : Option Int) (e : Ending) (w' : World) : Prop := w.grownBy w' (some g) ∧ match r with
  | none => e = .returned (.iface 37 (.int .i64 12))
  | some f => e = .returned .nilIface ∧ Blk w' g T ((cs.setIfInBounds (o + 3) (.int .i64 f)).setIfInBounds (o + 2) (.int .i64 (ck + 1 : Nat)))
theorem take_blk (F : Nat → Prop) (g o c ck a q : Nat) (T : TypeId) (cs : Array Value) (x : Lx) (S : List Int) (fs t want : Int) (w : World) (hB : Blk w g T cs)
    (e0 : cs[o]? = some (.pointer (some x.ad))) (e1 : cs[o + 1]? = some (.slice (some ⟨a, q, none⟩) S.length c)) (e2 : cs[o + 2]? = some (.int .i64 ck)) (e3 : cs[o + 3]? = some (.int .i64 fs)) (hx : LxAt w F x)
    (hS : ∀ (j : Nat) (v : Int), S[j]? = some v → w.cell? ⟨a, q + j, none⟩ = some (.int .i64 v)) (hw : S[ck]? = some want) (hn : S.length ≤ 100) :
    Calls Try.prog 68 #[.pointer (some ⟨g, o, none⟩), .int .i64 t] w (TakeB w g o ck T cs (takeR x.text want ck fs t)) := by
  obtain ⟨b, p, A', c', had, _, _, _, d1, _⟩ := hx.cells
  rw [had] at e0
  have hlt : ck < S.length := (List.getElem?_eq_some_iff.1 hw).1
  refine (take_any g o ck S.length c b p a q x.text fs t want w (by rw [hB.cell]; exact e0) (by rw [hB.cell]; exact e1) (by rw [hB.cell]; exact e2) (by rw [hB.cell]; exact e3) (hB.frozen _) (hB.frozen _) d1 (hS ck want hw) hlt hn).mono ?_
  intro e w' he
  unfold TakeEnd at he
  unfold TakeB
  cases hr : takeR x.text want ck fs t with
  | none => rw [hr] at he; exact ⟨he.2, he.1⟩
  | some f =>
    rw [hr] at he
    obtain ⟨h1, k, h2⟩ := he
    rcases h2 with h2 | ⟨hf, h2⟩
    · subst h2
      exact ⟨only_setCell (tk_g1 _ _ _ _ _) (.inl rfl) _, h1, Blk.set_ (Blk.set_ (Blk.drewN hB k) (o + 3) _) (o + 2) _⟩
    · subst h2 hf
      refine ⟨tk_g1 _ _ _ _ _, h1, ?_⟩
      rw [set_same e3]
      exact Blk.set_ (Blk.drewN hB k) (o + 2) _
end Go.Proofs.Ytniefnjcimempaa
