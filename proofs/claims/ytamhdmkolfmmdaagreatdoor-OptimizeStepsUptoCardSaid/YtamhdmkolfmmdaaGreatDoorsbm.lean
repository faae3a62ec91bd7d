/- optimize's newEditor with its own rows; count; first, for rules with a contract. The walks of optimize's apply and of a round of all rules at a plan without an error (printed by gen_oyf.py). -/
import Derived.Test.YtamhdmkolfmmdaaGreatDoorsbj
import Derived.Test.YtamhdmkolfmmdaaGreatDoorsaz
import Derived.Test.YtamhdmkolfmmdaaGreatDoorsbk
import Derived.Test.YtamhdmkolfmmdaaGreatDoorsay
import Derived.Test.YtamhdmkolfmmdaaGreatDoorsbl
import Derived.Test.YtamhdmkolfmmdaaGreatDoorsaa
set_option linter.unusedVariables false
set_option linter.unusedSimpArgs false
namespace Go.Proofs.YtamhdmkolfmmdaaGreatDoor
open Go.RowKit
set_option maxRecDepth 100000
set_option maxHeartbeats 8000000
structure EdK (w : World) (base gs k : Nat) (l : List St) (vs : List Value) : Prop where
 len : vs.length = k
 cell : ∀ (i : Nat) (v : Value), vs[i]? = some v → w.cell? ⟨gs, i * 5 + 1, none⟩ = some v
 own : ∀ (i : Nat) (s : St) (v : Value), l[i]? = some s → vs[i]? = some v → w.ownsRow base 3 1 v s.args.length (s.args.map (Value.int .i64))
 dis : ∀ (i j : Nat) (v v' : Value), i ≠ j → vs[i]? = some v → vs[j]? = some v' → v.ownBlock = none ∨ v.ownBlock ≠ v'.ownBlock
theorem EdK.zero (w : World) (base gs : Nat) (l : List St) : EdK w base gs 0 l [] := ⟨rfl, (fun i v h => by cases h), (fun i s v _ h => by cases h), (fun i j v v' _ h _ => by cases h)⟩
theorem EdK.step {w w1 : World} {base g gs cap k : Nat} {l : List St} {vs : List Value} {V : Value} {s : St} (he : EdAt w g gs cap l V) (h : EdK w base gs k l vs) (hk : k < l.length) (hs : l[k]? = some s) (hB : base ≤ w.heap.size) (hb : Below w.heap.size w w1) (A' : Option Addr) (c' : Nat) (ho : w1.ownsRow w.heap.size 3 1 (.slice A' s.args.length c') s.args.length (s.args.map (Value.int .i64))) :
  EdK (w1.setCell ⟨gs, k * 5 + 1, none⟩ (.slice A' s.args.length c')) base gs (k + 1) l (vs ++ [.slice A' s.args.length c']) := by
 have hgsl := he.gs_lt
 obtain ⟨cs, e1, e2, e3⟩ := (he.below hb).blk
 have hle := he.le
 have hS := e1.set_ (k * 5 + 1) (.slice A' s.args.length c')
 have hkeep : ∀ b, b ≠ gs → (w1.setCell ⟨gs, k * 5 + 1, none⟩ (.slice A' s.args.length c')).heap[b]? = w1.heap[b]? := fun b hbn => Below.heap_setCell w1 ⟨gs, k * 5 + 1, none⟩ _ b hbn
 have hget : ∀ i v, (vs ++ [.slice A' s.args.length c'])[i]? = some v → (i < k ∧ vs[i]? = some v) ∨ (i = k ∧ v = .slice A' s.args.length c') := fun i v hv => by
  by_cases hik : i < k
  ·
   rw [List.getElem?_append_left (by rw [h.len]; exact hik)] at hv
   exact .inl ⟨hik, hv⟩
  ·
   rw [List.getElem?_append_right (by rw [h.len]; omega), h.len] at hv
   have : i - k = 0 := by
    have := (gH hv).1
    simp at this
    omega
   rw [this, gB] at hv
   injection hv with hv
   exact .inr ⟨by omega, hv.symm⟩
 have hold : ∀ (i : Nat) (s : St) (v : Value), l[i]? = some s → vs[i]? = some v → ∀ q, v.ownBlock = some q → q < w.heap.size ∧ q ≠ gs := fun i s v hs hv q hq => by
  refine ⟨kbO (h.own i s v hs hv) q hq, fun e => ?_⟩
  obtain ⟨cs0, f1, _⟩ := he.blk
  exact kan (h.own i s v hs hv) f1 (by decide) (by rw [hq, e])
 refine ⟨by rw [List.length_append, h.len]; rfl, fun i v hv => ?_, fun i t v ht hv => ?_, fun i j v v' hij hv hv' => ?_⟩
 ·
  rw [hS.cell]
  rcases hget i v hv with ⟨hik, hv'⟩ | ⟨rfl, rfl⟩
  ·
   rw [Array.getElem?_setIfInBounds_ne (by omega), ← e1.cell, hb.cell (p := ⟨gs, i * 5 + 1, none⟩) hgsl]
   exact h.cell i v hv'
  ·
   rw [Array.getElem?_setIfInBounds_self_of_lt (by omega)]
 ·
  rcases hget i v hv with ⟨hik, hv'⟩ | ⟨rfl, rfl⟩
  ·
   refine kaA (kay (h.own i t v ht hv') hb) (fun b hbo => hkeep b (hold i t v ht hv' b hbo).2)
  ·
   obtain rfl : t = s := by rw [hs] at ht; injection ht with ht; exact ht.symm
   refine kaA (ho.mono hB) (fun b hbo => hkeep b (fun e => ?_))
   exact kan ho e1 (by decide) (by rw [hbo, e])
 ·
  have hnew : ∀ (i : Nat) (v : Value), i < k → vs[i]? = some v → v.ownBlock = none ∨ v.ownBlock ≠ (Value.slice A' s.args.length c').ownBlock := fun i v hik hv => by
   cases hvo : v.ownBlock with
   | none => exact .inl rfl
   | some q =>
    refine .inr (fun e => ?_)
    obtain ⟨t, ht⟩ : ∃ t, l[i]? = some t := ⟨_, List.getElem?_eq_getElem (by omega)⟩
    have h1 := (hold i t v ht hv q hvo).1
    have h2 := kaq ho e.symm
    omega
  rcases hget i v hv with ⟨hik, h1⟩ | ⟨rfl, rfl⟩
  ·
   rcases hget j v' hv' with ⟨hjk, h2⟩ | ⟨rfl, rfl⟩
   ·
    exact h.dis i j v v' hij h1 h2
   ·
    exact hnew i v hik h1
  ·
   rcases hget j v' hv' with ⟨hjk, h2⟩ | ⟨h3, _⟩
   ·
    rcases hnew j v' hjk h2 with h0 | h0
    ·
     cases hvo : (Value.slice A' s.args.length c').ownBlock with
     | none => exact .inl rfl
     | some q => exact .inr (by rw [h0]; intro e; cases e)
    ·
     exact .inr (fun e => h0 e.symm)
   ·
    omega
theorem EdK.edX {w : World} {base g gs cap : Nat} {l : List St} {vs : List Value} {V : Value} (he : EdAt w g gs cap l V) (h : EdK w base gs l.length l vs) (hg : base ≤ g) (hgs : base ≤ gs) : EdX w base g gs cap l vs V :=
 ⟨he.ed, he.blk, h.len, fun i s v hs hv => by
  obtain ⟨As, c, x0, x1, x2, x3, x4, _⟩ := he.st i s hs
  have := h.cell i v hv
  rw [x1] at this
  exact ⟨x0, x1.trans this, x2, x3, x4⟩, h.own, h.dis, he.le, he.cap, hg, hgs⟩
theorem kjL (base g gs cap : Nat) (l : List St) (vs : List Value) (V : Value) (w : World) (h : EdX w base g gs cap l vs V) (hr : ∀ s ∈ l, s.args.length ≤ 3 ∧ ∀ a ∈ s.args, 0 ≤ a ∧ a < (l.length : Int)) :
  Calls Tryz.prog 41 #[.pointer (some ⟨g, 0, none⟩)] w fun e w' => e = .returned (.tuple #[]) ∧ ∃ gu, EdX w' base g gs cap l vs (.slice (some ⟨gu, 0, none⟩) l.length l.length) ∧ Blk w' gu 3 (uarr (kag l)) ∧ FrX base w w' := by
 refine (keP g gs cap l V w h.edAt hr).mono ?_
 rintro e w' ⟨rfl, he, hu, hg⟩
 have hgs : w'.heap[gs]? = w.heap[gs]? := hg.block gs h.gs_lt (fun e => h.ne (by injection e with e; exact e.symm))
 refine ⟨rfl, w.heap.size, ⟨he.ed, he.blk, h.len, fun i s v hs hv => (h.cells i s v hs hv).same hgs, fun i s v hs hv => ?_, h.dis, h.le, h.cap, h.hg, h.hgs⟩, hu, FrX.grown hg h.base_le h.hg h.ed (by decide)⟩
 refine kaA (h.own i s v hs hv) (fun b hb => hg.block b (kbO (h.own i s v hs hv) b hb) (fun e => ?_))
 injection e with e
 exact (h.apart hs hv hb).1 e
def NxRel (w : World) (g gs cap : Nat) (l : List St) (f : Nat) (i : Value) (wr : World) : Prop := ∃ (k : Nat) (vs : List Value), i = .int .i64 k ∧ k ≤ l.length ∧ l.length - k < f ∧ Hid (EdAt wr g gs cap l (.slice none 0 0)) ∧ Hid (EdK wr w.heap.size gs k l vs) ∧ Hid (Below w.heap.size w wr)
theorem kfe (A : Option Addr) (c : Nat) (l : List St) (w : World) (hp : PlAt w (fun i => i < w.heap.size) A l) (hl : 0 < l.length) (hn : l.length ≤ 100000) (hr : ∀ s ∈ l, s.args.length ≤ 3 ∧ ∀ a ∈ s.args, 0 ≤ a ∧ a < (l.length : Int)) :
  Calls Tryz.prog 37 #[.agg #[.slice A l.length c]] w fun e w' => ∃ g gs cap gu vs, e = .returned (.pointer (some ⟨g, 0, none⟩)) ∧ EdX w' w.heap.size g gs cap l vs (.slice (some ⟨gu, 0, none⟩) l.length l.length) ∧ Blk w' gu 3 (uarr (kag l)) ∧ Below w.heap.size w w' := by
 have t78q0 := True.intro
 exact y19
theorem kdV (f : Nat → Option (List St)) : ∀ n : Nat, ∃ k, k ≤ n ∧ (∀ j, j < k → f j = none) ∧ (k = n ∨ ∃ l', k < n ∧ f k = some l')
 | 0 => ⟨0, by omega, fun j hj => by omega, .inl rfl⟩
 | n + 1 => by
  obtain ⟨k, hk, h0, h1⟩ := kdV f n
  rcases h1 with rfl | ⟨l', hkn, hl'⟩
  ·
   cases hf : f k with
   | none => exact ⟨k + 1, by omega, fun j hj => by
     by_cases e : j = k
     ·
      rw [e]; exact hf
     ·
      exact h0 j (by omega), .inl rfl⟩
   | some l' => exact ⟨k, by omega, h0, .inr ⟨l', by omega, hf⟩⟩
  ·
   exact ⟨k, by omega, h0, .inr ⟨l', by omega, hl'⟩⟩
theorem kbJ (F base g gs gu cap : Nat) (l : List St) (vs : List Value) (fR : List St → Nat → Option (List St)) (w : World) (h : EdX w base g gs cap l vs (.slice (some ⟨gu, 0, none⟩) l.length l.length)) (hu : Blk w gu 3 (uarr (kag l)))
  (hcf : ∀ (x : Value) (w : World), (callFunc F #[.pointer (some ⟨g, 0, none⟩), x]).run Tryz.prog w = .ok (.enter F #[.pointer (some ⟨g, 0, none⟩), x]) w)
  (hF : ∀ (i : Nat) (s : St) (w : World), EdX w base g gs cap l vs (.slice (some ⟨gu, 0, none⟩) l.length l.length) → Blk w gu 3 (uarr (kag l)) → l[i]? = some s → Calls Tryz.prog F #[.pointer (some ⟨g, 0, none⟩), .int .i64 i] w (kax base g (.slice (some ⟨gu, 0, none⟩) l.length l.length) (fR l i) w)) :
  Calls Tryz.prog 67 #[.pointer (some ⟨g, 0, none⟩), .func (.func F) #[.pointer (some ⟨g, 0, none⟩)] #[]] w (kax base g (.slice (some ⟨gu, 0, none⟩) l.length l.length) (Oz.firstOf fR l) w) := by
 obtain ⟨k, hk, h0, h1⟩ := kdV (fR l) l.length
 have hul := hu.lt
 have hbase := h.base_le
 refine (kc3 F g gs l.length cap k (fun w' => Below w.heap.size w w') (fun w' => ∃ l', fR l k = some l' ∧ (∃ gs' cap' vs', EdX w' base g gs' cap' l' vs' (.slice (some ⟨gu, 0, none⟩) l.length l.length)) ∧ FrX base w w') h.cap hk hcf (fun w' hb => ?_) (fun i w' hi hb => ?_) (fun w' hkn hb => ?_) w (Below.refl _ _)).mono ?_
 ·
  have := (h.below hb).ed.cell 0
  simpa using this
 ·
  obtain ⟨s, hs⟩ : ∃ s, l[i]? = some s := ⟨_, List.getElem?_eq_getElem (by omega)⟩
  refine (hF i s w' (h.below hb) (hu.below hb hul) hs).mono ?_
  intro e w2 he
  rw [h0 i hi] at he
  exact ⟨he.1, hb.trans (he.2.mono hb.size)⟩
 ·
  obtain ⟨s, hs⟩ : ∃ s, l[k]? = some s := ⟨_, List.getElem?_eq_getElem hkn⟩
  refine (hF k s w' (h.below hb) (hu.below hb hul) hs).mono ?_
  intro e w2 he
  rcases h1 with h1 | ⟨l', _, hl'⟩
  ·
   omega
  ·
   rw [hl'] at he
   exact ⟨he.1, l', hl', he.2.1, ((FrX.refl base w).below hb hbase).trans he.2.2⟩
 ·
  rintro e w' (⟨hkn, rfl, l', hl', he, hf⟩ | ⟨hkn, rfl, hb⟩)
  ·
   rw [keK hkn h0 hl']
   exact ⟨rfl, he, hf⟩
  ·
   rw [keL (fun j hj => h0 j (by omega))]
   exact ⟨rfl, hb⟩
theorem y36 {P : Prop} (h : P := by
 first
 | guard_hyp t199q0
   have HS := hD (kbJ 71 base g gs gu cap l vs Oz.commonR w h hu (fun x w => by kernel_rfl) (fun i s w h hu hs => (kkT base g gs cap i l vs _ s w h hs (fun hop => by rw [kae hc hs 2 (by rw [hop]; kernel_rfl)]; exact Nat.le_refl 2)).mono fun _ _ h => h.ru))
 | guard_hyp t199q1
   have _ := hu
   have HS := hD (klu base g gs cap l vs _ w h (kcc hc))
 | guard_hyp t199q2
   have HS := hD (kbJ 76 base g gs gu cap l vs Oz.lenRepR w h hu (fun x w => by kernel_rfl) (fun i s w h hu hs => kkE base g gs gu cap i l vs s w h hu hs hc))
 | guard_hyp t199q3
   have HS := hD (kbJ 75 base g gs gu cap l vs Oz.lenSumR w h hu (fun x w => by kernel_rfl) (fun i s w h hu hs => kkB base g gs gu cap i l vs s w h hu hs hc))
 | guard_hyp t199q4
   have HS := hD (kbJ 68 base g gs gu cap l vs Oz.foldR w h hu (fun x w => by kernel_rfl) (fun i s w h hu hs => (fold_any base g gs cap i l vs _ s w h hs hc).mono fun _ _ h => h.ru))
 | guard_hyp t199q5
   have HS := hD (kbJ 69 base g gs gu cap l vs Oz.neutralR w h hu (fun x w => by kernel_rfl) (fun i s w h hu hs => (kiU base g gs cap i l vs _ s w h hs hc).mono fun _ _ h => h.ru))
 | guard_hyp t199q6
   have HS := hD (kbJ 74 base g gs gu cap l vs Oz.lenCutR w h hu (fun x w => by kernel_rfl) (fun i s w h hu hs => (kkH base g gs gu cap i l vs s w h hu hs hc).mono fun _ _ h => h.ru))
 | guard_hyp t199q7
   have HS := hD (kbJ 70 base g gs gu cap l vs Oz.negateR w h hu (fun x w => by kernel_rfl) (fun i s w h hu hs => (kkv base g gs gu cap i l vs s w h hu hs hc).mono fun _ _ h => h.ru))
 | guard_hyp t199q8
   have HS := hD (kbJ 72 base g gs gu cap l vs Oz.matchesR w h hu (fun x w => by kernel_rfl) (fun i s w h hu hs => (ki3 base g gs gu cap i l vs s w h hu hs hc).mono fun _ _ h => h.ru))
 | guard_hyp t199q9
   have HS := hD (kbJ 77 base g gs gu cap l vs Oz.unusedR w h hu (fun x w => by kernel_rfl) (fun i s w h hu hs => (kjU base g gs gu cap i l vs s w h hu hs (kcc hc)).mono fun _ _ h => h.ru))
 | have HS := hD (kbJ 73 base g gs gu cap l vs Oz.firstFindR w h hu (fun x w => by kernel_rfl) (fun i s w h hu hs => (kha base g gs gu cap i l vs s w h hu hs hc).mono fun _ _ h => h.ru))
 have hmf : ∀ (fn : Fn) (first cap : Array Value) (w : World), (Instr.makeFunc fn first cap).run Tryz.prog w = .ok (.func fn first cap) w := fun _ _ _ _ => rfl
 first
 | guard_hyp t199q0
   obtain ⟨r, hr⟩ := xE (Oz.applyR 4 l)
   have hr' : r = Oz.firstOf Oz.commonR l := hr
 | guard_hyp t199q1
   obtain ⟨r, hr⟩ := xE (Oz.applyR 0 l)
   have hr' : r = Oz.firstOf Oz.shareAt l := hr
 | guard_hyp t199q2
   obtain ⟨r, hr⟩ := xE (Oz.applyR 9 l)
   have hr' : r = Oz.firstOf Oz.lenRepR l := hr
 | guard_hyp t199q3
   obtain ⟨r, hr⟩ := xE (Oz.applyR 8 l)
   have hr' : r = Oz.firstOf Oz.lenSumR l := hr
 | guard_hyp t199q4
   obtain ⟨r, hr⟩ := xE (Oz.applyR 1 l)
   have hr' : r = Oz.firstOf Oz.foldR l := hr
 | guard_hyp t199q5
   obtain ⟨r, hr⟩ := xE (Oz.applyR 2 l)
   have hr' : r = Oz.firstOf Oz.neutralR l := hr
 | guard_hyp t199q6
   obtain ⟨r, hr⟩ := xE (Oz.applyR 7 l)
   have hr' : r = Oz.firstOf Oz.lenCutR l := hr
 | guard_hyp t199q7
   obtain ⟨r, hr⟩ := xE (Oz.applyR 3 l)
   have hr' : r = Oz.firstOf Oz.negateR l := hr
 | guard_hyp t199q8
   obtain ⟨r, hr⟩ := xE (Oz.applyR 5 l)
   have hr' : r = Oz.firstOf Oz.matchesR l := hr
 | guard_hyp t199q9
   obtain ⟨r, hr⟩ := xE (Oz.applyR 10 l)
   have hr' : r = Oz.firstOf Oz.unusedR l := hr
 | obtain ⟨r, hr⟩ := xE (Oz.applyR 6 l)
   have hr' : r = Oz.firstOf Oz.firstFindR l := hr
 rw [← hr'] at HS
 rw [← hr]
 clear h hu hc hr hr'
 go_enter Tryz.func40, Tryz.ntmps40
 go_wp2_with fail
 refine HS.out.mono ?_
 rintro e w1 ⟨rfl, h1⟩
 have H1 := hD h1
 obtain ⟨z, hz⟩ := xE r.isSome
 have HZ := hD hz
 rw [← hz]
 clear h1 HS hz
 go_wp2_with fail
 go_ret
 exact ⟨congrArg (fun z => Ending.returned (Value.bool z)) HZ.out, H1.out⟩) : P := h
theorem kjs {g : Nat → Option (List St)} {n : Nat} (h : ∀ k, k < n → g k = none) : (List.range n).findSome? g = none := by
 rw [List.findSome?_eq_none_iff]
 exact fun k hk => h k (List.mem_range.1 hk)
theorem kjr {g : Nat → Option (List St)} {l' : List St} {k : Nat} (h0 : ∀ j, j < k → g j = none) (h : g k = some l') : ∀ n, k < n → (List.range n).findSome? g = some l'
 | 0, hn => by omega
 | n + 1, hn => by
  rw [List.range_succ, List.findSome?_append]
  by_cases hkn : k < n
  ·
   rw [kjr h0 h n hkn]; rfl
  ·
   have hkn : k = n := by omega
   subst hkn
   rw [kjs h0]
   simp [h]
section
variable {base g gs gu cap : Nat} {l : List St} {vs : List Value} {w : World} (h : EdX w base g gs cap l vs (.slice (some ⟨gu, 0, none⟩) l.length l.length)) (hu : Blk w gu 3 (uarr (kag l))) (hc : kac l = 0)
include h hu hc in
theorem apply_x0 : Calls Tryz.prog 40 #[.pointer (some ⟨g, 0, none⟩), .string ⟨#[115, 104, 97, 114, 101]⟩] w (kax base g (.slice (some ⟨gu, 0, none⟩) l.length l.length) (Oz.applyR 0 l) w) := by
 have t199q1 := True.intro
 exact y36
include h hu hc in
theorem apply_x1 : Calls Tryz.prog 40 #[.pointer (some ⟨g, 0, none⟩), .string ⟨#[102, 111, 108, 100]⟩] w (kax base g (.slice (some ⟨gu, 0, none⟩) l.length l.length) (Oz.applyR 1 l) w) := by
 have t199q4 := True.intro
 exact y36
include h hu hc in
theorem apply_x2 : Calls Tryz.prog 40 #[.pointer (some ⟨g, 0, none⟩), .string ⟨#[110, 101, 117, 116, 114, 97, 108]⟩] w (kax base g (.slice (some ⟨gu, 0, none⟩) l.length l.length) (Oz.applyR 2 l) w) := by
 have t199q5 := True.intro
 exact y36
include h hu hc in
theorem apply_x3 : Calls Tryz.prog 40 #[.pointer (some ⟨g, 0, none⟩), .string ⟨#[110, 101, 103, 97, 116, 101]⟩] w (kax base g (.slice (some ⟨gu, 0, none⟩) l.length l.length) (Oz.applyR 3 l) w) := by
 have t199q7 := True.intro
 exact y36
include h hu hc in
theorem apply_x4 : Calls Tryz.prog 40 #[.pointer (some ⟨g, 0, none⟩), .string ⟨#[99, 111, 109, 109, 111, 110]⟩] w (kax base g (.slice (some ⟨gu, 0, none⟩) l.length l.length) (Oz.applyR 4 l) w) := by
 have t199q0 := True.intro
 exact y36
include h hu hc in
theorem apply_x5 : Calls Tryz.prog 40 #[.pointer (some ⟨g, 0, none⟩), .string ⟨#[109, 97, 116, 99, 104, 101, 115]⟩] w (kax base g (.slice (some ⟨gu, 0, none⟩) l.length l.length) (Oz.applyR 5 l) w) := by
 have t199q8 := True.intro
 exact y36
include h hu hc in
theorem apply_x6 : Calls Tryz.prog 40 #[.pointer (some ⟨g, 0, none⟩), .string ⟨#[102, 105, 114, 115, 116, 102, 105, 110, 100]⟩] w (kax base g (.slice (some ⟨gu, 0, none⟩) l.length l.length) (Oz.applyR 6 l) w) := by
 exact y36
include h hu hc in
theorem apply_x7 : Calls Tryz.prog 40 #[.pointer (some ⟨g, 0, none⟩), .string ⟨#[108, 101, 110, 99, 117, 116]⟩] w (kax base g (.slice (some ⟨gu, 0, none⟩) l.length l.length) (Oz.applyR 7 l) w) := by
 have t199q6 := True.intro
 exact y36
include h hu hc in
theorem apply_x8 : Calls Tryz.prog 40 #[.pointer (some ⟨g, 0, none⟩), .string ⟨#[108, 101, 110, 115, 117, 109]⟩] w (kax base g (.slice (some ⟨gu, 0, none⟩) l.length l.length) (Oz.applyR 8 l) w) := by
 have t199q3 := True.intro
 exact y36
include h hu hc in
theorem apply_x9 : Calls Tryz.prog 40 #[.pointer (some ⟨g, 0, none⟩), .string ⟨#[108, 101, 110, 114, 101, 112]⟩] w (kax base g (.slice (some ⟨gu, 0, none⟩) l.length l.length) (Oz.applyR 9 l) w) := by
 have t199q2 := True.intro
 exact y36
include h hu hc in
theorem kme : Calls Tryz.prog 40 #[.pointer (some ⟨g, 0, none⟩), .string ⟨#[117, 110, 117, 115, 101, 100]⟩] w (kax base g (.slice (some ⟨gu, 0, none⟩) l.length l.length) (Oz.applyR 10 l) w) := by
 have t199q9 := True.intro
 exact y36
include h hu hc in
theorem keU (k : Nat) (s : List UInt8) (hs : namesR[k]? = some s) : Calls Tryz.prog 40 #[.pointer (some ⟨g, 0, none⟩), .string ⟨s.toArray⟩] w (kax base g (.slice (some ⟨gu, 0, none⟩) l.length l.length) (Oz.applyR k l) w) := by
 have hk := (gH hs).1
 have hk : k < 11 := hk
 have hcs : k = 0 ∨ k = 1 ∨ k = 2 ∨ k = 3 ∨ k = 4 ∨ k = 5 ∨ k = 6 ∨ k = 7 ∨ k = 8 ∨ k = 9 ∨ k = 10 := by omega
 rcases hcs with rfl | rfl | rfl | rfl | rfl | rfl | rfl | rfl | rfl | rfl | rfl
 ·
  injection hs with hs
  subst hs
  exact apply_x0 h hu hc
 ·
  injection hs with hs
  subst hs
  exact apply_x1 h hu hc
 ·
  injection hs with hs
  subst hs
  exact apply_x2 h hu hc
 ·
  injection hs with hs
  subst hs
  exact apply_x3 h hu hc
 ·
  injection hs with hs
  subst hs
  exact apply_x4 h hu hc
 ·
  injection hs with hs
  subst hs
  exact apply_x5 h hu hc
 ·
  injection hs with hs
  subst hs
  exact apply_x6 h hu hc
 ·
  injection hs with hs
  subst hs
  exact apply_x7 h hu hc
 ·
  injection hs with hs
  subst hs
  exact apply_x8 h hu hc
 ·
  injection hs with hs
  subst hs
  exact apply_x9 h hu hc
 ·
  injection hs with hs
  subst hs
  exact kme h hu hc
include h hu hc in
theorem klw (gr c : Nat) (hn : Blk w gr 9 kbZ) : Calls Tryz.prog 39 #[.slice (some ⟨gr, 0, none⟩) 11 c, .func (.func 40) #[.pointer (some ⟨g, 0, none⟩)] #[]] w (kax base g (.slice (some ⟨gu, 0, none⟩) l.length l.length) (Oz.anyR l) w) := by
 obtain ⟨k, hk, h0, h1⟩ := kdV (fun k => Oz.applyR k l) 11
 have hul := hu.lt
 have hnl := hn.lt
 have hbase := h.base_le
 refine (kdH 40 (.pointer (some ⟨g, 0, none⟩)) (some ⟨gr, 0, none⟩) c k namesR (fun w' => Below w.heap.size w w') (fun w' => ∃ l', Oz.applyR k l = some l' ∧ (∃ gs' cap' vs', EdX w' base g gs' cap' l' vs' (.slice (some ⟨gu, 0, none⟩) l.length l.length)) ∧ FrX base w w') (by decide) hk (fun x w => by kernel_rfl) (fun w' i s hb hs => ⟨gr, 0, rfl, by rw [Nat.zero_add, (hn.below hb hnl).cell]; exact kdF hs⟩) (fun i s w' hi hs hb => ?_) (fun s w' hs hb => ?_) w (Below.refl _ _)).mono ?_
 ·
  refine (keU (h.below hb) (hu.below hb hul) hc i s hs).mono ?_
  intro e w2 he
  have h0i : Oz.applyR i l = none := h0 i hi
  rw [h0i] at he
  exact ⟨he.1, hb.trans (he.2.mono hb.size)⟩
 ·
  refine (keU (h.below hb) (hu.below hb hul) hc k s hs).mono ?_
  intro e w2 he
  have hk11 : k < 11 := (gH hs).1
  rcases h1 with h1 | ⟨l', _, hl'⟩
  ·
   omega
  ·
   have hl' : Oz.applyR k l = some l' := hl'
   rw [hl'] at he
   exact ⟨he.1, l', hl', he.2.1, ((FrX.refl base w).below hb hbase).trans he.2.2⟩
 ·
  rintro e w' (⟨hkn, rfl, l', hl', he, hf⟩ | ⟨hkn, rfl, hb⟩)
  ·
   have : Oz.anyR l = some l' := kjr h0 hl' 11 hkn
   rw [this]
   exact ⟨rfl, he, hf⟩
  ·
   have hkn : k = 11 := hkn
   have : Oz.anyR l = none := kjs (fun j hj => h0 j (by omega))
   rw [this]
   exact ⟨rfl, hb⟩
end
end Go.Proofs.YtamhdmkolfmmdaaGreatDoor
