/- The walk of optimize.share at any plan. optimize's newEditor with its own rows; count; first, for rules with a contract. The walks of optimize's apply and of a round of all rules at a plan without an error (printed by gen_oyf.py). -/
import Derived.Test.YtniefnjcimempaarRz2
import Derived.Test.YtniefnjcimempaarRzE
import Derived.Test.YtniefnjcimempaarRz5
import Derived.Test.YtniefnjcimempaarRz6
import Derived.Test.YtniefnjcimempaarOzN
import Derived.Test.YtniefnjcimempaarRz7
import Derived.Test.YtniefnjcimempaarRy3
namespace Go.Proofs.Ytniefnjcimempaa
open Go.RowKit
def keyOf (s : St) : KeyS := ⟨s.op, s.text, Oz.arg s 0, Oz.arg s 1, Oz.arg s 2, s.num⟩
def fk (l : List St) (k : Nat) (s : KeyS) : Option Nat := (List.range k).find? fun j => decide (keyOf (Oz.at_ l j) = s)
theorem sameAt_fk (l : List St) (k : Nat) : Oz.sameAt l k = fk l k (keyOf (Oz.at_ l k)) := by
  unfold Oz.sameAt fk
  congr 1
  funext j
  have h : (Oz.keyR (Oz.at_ l j) = Oz.keyR (Oz.at_ l k)) ↔ (keyOf (Oz.at_ l j) = keyOf (Oz.at_ l k)) := by
    unfold Oz.keyR keyOf
    simp only [Prod.mk.injEq, List.cons.injEq, and_true, KeyS.mk.injEq]
    constructor
    · rintro ⟨a, b, ⟨c, d, e⟩, f⟩; exact ⟨a, b, c, d, e, f⟩
    · rintro ⟨a, b, c, d, e, f⟩; exact ⟨a, b, ⟨c, d, e⟩, f⟩
  by_cases h0 : keyOf (Oz.at_ l j) = keyOf (Oz.at_ l k)
  · rw [decide_eq_true h0, decide_eq_true (h.2 h0)]
  · rw [decide_eq_false h0, decide_eq_false (fun e => h0 (h.1 e))]
theorem fk_lt {l : List St} {k j : Nat} {s : KeyS} (h : fk l k s = some j) : j < k := List.mem_range.1 (List.mem_of_find?_eq_some h)
theorem fk_succ (l : List St) (k : Nat) (s : KeyS) : fk l (k + 1) s = match fk l k s with
    | some j => some j
    | none => if keyOf (Oz.at_ l k) = s then some k else none := by
  unfold fk
  rw [List.range_succ, List.find?_append]
  generalize (List.range k).find? (fun j : Nat => decide (keyOf (Oz.at_ l (j : Int)) = s)) = o
  cases o with
  | some j => rfl
  | none =>
    show List.find? (fun j : Nat => decide (keyOf (Oz.at_ l (j : Int)) = s)) [k] = if keyOf (Oz.at_ l k) = s then some k else none
    by_cases h : keyOf (Oz.at_ l k) = s
    · simp [h]
    · simp [h]
theorem fk_hit {l : List St} {k j : Nat} (h : fk l k (keyOf (Oz.at_ l k)) = some j) (s : KeyS) : fk l (k + 1) s = fk l k s := by
  rw [fk_succ]
  cases hs : fk l k s with
  | some j' => rfl
  | none =>
    dsimp only
    rw [if_neg]
    intro e
    rw [e, hs] at h
    cases h
def Mirror (l : List St) (k : Nat) (L : List (KeyS × Value)) : Prop := ∀ s : KeyS, lookL L s = (fk l k s).map fun j => Value.int .i64 (j : Int)
theorem Mirror.miss {l : List St} {k : Nat} {L : List (KeyS × Value)} (h : Mirror l k L) (hn : fk l k (keyOf (Oz.at_ l k)) = none) : Mirror l (k + 1) (updL L (keyOf (Oz.at_ l k)) (.int .i64 (k : Int))) := fun s => by
  rw [look_upd, fk_succ]
  by_cases e : keyOf (Oz.at_ l k) = s
  · rw [if_pos e]
    rw [e] at hn
    rw [hn]
    dsimp only
    rw [if_pos e]
    rfl
  · rw [if_neg e, h s]
    cases fk l k s with
    | some j => rfl
    | none =>
      dsimp only
      rw [if_neg e]
theorem Mirror.hit {l : List St} {k j : Nat} {L : List (KeyS × Value)} (h : Mirror l k L) (hn : fk l k (keyOf (Oz.at_ l k)) = some j) : Mirror l (k + 1) L := fun s => by rw [fk_hit hn]; exact h s
theorem firstOf_none {f : List St → Nat → Option (List St)} {l : List St} (h : ∀ k, k < l.length → f l k = none) : Oz.firstOf f l = none := by
  unfold Oz.firstOf
  rw [List.findSome?_eq_none_iff]
  exact fun k hk => h k (List.mem_range.1 hk)
theorem firstOf_some {f : List St → Nat → Option (List St)} {l l' : List St} {k : Nat} (hk : k < l.length) (h0 : ∀ j, j < k → f l j = none) (h : f l k = some l') : Oz.firstOf f l = some l' := by
  unfold Oz.firstOf
  have hr : ∀ n, k < n → (List.range n).findSome? (f l) = some l' := by
    intro n
    induction n with
    | zero => omega
    | succ n ih =>
      intro hn
      rw [List.range_succ, List.findSome?_append]
      by_cases hkn : k < n
      · rw [ih hkn]; rfl
      · have hkn : k = n := by omega
        subst hkn
        have : (List.range k).findSome? (f l) = none := by
          rw [List.findSome?_eq_none_iff]
          exact fun j hj => h0 j (List.mem_range.1 hj)
        rw [this]
        simp [h]
  exact hr _ hk
def SgRel (w : World) (mb : Nat) (l : List St) (f : Nat) (i : Value) (wr : World) : Prop := ∃ (k : Nat) (L : List (KeyS × Value)), i = .int .i64 k ∧ k ≤ l.length ∧ l.length - k < f ∧ Hid (MapIs wr mb encK L) ∧ Hid (Mirror l k L) ∧ Hid (Below w.heap.size w wr) ∧ mb < wr.heap.size ∧ Hid (∀ j, j < k → Oz.shareAt l j = none)
set_option maxRecDepth 100000 in
set_option maxHeartbeats 8000000 in
theorem share_any (base g gs cap : Nat) (l : List St) (vs : List Value) (V : Value) (w : World) (h : EdX w base g gs cap l vs V) (hb : ∀ s ∈ l, s.args.length ≤ 3 ∧ ∀ a ∈ s.args, 0 ≤ a ∧ a ≤ 100000) :
    Calls Try.prog 55 #[.pointer (some ⟨g, 0, none⟩)] w (RuEnd base g V (Oz.firstOf Oz.shareAt l) w) := by
  have hmm : ∀ (W : World), (Instr.makeMap 130 none).run Try.prog W = .ok (.map (some W.heap.size)) (W.alloc (.map #[] 0)) := fun W => by
    simp [Instr.makeMap]
  have hgl := h.ed.lt
  have hgsl := h.gs_lt
  have hbase := h.base_le
  have x0 := h.ed.cell 0
  simp only [List.getElem?_toArray, List.getElem?_cons_zero] at x0
  have hcap := h.cap
  obtain ⟨n, hn⟩ : ∃ n, n = l.length := ⟨_, rfl⟩
  rw [← hn] at x0 hcap
  have HN := Lib.hid hn
  have HH := Lib.hid h
  have HBB := Lib.hid hb
  have hg1 : (w.alloc (.map #[] 0)).cell? ⟨g, 0, none⟩ = some (.slice (some ⟨gs, 0, none⟩) n cap) := (World.cell?_alloc_lt w _ _ hgl).trans x0
  clear h hb x0 hn
  go_enter Try.func55, Try.ntmps55
  go_wp2_with fail
  clear hmm hg1
  go_loopg [4, 5, 6, 7, 8, 15] (n + 1) (fun f _ _ _ _ _ i wr => SgRel w w.heap.size l f i wr)
  case atStart => exact ⟨0, [], rfl, by omega, by have := HN.out; omega, Lib.hid (MapIs.new w encK 0), Lib.hid (fun s => rfl), Lib.hid ((Below.refl _ _).alloc (Nat.le_refl _) _), by simp, Lib.hid (fun j hj => by omega)⟩
  case round =>
    obtain ⟨k, L, rfl, hk, hkf, HMP, HMI, HB, hml, HNO⟩ := hrel
    rw [← HN.out] at hk hkf
    obtain ⟨f, rfl⟩ : ∃ f, gk = f + 1 := ⟨gk - 1, by omega⟩
    by_cases hlt : k < n
    · obtain ⟨s, hs⟩ : ∃ s, l[k]? = some s := ⟨l[k]'(by have := HN.out; omega), List.getElem?_eq_getElem _⟩
      obtain ⟨v, hv, ⟨x0, x1, x2, x3, x4⟩, ho⟩ := (HH.out.below HB.out).at_ hs
      obtain ⟨As, c, rfl⟩ := own_form ho
      have h0 := (HBB.out s (List.mem_of_getElem? hs)).1
      have q0 : (k : Int) < (n : Int) := by omega
      have q1 : (0 : Int) ≤ (k : Int) := by omega
      have hgsr := Nat.lt_of_lt_of_le hgsl HB.out.size
      obtain ⟨m, hm⟩ : ∃ m, m = s.args.length := ⟨_, rfl⟩
      rw [← hm] at x1
      obtain ⟨num, hnum⟩ : ∃ num, num = s.num := ⟨_, rfl⟩
      rw [← hnum] at x2
      obtain ⟨ty, hty⟩ : ∃ ty, ty = s.ty := ⟨_, rfl⟩
      rw [← hty] at x4
      obtain ⟨op, hop⟩ : ∃ op, op = s.op := ⟨_, rfl⟩
      rw [← hop] at x0
      obtain ⟨text, htext⟩ : ∃ text, text = s.text := ⟨_, rfl⟩
      rw [← htext] at x3
      obtain ⟨K, hK⟩ : ∃ K, K = keyOf s := ⟨_, rfl⟩
      have HR := Lib.hid (Reads.of_own ho)
      have HS := Lib.hid hs
      have HSP := Lib.hid (key_splice (op := op) (text := text) (num := num) (args := s.args) (k := K) h0 (by rw [hK, hop]; rfl) (by rw [hK, htext]; rfl) (by rw [hK, hnum]; rfl) (by rw [hK]; rfl) (by rw [hK]; rfl) (by rw [hK]; rfl))
      have HKK : Hid (K = keyOf (Oz.at_ l k)) := Lib.hid (by rw [hK, at_get hs])
      have hsame : Oz.sameAt l k = fk l k K := by rw [sameAt_fk, HKK.out]
      have HSA : Hid (Oz.shareAt l k = match fk l k K with | none => none | some j => Oz.replaceR l k j) := Lib.hid (by unfold Oz.shareAt; rw [hsame]; cases fk l k K <;> rfl)
      have HM3' := Lib.hid hm
      have hm3 : m ≤ 3 := by omega
      clear hs hv ho hnum hty hop htext hK hsame hm h0
      go_upto_region 6 with (fail)
      obtain ⟨w2, hw2⟩ : ∃ w2, w2 = (wr.alloc (.cells #[.string ⟨op.toArray⟩, .slice As m c, .int .i64 num, .string ⟨text.toArray⟩, .int .i64 ty] 25)).alloc (.cells #[.string ⟨op.toArray⟩, .string ⟨text.toArray⟩, .int .i64 0, .int .i64 0, .int .i64 0, .int .i64 num] 133) := ⟨_, rfl⟩
      rw [← hw2]
      have hb2 : Below wr.heap.size wr w2 := by rw [hw2]; exact ((Below.refl _ _).alloc (Nat.le_refl _) _).alloc (by simp) _
      have HKB := Lib.hid (show Blk w2 (wr.heap.size + 1) 133 #[.string ⟨op.toArray⟩, .string ⟨text.toArray⟩, .int .i64 0, .int .i64 0, .int .i64 0, .int .i64 num] by
        rw [hw2]
        have := Blk.new (wr.alloc (.cells #[.string ⟨op.toArray⟩, .slice As m c, .int .i64 num, .string ⟨text.toArray⟩, .int .i64 ty] 25)) 133 #[.string ⟨op.toArray⟩, .string ⟨text.toArray⟩, .int .i64 0, .int .i64 0, .int .i64 0, .int .i64 num]
        simpa using this)
      have HSB := Lib.hid (show Blk w2 wr.heap.size 25 #[.string ⟨op.toArray⟩, .slice As m c, .int .i64 num, .string ⟨text.toArray⟩, .int .i64 ty] by rw [hw2]; exact (Blk.new _ _ _).alloc _)
      have HB2 := Lib.hid hb2
      have HR2 := Lib.hid ((HR.out.below hb2).more hb2.size)
      have y1 := HSB.out.cell 1
      simp only [List.getElem?_toArray, List.getElem?_cons_zero, List.getElem?_cons_succ] at y1
      have hm2 : w.heap.size < wr.heap.size := hml
      clear hw2 hb2 x0 x1 x2 x3 x4
      go_region_law (first | (refine step_copy_splice rfl (.tmp 28) (.tmp 30) 23 23 rfl 3 Try.underlying23 (by kernel_rfl) (some ⟨wr.heap.size + 1, 2, none⟩) As 3 3 m c rfl rfl (wr.heap.size + 1) 2 [.string ⟨op.toArray⟩, .string ⟨text.toArray⟩, .int .i64 0, .int .i64 0, .int .i64 0, .int .i64 num] 133 HKB.out (s.args.map (Value.int .i64)) (by rw [List.length_map, ← HM3'.out]; exact (Nat.min_eq_left hm3).symm) (fun hp => ⟨rfl, by obtain ⟨ad, e1, _, e3⟩ := HR2.out.2 (by simpa using hp); exact ⟨ad, e1, e3⟩⟩) (by have := HM3'.out; simp; omega) (fun v hv => by obtain ⟨x, _, rfl⟩ := List.mem_map.1 hv; rfl) wr.heap.size wr HB2.out.drew (by omega) ?_; intro w3 hg3 hb3; have HG3 := Lib.hid hg3.out; have HB3 := Lib.hid hb3; clear hg3 hb3))
      rw [HSP.out] at HG3
      have HK3 := Lib.hid (show Blk w3 (wr.heap.size + 1) 133 #[.string ⟨K.op.toArray⟩, .string ⟨K.text.toArray⟩, .int .i64 K.a, .int .i64 K.b, .int .i64 K.c, .int .i64 K.num] from HG3.out)
      have z0 := HK3.out.cell 0
      have z1 := HK3.out.cell 1
      have z2 := HK3.out.cell 2
      have z3 := HK3.out.cell 3
      have z4 := HK3.out.cell 4
      have z5 := HK3.out.cell 5
      simp only [List.getElem?_toArray, List.getElem?_cons_zero, List.getElem?_cons_succ] at z0 z1 z2 z3 z4 z5
      have HM3 := Lib.hid (HMP.out.keep (HB3.out.block w.heap.size hml))
      have hlk := HM3.out.lookup (key_keyEq w3) Try.underlying130 (fun _ _ => trivial) (z := .int .i64 0) (by kernel_rfl) K trivial true
      rw [HMI.out K] at hlk
      have hw0 := HB.out.size
      have hw3 := HB3.out.size
      cases hfk : fk l k K with
      | none =>
        rw [hfk] at hlk
        have HFK := Lib.hid hfk
        have HSN : Hid (Oz.shareAt l k = none) := Lib.hid (by rw [HSA.out, hfk])
        have hlk : (Instr.lookup 130 (.map (some w.heap.size)) (.agg #[.string ⟨K.op.toArray⟩, .string ⟨K.text.toArray⟩, .int .i64 K.a, .int .i64 K.b, .int .i64 K.c, .int .i64 K.num]) true).run Try.prog w3 = .ok (.tuple #[.int .i64 0, .bool false]) w3 := hlk
        clear HG3 y1 hfk
        go_wp2_with (at_mapUpdate; refine wpList_update_law rfl _ _ _ 130 rfl w.heap.size encK L 133 3 (fun _ => True) HM3.out (key_keyEq w3) Try.underlying130 (fun _ _ => trivial) K trivial rfl rfl ?_)
        intro w4 hm4 hg4 hz4
        have HM4 := Lib.hid hm4
        have HB4 := Lib.hid ((HB.out.trans (HB3.out.mono hw0)).grown hg4 (by omega) (fun j e => by injection e with e; omega))
        have HMI4 : Hid (Mirror l (k + 1) (updL L K (.int .i64 (k : Int)))) := Lib.hid (by
          have h1 := HFK.out
          rw [HKK.out] at h1 ⊢
          exact HMI.out.miss h1)
        have HNO4 : Hid (∀ j, j < k + 1 → Oz.shareAt l j = none) := Lib.hid (fun j hj => by
          by_cases e : j = k
          · rw [e]; exact HSN.out
          · exact HNO.out j (by omega))
        have hz5 : w.heap.size < w4.heap.size := by omega
        clear hm4 hg4 hz4 hlk z0 z1 z2 z3 z4 z5
        go_wp2_with fail
        go_roundg f
        case measure => omega
        case rel => exact ⟨k + 1, _, by go_num, by have := HN.out; omega, by have := HN.out; omega, HM4, HMI4, HB4, hz5, HNO4⟩
      | some j =>
        rw [hfk] at hlk
        have hjk := fk_lt hfk
        have hlk : (Instr.lookup 130 (.map (some w.heap.size)) (.agg #[.string ⟨K.op.toArray⟩, .string ⟨K.text.toArray⟩, .int .i64 K.a, .int .i64 K.b, .int .i64 K.c, .int .i64 K.num]) true).run Try.prog w3 = .ok (.tuple #[.int .i64 j, .bool true]) w3 := hlk
        have HB3w := Lib.hid (HB.out.trans (HB3.out.mono hw0))
        obtain ⟨r, hr⟩ : ∃ r, r = Oz.replaceR l k j := ⟨_, rfl⟩
        have HSN : Hid (Oz.shareAt l k = r) := Lib.hid (by rw [HSA.out, hfk, hr])
        have HRP := Lib.hid (replace_any base g gs cap k j l vs V w3 (HH.out.below HB3w.out) hjk (by have := HN.out; omega) HBB.out)
        rw [← hr] at HRP
        have HMI4 : Hid (Mirror l (k + 1) L) := Lib.hid (by
          have h1 := hfk
          rw [HKK.out] at h1
          exact HMI.out.hit h1)
        clear HG3 y1 hfk hr
        go_wp2_with fail
        refine HRP.out.mono ?_
        intro e w5 h5
        clear hlk z0 z1 z2 z3 z4 z5 HRP
        cases r with
        | none =>
          have h5 : e = .returned (.bool false) ∧ Below w3.heap.size w3 w5 := h5
          obtain ⟨rfl, hb5⟩ := h5
          have HB5 := Lib.hid (HB3w.out.trans (hb5.mono HB3w.out.size))
          have HM5 := Lib.hid (HM3.out.keep (hb5.block w.heap.size (by omega)))
          have hz5 : w.heap.size < w5.heap.size := by have := hb5.size; omega
          have HNO4 : Hid (∀ j, j < k + 1 → Oz.shareAt l j = none) := Lib.hid (fun j hj => by
            by_cases e : j = k
            · rw [e]; exact HSN.out
            · exact HNO.out j (by omega))
          clear hb5
          go_wp2_with fail
          go_roundg f
          case measure => omega
          case rel => exact ⟨k + 1, _, by go_num, by have := HN.out; omega, by have := HN.out; omega, HM5, HMI4, HB5, hz5, HNO4⟩
        | some l9 =>
          have h5 : e = .returned (.bool true) ∧ (∃ vs9, EdX w5 base g gs cap l9 vs9 V) ∧ FrX base w3 w5 := h5
          obtain ⟨rfl, ⟨vs9, he9⟩, hf9⟩ := h5
          have HE9 := Lib.hid he9
          have HF9 := Lib.hid (((FrX.refl base w).below HB3w.out hbase).trans hf9)
          have HRN : Hid (Oz.firstOf Oz.shareAt l = some l9) := Lib.hid (firstOf_some (by have := HN.out; omega) HNO.out HSN.out)
          clear he9 hf9
          go_wp2_with fail
          go_ret
          unfold RuEnd
          rw [HRN.out]
          exact ⟨rfl, ⟨_, _, _, HE9.out⟩, HF9.out⟩
    · have hkn : k = n := by omega
      subst hkn
      have q0 : ¬ ((k : Int) < (k : Int)) := by omega
      have HRN : Hid (Oz.firstOf Oz.shareAt l = none) := Lib.hid (firstOf_none (fun j hj => HNO.out j (by have := HN.out; omega)))
      go_wp2_with fail
      go_ret
      unfold RuEnd
      rw [HRN.out]
      exact ⟨rfl, HB.out⟩
end Go.Proofs.Ytniefnjcimempaa
namespace Go.Proofs.Ytniefnjcimempaa
open Go.RowKit
structure EdK (w : World) (base gs k : Nat) (l : List St) (vs : List Value) : Prop where
  len : vs.length = k
  cell : ∀ (i : Nat) (v : Value), vs[i]? = some v → w.cell? ⟨gs, i * 5 + 1, none⟩ = some v
  own : ∀ (i : Nat) (s : St) (v : Value), l[i]? = some s → vs[i]? = some v → w.ownsRow base 3 1 v s.args.length (s.args.map (Value.int .i64))
  dis : ∀ (i j : Nat) (v v' : Value), i ≠ j → vs[i]? = some v → vs[j]? = some v' → v.ownBlock = none ∨ v.ownBlock ≠ v'.ownBlock
theorem EdK.zero (w : World) (base gs : Nat) (l : List St) : EdK w base gs 0 l [] := ⟨rfl, (fun i v h => by cases h), (fun i s v _ h => by cases h), (fun i j v v' _ h _ => by cases h)⟩
theorem EdK.step {w w1 : World} {base g gs cap k : Nat} {l : List St} {vs : List Value} {V : Value} {s : St} (he : EdAt w g gs cap l V) (h : EdK w base gs k l vs) (hk : k < l.length) (hs : l[k]? = some s) (hB : base ≤ w.heap.size) (hb : Below w.heap.size w w1) (A' : Option Addr) (c' : Nat) (ho : w1.ownsRow w.heap.size 3 1 (.slice A' s.args.length c') s.args.length (s.args.map (Value.int .i64))) :
    EdK (w1.setCell ⟨gs, k * 5 + 1, none⟩ (.slice A' s.args.length c')) base gs (k + 1) l (vs ++ [.slice A' s.args.length c']) := by
  have hgsl := he.gs_lt
  obtain ⟨cs, e1, e2, e3⟩ := (he.below hb).blk
  have hle := he.le
  have hS := e1.set_ (k * 5 + 1) (.slice A' s.args.length c')
  have hkeep : ∀ b, b ≠ gs → (w1.setCell ⟨gs, k * 5 + 1, none⟩ (.slice A' s.args.length c')).heap[b]? = w1.heap[b]? := fun b hbn => Below.heap_setCell w1 ⟨gs, k * 5 + 1, none⟩ _ b hbn
  have hget : ∀ i v, (vs ++ [.slice A' s.args.length c'])[i]? = some v → (i < k ∧ vs[i]? = some v) ∨ (i = k ∧ v = .slice A' s.args.length c') := fun i v hv => by
    by_cases hik : i < k
    · rw [List.getElem?_append_left (by rw [h.len]; exact hik)] at hv
      exact .inl ⟨hik, hv⟩
    · rw [List.getElem?_append_right (by rw [h.len]; omega), h.len] at hv
      have : i - k = 0 := by
        have := (List.getElem?_eq_some_iff.1 hv).1
        simp at this
        omega
      rw [this, List.getElem?_cons_zero] at hv
      injection hv with hv
      exact .inr ⟨by omega, hv.symm⟩
  have hold : ∀ (i : Nat) (s : St) (v : Value), l[i]? = some s → vs[i]? = some v → ∀ q, v.ownBlock = some q → q < w.heap.size ∧ q ≠ gs := fun i s v hs hv q hq => by
    refine ⟨own_lt (h.own i s v hs hv) q hq, fun e => ?_⟩
    obtain ⟨cs0, f1, _⟩ := he.blk
    exact own_blk_ne (h.own i s v hs hv) f1 (by decide) (by rw [hq, e])
  refine ⟨by rw [List.length_append, h.len]; rfl, fun i v hv => ?_, fun i t v ht hv => ?_, fun i j v v' hij hv hv' => ?_⟩
  · rw [hS.cell]
    rcases hget i v hv with ⟨hik, hv'⟩ | ⟨rfl, rfl⟩
    · rw [Array.getElem?_setIfInBounds_ne (by omega), ← e1.cell, hb.cell (p := ⟨gs, i * 5 + 1, none⟩) hgsl]
      exact h.cell i v hv'
    · rw [Array.getElem?_setIfInBounds_self_of_lt (by omega)]
  · rcases hget i v hv with ⟨hik, hv'⟩ | ⟨rfl, rfl⟩
    · refine own_same (own_below (h.own i t v ht hv') hb) (fun b hbo => hkeep b (hold i t v ht hv' b hbo).2)
    · obtain rfl : t = s := by rw [hs] at ht; injection ht with ht; exact ht.symm
      refine own_same (ho.mono hB) (fun b hbo => hkeep b (fun e => ?_))
      exact own_blk_ne ho e1 (by decide) (by rw [hbo, e])
  · have hnew : ∀ (i : Nat) (v : Value), i < k → vs[i]? = some v → v.ownBlock = none ∨ v.ownBlock ≠ (Value.slice A' s.args.length c').ownBlock := fun i v hik hv => by
      cases hvo : v.ownBlock with
      | none => exact .inl rfl
      | some q =>
        refine .inr (fun e => ?_)
        obtain ⟨t, ht⟩ : ∃ t, l[i]? = some t := ⟨_, List.getElem?_eq_getElem (by omega)⟩
        have h1 := (hold i t v ht hv q hvo).1
        have h2 := own_lo ho e.symm
        omega
    rcases hget i v hv with ⟨hik, h1⟩ | ⟨rfl, rfl⟩
    · rcases hget j v' hv' with ⟨hjk, h2⟩ | ⟨rfl, rfl⟩
      · exact h.dis i j v v' hij h1 h2
      · exact hnew i v hik h1
    · rcases hget j v' hv' with ⟨hjk, h2⟩ | ⟨h3, _⟩
      · rcases hnew j v' hjk h2 with h0 | h0
        · cases hvo : (Value.slice A' s.args.length c').ownBlock with
          | none => exact .inl rfl
          | some q => exact .inr (by rw [h0]; intro e; cases e)
        · exact .inr (fun e => h0 e.symm)
      · omega
theorem EdK.edX {w : World} {base g gs cap : Nat} {l : List St} {vs : List Value} {V : Value} (he : EdAt w g gs cap l V) (h : EdK w base gs l.length l vs) (hg : base ≤ g) (hgs : base ≤ gs) : EdX w base g gs cap l vs V :=
  ⟨he.ed, he.blk, h.len, fun i s v hs hv => by
    obtain ⟨As, c, x0, x1, x2, x3, x4, _⟩ := he.st i s hs
    have := h.cell i v hv
    rw [x1] at this
    exact ⟨x0, x1.trans this, x2, x3, x4⟩, h.own, h.dis, he.le, he.cap, hg, hgs⟩
theorem count_x (base g gs cap : Nat) (l : List St) (vs : List Value) (V : Value) (w : World) (h : EdX w base g gs cap l vs V) (hr : ∀ s ∈ l, s.args.length ≤ 3 ∧ ∀ a ∈ s.args, 0 ≤ a ∧ a < (l.length : Int)) :
    Calls Try.prog 37 #[.pointer (some ⟨g, 0, none⟩)] w fun e w' => e = .returned (.tuple #[]) ∧ ∃ gu, EdX w' base g gs cap l vs (.slice (some ⟨gu, 0, none⟩) l.length l.length) ∧ Blk w' gu 3 (uarr (usesR l)) ∧ FrX base w w' := by
  refine (count_any g gs cap l V w h.edAt hr).mono ?_
  rintro e w' ⟨rfl, he, hu, hg⟩
  have hgs : w'.heap[gs]? = w.heap[gs]? := hg.block gs h.gs_lt (fun e => h.ne (by injection e with e; exact e.symm))
  refine ⟨rfl, w.heap.size, ⟨he.ed, he.blk, h.len, fun i s v hs hv => (h.cells i s v hs hv).same hgs, fun i s v hs hv => ?_, h.dis, h.le, h.cap, h.hg, h.hgs⟩, hu, FrX.grown hg h.base_le h.hg h.ed (by decide)⟩
  refine own_same (h.own i s v hs hv) (fun b hb => hg.block b (own_lt (h.own i s v hs hv) b hb) (fun e => ?_))
  injection e with e
  exact (h.apart hs hv hb).1 e
def NxRel (w : World) (g gs cap : Nat) (l : List St) (f : Nat) (i : Value) (wr : World) : Prop := ∃ (k : Nat) (vs : List Value), i = .int .i64 k ∧ k ≤ l.length ∧ l.length - k < f ∧ Hid (EdAt wr g gs cap l (.slice none 0 0)) ∧ Hid (EdK wr w.heap.size gs k l vs) ∧ Hid (Below w.heap.size w wr)
set_option maxRecDepth 100000 in
set_option maxHeartbeats 8000000 in
theorem newEditor_x (A : Option Addr) (c : Nat) (l : List St) (w : World) (hp : PlAt w (fun i => i < w.heap.size) A l) (hl : 0 < l.length) (hn : l.length ≤ 100000) (hr : ∀ s ∈ l, s.args.length ≤ 3 ∧ ∀ a ∈ s.args, 0 ≤ a ∧ a < (l.length : Int)) :
    Calls Try.prog 34 #[.agg #[.slice A l.length c]] w fun e w' => ∃ g gs cap gu vs, e = .returned (.pointer (some ⟨g, 0, none⟩)) ∧ EdX w' w.heap.size g gs cap l vs (.slice (some ⟨gu, 0, none⟩) l.length l.length) ∧ Blk w' gu 3 (uarr (usesR l)) ∧ Below w.heap.size w w' := by
  obtain ⟨w0, hw0⟩ : ∃ w0, w0 = w.alloc (.cells #[.slice A l.length c] 28) := ⟨_, rfl⟩
  have hb0 : Below w.heap.size w w0 := by rw [hw0]; exact below_alloc _ _
  obtain ⟨css, hrd, hst⟩ := hp.below hb0
  obtain ⟨b, o, rfl, _, _, _⟩ := hrd.form hl
  have HC := Lib.hid (clone_steps b o l.length c css w0 hn hrd.reads (stvs_one hst))
  have HST := Lib.hid hst
  have HB0 := Lib.hid hb0
  have HW0 := Lib.hid hw0
  have HR := Lib.hid hr
  clear hp hrd hst hb0 hw0 hr
  go_enter Try.func34, Try.ntmps34
  go_wp2_with fail
  rw [← HW0.out]
  refine HC.out.mono ?_
  rintro e w1 ⟨v1, rfl, ho1, hb1⟩
  obtain ⟨gs, cap, rfl, hgs, hgsl, hed⟩ := ed_new HST.out hl hn hb1 ho1
  have HB1 := Lib.hid (HB0.out.trans (hb1.mono HB0.out.size))
  have HE1 := Lib.hid (hed (.slice none 0 0))
  have hz1 := HB1.out.size
  have hz0 := HB0.out.size
  have HB2 := Lib.hid (HB1.out.alloc hz1 (.cells #[.slice (some ⟨gs, 0, none⟩) l.length cap, .slice none 0 0] 83))
  clear ho1 hb1 hed HC
  go_wp2_with fail
  go_loopg [4, 15] (l.length + 1) (fun f _ i wr => NxRel w w1.heap.size gs cap l f i wr)
  case atStart => exact ⟨0, [], rfl, by omega, by omega, HE1, Lib.hid (EdK.zero _ _ _ _), HB2⟩
  case round =>
    clear HE1 HB2
    obtain ⟨k, vs, rfl, hk, hkf, HE, HK, HB⟩ := hrel
    obtain ⟨f, rfl⟩ : ∃ f, gk = f + 1 := ⟨gk - 1, by omega⟩
    by_cases hlt : k < l.length
    · obtain ⟨s, hs⟩ : ∃ s, l[k]? = some s := ⟨l[k], List.getElem?_eq_getElem hlt⟩
      obtain ⟨As, cs, x0, x1, x2, x3, x4, har⟩ := HE.out.st k s hs
      have g0 := HE.out.ed.cell 0
      simp only [List.getElem?_toArray, List.getElem?_cons_zero] at g0
      have hal := (HR.out s (List.mem_of_getElem? hs)).1
      have HAR := Lib.hid har.reads
      have HS := Lib.hid hs
      have hgl := HE.out.ed.lt
      have hsl := HE.out.gs_lt
      have hzr := HB.out.size
      have q0 : (k : Int) < (l.length : Int) := by omega
      have q1 : (0 : Int) ≤ (k : Int) := by omega
      clear hs har x0 x2 x3 x4
      go_wp2_with fail
      go_region_with (first | (go_at_call 53; refine (clone_ints As cs s.args wr.drew (by omega) HAR.out.drew).mono ?_; rintro e w6 ⟨A', c', rfl, ho6, hb6⟩; have hW : Below wr.heap.size wr w6 := (Below.refl _ wr).drew.trans hb6; have o0 := (hW.cell (p := ⟨w1.heap.size, 0, none⟩) hgl).trans g0; have o1 := (hW.cell (p := ⟨gs, k * 5 + 1, none⟩) hsl).trans x1; have fz : w6.frozen? ⟨gs, k * 5 + 1, none⟩ = false := by obtain ⟨cs6, e6, _⟩ := (HE.out.below hW).blk; exact e6.frozen _))
      all_goals
        have HE6 := Lib.hid (HE.out.arg HS.out hW A' c' ho6)
        have HK6 := Lib.hid (HK.out.step HE.out hlt HS.out hzr hW A' c' ho6)
        have HB6 := Lib.hid ((HB.out.trans (hW.mono hzr)).setCell (p := ⟨gs, k * 5 + 1, none⟩) (by show w.heap.size ≤ gs; omega) (.slice A' s.args.length c'))
        clear ho6 hb6 hW o0 o1 fz
        go_wp2_with fail
        go_roundg f
        case measure => omega
        case rel => exact ⟨k + 1, _, by go_num, by omega, by omega, HE6, HK6, HB6⟩
    · have hkn : k = l.length := by omega
      subst hkn
      have q0 : ¬ ((l.length : Int) < (l.length : Int)) := by omega
      have HX := Lib.hid (HK.out.edX HE.out (by omega) (by omega))
      have HCT := Lib.hid (count_x w.heap.size w1.heap.size gs cap l vs _ wr HX.out HR.out)
      go_wp2_with fail
      refine HCT.out.mono ?_
      rintro e w7 ⟨rfl, gu, he7, hu7, hf7⟩
      have HE7 := Lib.hid he7
      have HU7 := Lib.hid hu7
      have HB7 : Hid (Below w.heap.size w w7) := Lib.hid (HB.out.trans hf7.bel)
      clear he7 hu7 hf7
      go_wp2_with fail
      go_ret
      exact ⟨_, gs, cap, gu, vs, rfl, HE7.out, HU7.out, HB7.out⟩
theorem first_place (f : Nat → Option (List St)) : ∀ n : Nat, ∃ k, k ≤ n ∧ (∀ j, j < k → f j = none) ∧ (k = n ∨ ∃ l', k < n ∧ f k = some l')
  | 0 => ⟨0, by omega, fun j hj => by omega, .inl rfl⟩
  | n + 1 => by
    obtain ⟨k, hk, h0, h1⟩ := first_place f n
    rcases h1 with rfl | ⟨l', hkn, hl'⟩
    · cases hf : f k with
      | none => exact ⟨k + 1, by omega, fun j hj => by
          by_cases e : j = k
          · rw [e]; exact hf
          · exact h0 j (by omega), .inl rfl⟩
      | some l' => exact ⟨k, by omega, h0, .inr ⟨l', by omega, hf⟩⟩
    · exact ⟨k, by omega, h0, .inr ⟨l', by omega, hl'⟩⟩
theorem first_ru (F base g gs gu cap : Nat) (l : List St) (vs : List Value) (fR : List St → Nat → Option (List St)) (w : World) (h : EdX w base g gs cap l vs (.slice (some ⟨gu, 0, none⟩) l.length l.length)) (hu : Blk w gu 3 (uarr (usesR l)))
    (hcf : ∀ (x : Value) (w : World), (callFunc F #[.pointer (some ⟨g, 0, none⟩), x]).run Try.prog w = .ok (.enter F #[.pointer (some ⟨g, 0, none⟩), x]) w)
    (hF : ∀ (i : Nat) (s : St) (w : World), EdX w base g gs cap l vs (.slice (some ⟨gu, 0, none⟩) l.length l.length) → Blk w gu 3 (uarr (usesR l)) → l[i]? = some s → Calls Try.prog F #[.pointer (some ⟨g, 0, none⟩), .int .i64 i] w (RuEnd base g (.slice (some ⟨gu, 0, none⟩) l.length l.length) (fR l i) w)) :
    Calls Try.prog 56 #[.pointer (some ⟨g, 0, none⟩), .func (.func F) #[.pointer (some ⟨g, 0, none⟩)] #[]] w (RuEnd base g (.slice (some ⟨gu, 0, none⟩) l.length l.length) (Oz.firstOf fR l) w) := by
  obtain ⟨k, hk, h0, h1⟩ := first_place (fR l) l.length
  have hul := hu.lt
  have hbase := h.base_le
  refine (first_gen F g gs l.length cap k (fun w' => Below w.heap.size w w') (fun w' => ∃ l', fR l k = some l' ∧ (∃ gs' cap' vs', EdX w' base g gs' cap' l' vs' (.slice (some ⟨gu, 0, none⟩) l.length l.length)) ∧ FrX base w w') h.cap hk hcf (fun w' hb => ?_) (fun i w' hi hb => ?_) (fun w' hkn hb => ?_) w (Below.refl _ _)).mono ?_
  · have := (h.below hb).ed.cell 0
    simpa using this
  · obtain ⟨s, hs⟩ : ∃ s, l[i]? = some s := ⟨_, List.getElem?_eq_getElem (by omega)⟩
    refine (hF i s w' (h.below hb) (hu.below hb hul) hs).mono ?_
    intro e w2 he
    rw [h0 i hi] at he
    exact ⟨he.1, hb.trans (he.2.mono hb.size)⟩
  · obtain ⟨s, hs⟩ : ∃ s, l[k]? = some s := ⟨_, List.getElem?_eq_getElem hkn⟩
    refine (hF k s w' (h.below hb) (hu.below hb hul) hs).mono ?_
    intro e w2 he
    rcases h1 with h1 | ⟨l', _, hl'⟩
    · omega
    · rw [hl'] at he
      exact ⟨he.1, l', hl', he.2.1, ((FrX.refl base w).below hb hbase).trans he.2.2⟩
  · rintro e w' (⟨hkn, rfl, l', hl', he, hf⟩ | ⟨hkn, rfl, hb⟩)
    · rw [firstOf_some hkn h0 hl']
      exact ⟨rfl, he, hf⟩
    · rw [firstOf_none (fun j hj => h0 j (by omega))]
      exact ⟨rfl, hb⟩
end Go.Proofs.Ytniefnjcimempaa
namespace Go.Proofs.Ytniefnjcimempaa
open Go.RowKit
theorem rs_none {g : Nat → Option (List St)} {n : Nat} (h : ∀ k, k < n → g k = none) : (List.range n).findSome? g = none := by
  rw [List.findSome?_eq_none_iff]
  exact fun k hk => h k (List.mem_range.1 hk)
theorem rs_some {g : Nat → Option (List St)} {l' : List St} {k : Nat} (h0 : ∀ j, j < k → g j = none) (h : g k = some l') : ∀ n, k < n → (List.range n).findSome? g = some l'
  | 0, hn => by omega
  | n + 1, hn => by
    rw [List.range_succ, List.findSome?_append]
    by_cases hkn : k < n
    · rw [rs_some h0 h n hkn]; rfl
    · have hkn : k = n := by omega
      subst hkn
      rw [rs_none h0]
      simp [h]
section
variable {base g gs gu cap : Nat} {l : List St} {vs : List Value} {w : World} (h : EdX w base g gs cap l vs (.slice (some ⟨gu, 0, none⟩) l.length l.length)) (hu : Blk w gu 3 (uarr (usesR l))) (hc : checkR l = 0)
include h hu hc in
set_option maxRecDepth 100000 in
theorem apply_x0 : Calls Try.prog 36 #[.pointer (some ⟨g, 0, none⟩), .string ⟨#[115, 104, 97, 114, 101]⟩] w (RuEnd base g (.slice (some ⟨gu, 0, none⟩) l.length l.length) (Oz.applyR 0 l) w) := by
  have _ := hu
  have HS := Lib.hid (share_any base g gs cap l vs _ w h (ok_bd hc))
  have hmf : ∀ (fn : Fn) (first cap : Array Value) (w : World), (Instr.makeFunc fn first cap).run Try.prog w = .ok (.func fn first cap) w := fun _ _ _ _ => rfl
  obtain ⟨r, hr⟩ : ∃ r, r = Oz.applyR 0 l := ⟨_, rfl⟩
  have hr' : r = Oz.firstOf Oz.shareAt l := hr
  rw [← hr'] at HS
  rw [← hr]
  clear h hu hc hr hr'
  go_enter Try.func36, Try.ntmps36
  go_wp2_with fail
  refine HS.out.mono ?_
  rintro e w1 ⟨rfl, h1⟩
  have H1 := Lib.hid h1
  obtain ⟨z, hz⟩ : ∃ z, z = r.isSome := ⟨_, rfl⟩
  have HZ := Lib.hid hz
  rw [← hz]
  clear h1 HS hz
  go_wp2_with fail
  go_ret
  exact ⟨congrArg (fun z => Ending.returned (Value.bool z)) HZ.out, H1.out⟩
include h hu hc in
set_option maxRecDepth 100000 in
theorem apply_x1 : Calls Try.prog 36 #[.pointer (some ⟨g, 0, none⟩), .string ⟨#[102, 111, 108, 100]⟩] w (RuEnd base g (.slice (some ⟨gu, 0, none⟩) l.length l.length) (Oz.applyR 1 l) w) := by
  have HS := Lib.hid (first_ru 57 base g gs gu cap l vs Oz.foldR w h hu (fun x w => by kernel_rfl) (fun i s w h hu hs => (fold_any base g gs cap i l vs _ s w h hs hc).mono fun _ _ h => h.ru))
  have hmf : ∀ (fn : Fn) (first cap : Array Value) (w : World), (Instr.makeFunc fn first cap).run Try.prog w = .ok (.func fn first cap) w := fun _ _ _ _ => rfl
  obtain ⟨r, hr⟩ : ∃ r, r = Oz.applyR 1 l := ⟨_, rfl⟩
  have hr' : r = Oz.firstOf Oz.foldR l := hr
  rw [← hr'] at HS
  rw [← hr]
  clear h hu hc hr hr'
  go_enter Try.func36, Try.ntmps36
  go_wp2_with fail
  refine HS.out.mono ?_
  rintro e w1 ⟨rfl, h1⟩
  have H1 := Lib.hid h1
  obtain ⟨z, hz⟩ : ∃ z, z = r.isSome := ⟨_, rfl⟩
  have HZ := Lib.hid hz
  rw [← hz]
  clear h1 HS hz
  go_wp2_with fail
  go_ret
  exact ⟨congrArg (fun z => Ending.returned (Value.bool z)) HZ.out, H1.out⟩
include h hu hc in
set_option maxRecDepth 100000 in
theorem apply_x2 : Calls Try.prog 36 #[.pointer (some ⟨g, 0, none⟩), .string ⟨#[110, 101, 117, 116, 114, 97, 108]⟩] w (RuEnd base g (.slice (some ⟨gu, 0, none⟩) l.length l.length) (Oz.applyR 2 l) w) := by
  have HS := Lib.hid (first_ru 58 base g gs gu cap l vs Oz.neutralR w h hu (fun x w => by kernel_rfl) (fun i s w h hu hs => (neutral_any base g gs cap i l vs _ s w h hs hc).mono fun _ _ h => h.ru))
  have hmf : ∀ (fn : Fn) (first cap : Array Value) (w : World), (Instr.makeFunc fn first cap).run Try.prog w = .ok (.func fn first cap) w := fun _ _ _ _ => rfl
  obtain ⟨r, hr⟩ : ∃ r, r = Oz.applyR 2 l := ⟨_, rfl⟩
  have hr' : r = Oz.firstOf Oz.neutralR l := hr
  rw [← hr'] at HS
  rw [← hr]
  clear h hu hc hr hr'
  go_enter Try.func36, Try.ntmps36
  go_wp2_with fail
  refine HS.out.mono ?_
  rintro e w1 ⟨rfl, h1⟩
  have H1 := Lib.hid h1
  obtain ⟨z, hz⟩ : ∃ z, z = r.isSome := ⟨_, rfl⟩
  have HZ := Lib.hid hz
  rw [← hz]
  clear h1 HS hz
  go_wp2_with fail
  go_ret
  exact ⟨congrArg (fun z => Ending.returned (Value.bool z)) HZ.out, H1.out⟩
include h hu hc in
set_option maxRecDepth 100000 in
theorem apply_x3 : Calls Try.prog 36 #[.pointer (some ⟨g, 0, none⟩), .string ⟨#[110, 101, 103, 97, 116, 101]⟩] w (RuEnd base g (.slice (some ⟨gu, 0, none⟩) l.length l.length) (Oz.applyR 3 l) w) := by
  have HS := Lib.hid (first_ru 59 base g gs gu cap l vs Oz.negateR w h hu (fun x w => by kernel_rfl) (fun i s w h hu hs => (negate_any base g gs gu cap i l vs s w h hu hs hc).mono fun _ _ h => h.ru))
  have hmf : ∀ (fn : Fn) (first cap : Array Value) (w : World), (Instr.makeFunc fn first cap).run Try.prog w = .ok (.func fn first cap) w := fun _ _ _ _ => rfl
  obtain ⟨r, hr⟩ : ∃ r, r = Oz.applyR 3 l := ⟨_, rfl⟩
  have hr' : r = Oz.firstOf Oz.negateR l := hr
  rw [← hr'] at HS
  rw [← hr]
  clear h hu hc hr hr'
  go_enter Try.func36, Try.ntmps36
  go_wp2_with fail
  refine HS.out.mono ?_
  rintro e w1 ⟨rfl, h1⟩
  have H1 := Lib.hid h1
  obtain ⟨z, hz⟩ : ∃ z, z = r.isSome := ⟨_, rfl⟩
  have HZ := Lib.hid hz
  rw [← hz]
  clear h1 HS hz
  go_wp2_with fail
  go_ret
  exact ⟨congrArg (fun z => Ending.returned (Value.bool z)) HZ.out, H1.out⟩
include h hu hc in
set_option maxRecDepth 100000 in
theorem apply_x4 : Calls Try.prog 36 #[.pointer (some ⟨g, 0, none⟩), .string ⟨#[99, 111, 109, 109, 111, 110]⟩] w (RuEnd base g (.slice (some ⟨gu, 0, none⟩) l.length l.length) (Oz.applyR 4 l) w) := by
  have HS := Lib.hid (first_ru 60 base g gs gu cap l vs Oz.commonR w h hu (fun x w => by kernel_rfl) (fun i s w h hu hs => (common_any base g gs cap i l vs _ s w h hs (fun hop => by rw [ok_arity hc hs 2 (by rw [hop]; kernel_rfl)]; exact Nat.le_refl 2)).mono fun _ _ h => h.ru))
  have hmf : ∀ (fn : Fn) (first cap : Array Value) (w : World), (Instr.makeFunc fn first cap).run Try.prog w = .ok (.func fn first cap) w := fun _ _ _ _ => rfl
  obtain ⟨r, hr⟩ : ∃ r, r = Oz.applyR 4 l := ⟨_, rfl⟩
  have hr' : r = Oz.firstOf Oz.commonR l := hr
  rw [← hr'] at HS
  rw [← hr]
  clear h hu hc hr hr'
  go_enter Try.func36, Try.ntmps36
  go_wp2_with fail
  refine HS.out.mono ?_
  rintro e w1 ⟨rfl, h1⟩
  have H1 := Lib.hid h1
  obtain ⟨z, hz⟩ : ∃ z, z = r.isSome := ⟨_, rfl⟩
  have HZ := Lib.hid hz
  rw [← hz]
  clear h1 HS hz
  go_wp2_with fail
  go_ret
  exact ⟨congrArg (fun z => Ending.returned (Value.bool z)) HZ.out, H1.out⟩
include h hu hc in
set_option maxRecDepth 100000 in
theorem apply_x5 : Calls Try.prog 36 #[.pointer (some ⟨g, 0, none⟩), .string ⟨#[109, 97, 116, 99, 104, 101, 115]⟩] w (RuEnd base g (.slice (some ⟨gu, 0, none⟩) l.length l.length) (Oz.applyR 5 l) w) := by
  have HS := Lib.hid (first_ru 61 base g gs gu cap l vs Oz.matchesR w h hu (fun x w => by kernel_rfl) (fun i s w h hu hs => (matches_any base g gs gu cap i l vs s w h hu hs hc).mono fun _ _ h => h.ru))
  have hmf : ∀ (fn : Fn) (first cap : Array Value) (w : World), (Instr.makeFunc fn first cap).run Try.prog w = .ok (.func fn first cap) w := fun _ _ _ _ => rfl
  obtain ⟨r, hr⟩ : ∃ r, r = Oz.applyR 5 l := ⟨_, rfl⟩
  have hr' : r = Oz.firstOf Oz.matchesR l := hr
  rw [← hr'] at HS
  rw [← hr]
  clear h hu hc hr hr'
  go_enter Try.func36, Try.ntmps36
  go_wp2_with fail
  refine HS.out.mono ?_
  rintro e w1 ⟨rfl, h1⟩
  have H1 := Lib.hid h1
  obtain ⟨z, hz⟩ : ∃ z, z = r.isSome := ⟨_, rfl⟩
  have HZ := Lib.hid hz
  rw [← hz]
  clear h1 HS hz
  go_wp2_with fail
  go_ret
  exact ⟨congrArg (fun z => Ending.returned (Value.bool z)) HZ.out, H1.out⟩
include h hu hc in
set_option maxRecDepth 100000 in
theorem apply_x6 : Calls Try.prog 36 #[.pointer (some ⟨g, 0, none⟩), .string ⟨#[102, 105, 114, 115, 116, 102, 105, 110, 100]⟩] w (RuEnd base g (.slice (some ⟨gu, 0, none⟩) l.length l.length) (Oz.applyR 6 l) w) := by
  have HS := Lib.hid (first_ru 62 base g gs gu cap l vs Oz.firstFindR w h hu (fun x w => by kernel_rfl) (fun i s w h hu hs => (firstFind_any base g gs gu cap i l vs s w h hu hs hc).mono fun _ _ h => h.ru))
  have hmf : ∀ (fn : Fn) (first cap : Array Value) (w : World), (Instr.makeFunc fn first cap).run Try.prog w = .ok (.func fn first cap) w := fun _ _ _ _ => rfl
  obtain ⟨r, hr⟩ : ∃ r, r = Oz.applyR 6 l := ⟨_, rfl⟩
  have hr' : r = Oz.firstOf Oz.firstFindR l := hr
  rw [← hr'] at HS
  rw [← hr]
  clear h hu hc hr hr'
  go_enter Try.func36, Try.ntmps36
  go_wp2_with fail
  refine HS.out.mono ?_
  rintro e w1 ⟨rfl, h1⟩
  have H1 := Lib.hid h1
  obtain ⟨z, hz⟩ : ∃ z, z = r.isSome := ⟨_, rfl⟩
  have HZ := Lib.hid hz
  rw [← hz]
  clear h1 HS hz
  go_wp2_with fail
  go_ret
  exact ⟨congrArg (fun z => Ending.returned (Value.bool z)) HZ.out, H1.out⟩
include h hu hc in
set_option maxRecDepth 100000 in
theorem apply_x7 : Calls Try.prog 36 #[.pointer (some ⟨g, 0, none⟩), .string ⟨#[108, 101, 110, 99, 117, 116]⟩] w (RuEnd base g (.slice (some ⟨gu, 0, none⟩) l.length l.length) (Oz.applyR 7 l) w) := by
  have HS := Lib.hid (first_ru 63 base g gs gu cap l vs Oz.lenCutR w h hu (fun x w => by kernel_rfl) (fun i s w h hu hs => (lenCut_any base g gs gu cap i l vs s w h hu hs hc).mono fun _ _ h => h.ru))
  have hmf : ∀ (fn : Fn) (first cap : Array Value) (w : World), (Instr.makeFunc fn first cap).run Try.prog w = .ok (.func fn first cap) w := fun _ _ _ _ => rfl
  obtain ⟨r, hr⟩ : ∃ r, r = Oz.applyR 7 l := ⟨_, rfl⟩
  have hr' : r = Oz.firstOf Oz.lenCutR l := hr
  rw [← hr'] at HS
  rw [← hr]
  clear h hu hc hr hr'
  go_enter Try.func36, Try.ntmps36
  go_wp2_with fail
  refine HS.out.mono ?_
  rintro e w1 ⟨rfl, h1⟩
  have H1 := Lib.hid h1
  obtain ⟨z, hz⟩ : ∃ z, z = r.isSome := ⟨_, rfl⟩
  have HZ := Lib.hid hz
  rw [← hz]
  clear h1 HS hz
  go_wp2_with fail
  go_ret
  exact ⟨congrArg (fun z => Ending.returned (Value.bool z)) HZ.out, H1.out⟩
include h hu hc in
set_option maxRecDepth 100000 in
theorem apply_x8 : Calls Try.prog 36 #[.pointer (some ⟨g, 0, none⟩), .string ⟨#[108, 101, 110, 115, 117, 109]⟩] w (RuEnd base g (.slice (some ⟨gu, 0, none⟩) l.length l.length) (Oz.applyR 8 l) w) := by
  have HS := Lib.hid (first_ru 64 base g gs gu cap l vs Oz.lenSumR w h hu (fun x w => by kernel_rfl) (fun i s w h hu hs => lenSum_any base g gs gu cap i l vs s w h hu hs hc))
  have hmf : ∀ (fn : Fn) (first cap : Array Value) (w : World), (Instr.makeFunc fn first cap).run Try.prog w = .ok (.func fn first cap) w := fun _ _ _ _ => rfl
  obtain ⟨r, hr⟩ : ∃ r, r = Oz.applyR 8 l := ⟨_, rfl⟩
  have hr' : r = Oz.firstOf Oz.lenSumR l := hr
  rw [← hr'] at HS
  rw [← hr]
  clear h hu hc hr hr'
  go_enter Try.func36, Try.ntmps36
  go_wp2_with fail
  refine HS.out.mono ?_
  rintro e w1 ⟨rfl, h1⟩
  have H1 := Lib.hid h1
  obtain ⟨z, hz⟩ : ∃ z, z = r.isSome := ⟨_, rfl⟩
  have HZ := Lib.hid hz
  rw [← hz]
  clear h1 HS hz
  go_wp2_with fail
  go_ret
  exact ⟨congrArg (fun z => Ending.returned (Value.bool z)) HZ.out, H1.out⟩
include h hu hc in
set_option maxRecDepth 100000 in
theorem apply_x9 : Calls Try.prog 36 #[.pointer (some ⟨g, 0, none⟩), .string ⟨#[108, 101, 110, 114, 101, 112]⟩] w (RuEnd base g (.slice (some ⟨gu, 0, none⟩) l.length l.length) (Oz.applyR 9 l) w) := by
  have HS := Lib.hid (first_ru 65 base g gs gu cap l vs Oz.lenRepR w h hu (fun x w => by kernel_rfl) (fun i s w h hu hs => lenRep_any base g gs gu cap i l vs s w h hu hs hc))
  have hmf : ∀ (fn : Fn) (first cap : Array Value) (w : World), (Instr.makeFunc fn first cap).run Try.prog w = .ok (.func fn first cap) w := fun _ _ _ _ => rfl
  obtain ⟨r, hr⟩ : ∃ r, r = Oz.applyR 9 l := ⟨_, rfl⟩
  have hr' : r = Oz.firstOf Oz.lenRepR l := hr
  rw [← hr'] at HS
  rw [← hr]
  clear h hu hc hr hr'
  go_enter Try.func36, Try.ntmps36
  go_wp2_with fail
  refine HS.out.mono ?_
  rintro e w1 ⟨rfl, h1⟩
  have H1 := Lib.hid h1
  obtain ⟨z, hz⟩ : ∃ z, z = r.isSome := ⟨_, rfl⟩
  have HZ := Lib.hid hz
  rw [← hz]
  clear h1 HS hz
  go_wp2_with fail
  go_ret
  exact ⟨congrArg (fun z => Ending.returned (Value.bool z)) HZ.out, H1.out⟩
include h hu hc in
set_option maxRecDepth 100000 in
theorem apply_x10 : Calls Try.prog 36 #[.pointer (some ⟨g, 0, none⟩), .string ⟨#[117, 110, 117, 115, 101, 100]⟩] w (RuEnd base g (.slice (some ⟨gu, 0, none⟩) l.length l.length) (Oz.applyR 10 l) w) := by
  have HS := Lib.hid (first_ru 66 base g gs gu cap l vs Oz.unusedR w h hu (fun x w => by kernel_rfl) (fun i s w h hu hs => (unused_any base g gs gu cap i l vs s w h hu hs (ok_bd hc)).mono fun _ _ h => h.ru))
  have hmf : ∀ (fn : Fn) (first cap : Array Value) (w : World), (Instr.makeFunc fn first cap).run Try.prog w = .ok (.func fn first cap) w := fun _ _ _ _ => rfl
  obtain ⟨r, hr⟩ : ∃ r, r = Oz.applyR 10 l := ⟨_, rfl⟩
  have hr' : r = Oz.firstOf Oz.unusedR l := hr
  rw [← hr'] at HS
  rw [← hr]
  clear h hu hc hr hr'
  go_enter Try.func36, Try.ntmps36
  go_wp2_with fail
  refine HS.out.mono ?_
  rintro e w1 ⟨rfl, h1⟩
  have H1 := Lib.hid h1
  obtain ⟨z, hz⟩ : ∃ z, z = r.isSome := ⟨_, rfl⟩
  have HZ := Lib.hid hz
  rw [← hz]
  clear h1 HS hz
  go_wp2_with fail
  go_ret
  exact ⟨congrArg (fun z => Ending.returned (Value.bool z)) HZ.out, H1.out⟩
include h hu hc in
theorem apply_any (k : Nat) (s : List UInt8) (hs : namesR[k]? = some s) : Calls Try.prog 36 #[.pointer (some ⟨g, 0, none⟩), .string ⟨s.toArray⟩] w (RuEnd base g (.slice (some ⟨gu, 0, none⟩) l.length l.length) (Oz.applyR k l) w) := by
  have hk := (List.getElem?_eq_some_iff.1 hs).1
  have hk : k < 11 := hk
  have hcs : k = 0 ∨ k = 1 ∨ k = 2 ∨ k = 3 ∨ k = 4 ∨ k = 5 ∨ k = 6 ∨ k = 7 ∨ k = 8 ∨ k = 9 ∨ k = 10 := by omega
  rcases hcs with rfl | rfl | rfl | rfl | rfl | rfl | rfl | rfl | rfl | rfl | rfl
  · injection hs with hs
    subst hs
    exact apply_x0 h hu hc
  · injection hs with hs
    subst hs
    exact apply_x1 h hu hc
  · injection hs with hs
    subst hs
    exact apply_x2 h hu hc
  · injection hs with hs
    subst hs
    exact apply_x3 h hu hc
  · injection hs with hs
    subst hs
    exact apply_x4 h hu hc
  · injection hs with hs
    subst hs
    exact apply_x5 h hu hc
  · injection hs with hs
    subst hs
    exact apply_x6 h hu hc
  · injection hs with hs
    subst hs
    exact apply_x7 h hu hc
  · injection hs with hs
    subst hs
    exact apply_x8 h hu hc
  · injection hs with hs
    subst hs
    exact apply_x9 h hu hc
  · injection hs with hs
    subst hs
    exact apply_x10 h hu hc
include h hu hc in
theorem round_any (gr c : Nat) (hn : Blk w gr 9 namesC) : Calls Try.prog 35 #[.slice (some ⟨gr, 0, none⟩) 11 c, .func (.func 36) #[.pointer (some ⟨g, 0, none⟩)] #[]] w (RuEnd base g (.slice (some ⟨gu, 0, none⟩) l.length l.length) (Oz.anyR l) w) := by
  obtain ⟨k, hk, h0, h1⟩ := first_place (fun k => Oz.applyR k l) 11
  have hul := hu.lt
  have hnl := hn.lt
  have hbase := h.base_le
  refine (contF_gen 36 (.pointer (some ⟨g, 0, none⟩)) (some ⟨gr, 0, none⟩) c k namesR (fun w' => Below w.heap.size w w') (fun w' => ∃ l', Oz.applyR k l = some l' ∧ (∃ gs' cap' vs', EdX w' base g gs' cap' l' vs' (.slice (some ⟨gu, 0, none⟩) l.length l.length)) ∧ FrX base w w') (by decide) hk (fun x w => by kernel_rfl) (fun w' i s hb hs => ⟨gr, 0, rfl, by rw [Nat.zero_add, (hn.below hb hnl).cell]; exact namesC_at hs⟩) (fun i s w' hi hs hb => ?_) (fun s w' hs hb => ?_) w (Below.refl _ _)).mono ?_
  · refine (apply_any (h.below hb) (hu.below hb hul) hc i s hs).mono ?_
    intro e w2 he
    have h0i : Oz.applyR i l = none := h0 i hi
    rw [h0i] at he
    exact ⟨he.1, hb.trans (he.2.mono hb.size)⟩
  · refine (apply_any (h.below hb) (hu.below hb hul) hc k s hs).mono ?_
    intro e w2 he
    have hk11 : k < 11 := (List.getElem?_eq_some_iff.1 hs).1
    rcases h1 with h1 | ⟨l', _, hl'⟩
    · omega
    · have hl' : Oz.applyR k l = some l' := hl'
      rw [hl'] at he
      exact ⟨he.1, l', hl', he.2.1, ((FrX.refl base w).below hb hbase).trans he.2.2⟩
  · rintro e w' (⟨hkn, rfl, l', hl', he, hf⟩ | ⟨hkn, rfl, hb⟩)
    · have : Oz.anyR l = some l' := rs_some h0 hl' 11 hkn
      rw [this]
      exact ⟨rfl, he, hf⟩
    · have hkn : k = 11 := hkn
      have : Oz.anyR l = none := rs_none (fun j hj => h0 j (by omega))
      rw [this]
      exact ⟨rfl, hb⟩
end
end Go.Proofs.Ytniefnjcimempaa
